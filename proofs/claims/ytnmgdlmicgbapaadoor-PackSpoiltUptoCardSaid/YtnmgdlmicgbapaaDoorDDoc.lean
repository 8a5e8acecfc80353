/- The plain law of the document's reading: a place and a flag; once spoilt, always spoilt; else what is read off. No program in sight. -/
import Derived.Test.YtnmgdlmicgbapaaDoorDLaw
namespace Go.Proofs.YtnmgdlmicgbapaaDoor.Pk
abbrev St := Nat × Bool
/-- A read of a number, as a cursor does it: the number, the place, the flag. -/
def rnum (b : B) (n : Nat) (s : St) : Nat × St := if s.2 = true ∨ b.length < s.1 + n then (0, (s.1, true)) else (val ((b.drop s.1).take n), (s.1 + n, false))
def rtake (b : B) (n : Nat) (s : St) : B × St := if s.2 = true ∨ b.length < s.1 + n then ([], (s.1, true)) else ((b.drop s.1).take n, (s.1 + n, false))
def rnums (b : B) : Nat → St → List Int × St
  | 0, s => ([], s)
  | m + 1, s => if s.2 = true then ([], s) else (((rnum b 4 s).1 : Int) :: (rnums b m (rnum b 4 s).2).1, (rnums b m (rnum b 4 s).2).2)
/-- What a run of reads says of reading off. -/
def Tie {α : Type} (b : B) (r : Option (α × B)) (x : α × St) : Prop := (x.2.2 = false ∧ r = some (x.1, b.drop x.2.1) ∧ x.2.1 ≤ b.length) ∨ (x.2.2 = true ∧ r = none)
theorem rnum_tie (b : B) (n at' : Nat) (h : at' ≤ b.length) : Tie b (numB n (b.drop at')) (rnum b n (at', false)) := by
  by_cases hn : b.length < at' + n
  · have e1 : rnum b n (at', false) = (0, (at', true)) := by unfold rnum; exact if_pos (Or.inr hn)
    have e2 : numB n (b.drop at') = none := by unfold numB; exact if_neg (by rw [List.length_drop]; omega)
    rw [e1, e2]
    exact Or.inr ⟨rfl, rfl⟩
  · have e1 : rnum b n (at', false) = (val ((b.drop at').take n), (at' + n, false)) := by unfold rnum; exact if_neg (fun h => h.elim (fun h => by cases h) hn)
    have e2 : numB n (b.drop at') = some (val ((b.drop at').take n), (b.drop at').drop n) := by unfold numB; exact if_pos (by rw [List.length_drop]; omega)
    rw [e1, e2]
    exact Or.inl ⟨rfl, by rw [List.drop_drop], by show at' + n ≤ b.length; omega⟩
theorem rtake_tie (b : B) (n at' : Nat) (h : at' ≤ b.length) : Tie b (takeB n (b.drop at')) (rtake b n (at', false)) := by
  by_cases hn : b.length < at' + n
  · have e1 : rtake b n (at', false) = ([], (at', true)) := by unfold rtake; exact if_pos (Or.inr hn)
    have e2 : takeB n (b.drop at') = none := by unfold takeB; exact if_neg (by rw [List.length_drop]; omega)
    rw [e1, e2]
    exact Or.inr ⟨rfl, rfl⟩
  · have e1 : rtake b n (at', false) = ((b.drop at').take n, (at' + n, false)) := by unfold rtake; exact if_neg (fun h => h.elim (fun h => by cases h) hn)
    have e2 : takeB n (b.drop at') = some ((b.drop at').take n, (b.drop at').drop n) := by unfold takeB; exact if_pos (by rw [List.length_drop]; omega)
    rw [e1, e2]
    exact Or.inl ⟨rfl, by rw [List.drop_drop], by show at' + n ≤ b.length; omega⟩
theorem rnum_spoilt (b : B) (n at' : Nat) : rnum b n (at', true) = (0, (at', true)) := by unfold rnum; rw [if_pos (.inl rfl)]
theorem rtake_spoilt (b : B) (n at' : Nat) : rtake b n (at', true) = ([], (at', true)) := by unfold rtake; rw [if_pos (.inl rfl)]
theorem rnums_spoilt (b : B) : ∀ (m at' : Nat), rnums b m (at', true) = ([], (at', true))
  | 0, _ => rfl
  | m + 1, at' => by rw [rnums, if_pos rfl]
theorem rnums_tie (b : B) : ∀ (m at' : Nat), at' ≤ b.length → Tie b (nums m (b.drop at')) (rnums b m (at', false))
  | 0, at', h => .inl ⟨rfl, rfl, h⟩
  | m + 1, at', h => by
    have ht := rnum_tie b 4 at' h
    rw [rnums, if_neg (by simp), nums]
    rcases hr : rnum b 4 (at', false) with ⟨v, a2, f2⟩
    rw [hr] at ht
    rcases ht with ⟨h1, h2, h3⟩ | ⟨h1, h2⟩
    · simp only at h1 h2 h3
      subst h1
      rw [h2]
      have ih := rnums_tie b m a2 h3
      simp only [Option.bind_some]
      rcases ih with ⟨g1, g2, g3⟩ | ⟨g1, g2⟩
      · rw [g2]
        exact .inl ⟨g1, rfl, g3⟩
      · rw [g2]
        exact .inr ⟨g1, rfl⟩
    · simp only at h1
      subst h1
      rw [h2, rnums_spoilt]
      exact .inr ⟨rfl, rfl⟩
theorem Tie.bind {α β : Type} {b : B} {r : Option (α × B)} {x : α × St} (h : Tie b r x) (f : α → B → Option (β × B)) (g : α → St → β × St)
    (h1 : ∀ at', at' ≤ b.length → Tie b (f x.1 (b.drop at')) (g x.1 (at', false))) (h2 : ∀ at', (g x.1 (at', true)).2.2 = true) : Tie b (r.bind fun y => f y.1 y.2) (g x.1 x.2) := by
  obtain ⟨v, a2, f2⟩ := x
  rcases h with ⟨e1, e2, e3⟩ | ⟨e1, e2⟩
  · simp only at e1 e2 e3 h1 ⊢
    subst e1
    rw [e2]
    exact h1 a2 e3
  · simp only at e1 h2 ⊢
    subst e1
    rw [e2]
    exact Or.inr ⟨h2 a2, rfl⟩
/-- An item's reads, as the document does them. -/
def ritem (b : B) (s : St) : PItem × St :=
  let k := rnum b 1 s; let n := rnum b 2 k.2; let p := rtake b n.1 n.2; let e := rnum b 4 p.2; let z := rnum b 4 e.2; let m := rnum b 4 z.2; let q := rnums b m.1 m.2; let dl := rnum b 4 q.2; let d := rtake b dl.1 dl.2
  (⟨p.1, k.1, z.1, d.1, q.1, (e.1 : Int) - 1⟩, d.2)
theorem ritem_spoilt (b : B) (at' : Nat) : (ritem b (at', true)).2.2 = true := by
  unfold ritem
  simp only [rnum_spoilt, rtake_spoilt, rnums_spoilt]
theorem ritem_tie (b : B) (at' : Nat) (h : at' ≤ b.length) : Tie b (item (b.drop at')) (ritem b (at', false)) := by
  unfold item ritem
  have tk := rnum_tie b 1 at' h
  rcases ek : rnum b 1 (at', false) with ⟨vk, ak, fk⟩
  rw [ek] at tk
  rcases tk with ⟨g1k, g2k, g3k⟩ | ⟨g1k, g2k⟩
  rotate_left
  · simp only at g1k
    subst g1k
    rw [g2k]
    exact Or.inr ⟨by simp only [rnum_spoilt, rtake_spoilt, rnums_spoilt], rfl⟩
  simp only at g1k g2k g3k
  subst g1k
  rw [g2k]
  simp only [Option.bind_some]
  have tn := rnum_tie b 2 ak g3k
  rcases en : rnum b 2 (ak, false) with ⟨vn, an, fn⟩
  rw [en] at tn
  rcases tn with ⟨g1n, g2n, g3n⟩ | ⟨g1n, g2n⟩
  rotate_left
  · simp only at g1n
    subst g1n
    rw [g2n]
    exact Or.inr ⟨by simp only [rnum_spoilt, rtake_spoilt, rnums_spoilt], rfl⟩
  simp only at g1n g2n g3n
  subst g1n
  rw [g2n]
  simp only [Option.bind_some]
  have tp := rtake_tie b vn an g3n
  rcases ep : rtake b vn (an, false) with ⟨vp, ap, fp⟩
  rw [ep] at tp
  rcases tp with ⟨g1p, g2p, g3p⟩ | ⟨g1p, g2p⟩
  rotate_left
  · simp only at g1p
    subst g1p
    rw [g2p]
    exact Or.inr ⟨by simp only [rnum_spoilt, rtake_spoilt, rnums_spoilt], rfl⟩
  simp only at g1p g2p g3p
  subst g1p
  rw [g2p]
  simp only [Option.bind_some]
  have te := rnum_tie b 4 ap g3p
  rcases ee : rnum b 4 (ap, false) with ⟨ve, ae, fe⟩
  rw [ee] at te
  rcases te with ⟨g1e, g2e, g3e⟩ | ⟨g1e, g2e⟩
  rotate_left
  · simp only at g1e
    subst g1e
    rw [g2e]
    exact Or.inr ⟨by simp only [rnum_spoilt, rtake_spoilt, rnums_spoilt], rfl⟩
  simp only at g1e g2e g3e
  subst g1e
  rw [g2e]
  simp only [Option.bind_some]
  have tz := rnum_tie b 4 ae g3e
  rcases ez : rnum b 4 (ae, false) with ⟨vz, az, fz⟩
  rw [ez] at tz
  rcases tz with ⟨g1z, g2z, g3z⟩ | ⟨g1z, g2z⟩
  rotate_left
  · simp only at g1z
    subst g1z
    rw [g2z]
    exact Or.inr ⟨by simp only [rnum_spoilt, rtake_spoilt, rnums_spoilt], rfl⟩
  simp only at g1z g2z g3z
  subst g1z
  rw [g2z]
  simp only [Option.bind_some]
  have tm := rnum_tie b 4 az g3z
  rcases em : rnum b 4 (az, false) with ⟨vm, am, fm⟩
  rw [em] at tm
  rcases tm with ⟨g1m, g2m, g3m⟩ | ⟨g1m, g2m⟩
  rotate_left
  · simp only at g1m
    subst g1m
    rw [g2m]
    exact Or.inr ⟨by simp only [rnum_spoilt, rtake_spoilt, rnums_spoilt], rfl⟩
  simp only at g1m g2m g3m
  subst g1m
  rw [g2m]
  simp only [Option.bind_some]
  have tq := rnums_tie b vm am g3m
  rcases eq : rnums b vm (am, false) with ⟨vq, aq, fq⟩
  rw [eq] at tq
  rcases tq with ⟨g1q, g2q, g3q⟩ | ⟨g1q, g2q⟩
  rotate_left
  · simp only at g1q
    subst g1q
    rw [g2q]
    exact Or.inr ⟨by simp only [rnum_spoilt, rtake_spoilt], rfl⟩
  simp only at g1q g2q g3q
  subst g1q
  rw [g2q]
  simp only [Option.bind_some]
  have tdl := rnum_tie b 4 aq g3q
  rcases edl : rnum b 4 (aq, false) with ⟨vdl, adl, fdl⟩
  rw [edl] at tdl
  rcases tdl with ⟨g1dl, g2dl, g3dl⟩ | ⟨g1dl, g2dl⟩
  rotate_left
  · simp only at g1dl
    subst g1dl
    rw [g2dl]
    exact Or.inr ⟨by simp only [rtake_spoilt], rfl⟩
  simp only at g1dl g2dl g3dl
  subst g1dl
  rw [g2dl]
  simp only [Option.bind_some]
  have td := rtake_tie b vdl adl g3dl
  rcases ed : rtake b vdl (adl, false) with ⟨vd, ad, fd⟩
  rw [ed] at td
  rcases td with ⟨g1d, g2d, g3d⟩ | ⟨g1d, g2d⟩
  rotate_left
  · simp only at g1d
    subst g1d
    rw [g2d]
    exact Or.inr ⟨rfl, rfl⟩
  simp only at g1d g2d g3d
  subst g1d
  rw [g2d]
  simp only [Option.bind_some]
  exact Or.inl ⟨rfl, rfl, g3d⟩
def ritems (b : B) : Nat → St → List PItem × St
  | 0, s => ([], s)
  | m + 1, s => if s.2 = true then ([], s) else ((ritem b s).1 :: (ritems b m (ritem b s).2).1, (ritems b m (ritem b s).2).2)
theorem ritems_spoilt (b : B) : ∀ (m at' : Nat), ritems b m (at', true) = ([], (at', true))
  | 0, _ => rfl
  | m + 1, at' => by rw [ritems, if_pos rfl]
theorem ritems_tie (b : B) : ∀ (m at' : Nat), at' ≤ b.length → Tie b (items m (b.drop at')) (ritems b m (at', false))
  | 0, at', h => .inl ⟨rfl, rfl, h⟩
  | m + 1, at', h => by
    have ht := ritem_tie b at' h
    rw [ritems, if_neg (by simp), items]
    rcases hr : ritem b (at', false) with ⟨v, a2, f2⟩
    rw [hr] at ht
    rcases ht with ⟨h1, h2, h3⟩ | ⟨h1, h2⟩
    · simp only at h1 h2 h3
      subst h1
      rw [h2]
      have ih := ritems_tie b m a2 h3
      simp only [Option.bind_some]
      rcases ih with ⟨g1, g2, g3⟩ | ⟨g1, g2⟩
      · rw [g2]
        exact .inl ⟨g1, rfl, g3⟩
      · rw [g2]
        exact .inr ⟨g1, rfl⟩
    · simp only at h1
      subst h1
      rw [h2, ritems_spoilt]
      exact .inr ⟨rfl, rfl⟩
/-- All that the document reads. -/
def rread (b : B) : List PItem × St := ritems b (rnum b 4 (rtake b 8 (0, false)).2).1 (rnum b 4 (rtake b 8 (0, false)).2).2
/-- It reads what is read off, or is spoilt. -/
theorem rread_eq (b : B) : readB b = if (rread b).2.2 = true then none else some (rread b).1 := by
  unfold readB rread
  have t1 := rtake_tie b 8 0 (Nat.zero_le _)
  rw [List.drop_zero] at t1
  rcases e1 : rtake b 8 (0, false) with ⟨v1, a1, f1⟩
  rw [e1] at t1
  rcases t1 with ⟨h1, h2, h3⟩ | ⟨h1, h2⟩
  · simp only at h1 h2 h3
    subst h1
    rw [h2]
    simp only [Option.bind_some]
    have t2 := rnum_tie b 4 a1 h3
    rcases e2 : rnum b 4 (a1, false) with ⟨v2, a2, f2⟩
    rw [e2] at t2
    rcases t2 with ⟨g1, g2, g3⟩ | ⟨g1, g2⟩
    · simp only at g1 g2 g3
      subst g1
      rw [g2]
      simp only [Option.bind_some]
      rcases ritems_tie b v2 a2 g3 with ⟨k1, k2, _⟩ | ⟨k1, k2⟩
      · rw [k2, k1]; rfl
      · rw [k2, k1]; rfl
    · simp only at g1
      subst g1
      rw [g2, ritems_spoilt]; rfl
  · simp only at h1
    subst h1
    rw [h2, rnum_spoilt, ritems_spoilt]; rfl
end Go.Proofs.YtnmgdlmicgbapaaDoor.Pk
