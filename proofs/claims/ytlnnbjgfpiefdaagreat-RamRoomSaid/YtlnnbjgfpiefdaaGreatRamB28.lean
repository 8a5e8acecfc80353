/- Rename, with all that takes back. -/
import Derived.Test.YtlnnbjgfpiefdaaGreatRamB27
import Derived.Test.YtlnnbjgfpiefdaaGreatRamB13
namespace Go.Proofs.YtlnnbjgfpiefdaaGreat
open Go.RowKit Go.Maps Go.Shelf

namespace Fs
section
variable {W : World} {L : Lay} {fb : Nat} {n : Int} {nb : Nat} {uv : Value} {vals : List Value}
set_option maxRecDepth 100000 in
theorem rename_results {tmps : Array Value} {bi : Nat} {w : World} {v z : Value} (h8 : tmps[8]? = some (.pointer (some ⟨bi, 0, none⟩))) (h9 : tmps[9]? = some z) (hc : w.cell? ⟨bi, 0, none⟩ = some v) : (results Tryz.f31 tmps).run Tryz.prog w = .ok (.tuple #[v, z]) w := by
  simp [results, Tryz.results31, go_sem, h8, h9, hc]
set_option maxRecDepth 100000 in
set_option maxHeartbeats 4000000 in
theorem rename_st (h : Sim W L fb n nb uv vals) (hw : WF L nb) (hS : Snug (stOf L nb)) (hn1 : 128 ≤ n) (hn2 : n ≤ 16384) (old other : Tx) (ho : old.length ≤ 140737488355328) (hr : other.length ≤ 140737488355328) (hold : Bool)
    (hto : ∀ s' t v, renameD (stOf L nb) old other hold = .ok (s', t, v) → TOk s') :
    Calls Tryz.prog 31 #[.pointer (some ⟨fb, 0, none⟩), .string (mk old), .string (mk other), .bool hold] W fun e W' => Errd2 fb n nb W L uv (fin n (stOf L nb) (renameD (stOf L nb) old other hold)) e W' := by
  obtain ⟨W1, hW1⟩ : ∃ x, x = ((((W.alloc (.cells #[evP fb] 23)).alloc (.cells #[.string (mk old)] 9)).alloc (.cells #[.string (mk other)] 9)).alloc (.cells #[.bool hold] 4)).alloc (.cells #[.int .i64 0] 3) := ⟨_, rfl⟩
  have hb1 : Below W.heap.size W W1 := by rw [hW1]; exact (((((Below.refl _ _).alloc (Nat.le_refl _) _).alloc (by simp) _).alloc (by simp; omega) _).alloc (by simp; omega) _).alloc (by simp; omega) _
  have S1 := h.below hb1
  have hs1 : W1.heap.size = W.heap.size + 5 := by rw [hW1]; simp
  have hoff : ∀ x, W.heap.size ≤ x → ¬ Mine L uv x := fun x hx => h.not_mine hx
  have bf1 : Blk W1 W.heap.size #[evP fb] 23 := by rw [hW1]; exact ((((Blk.newAt _ _ rfl).alloc _).alloc _).alloc _).alloc _
  have bo1 : Blk W1 (W.heap.size + 1) #[.string (mk old)] 9 := by rw [hW1]; exact (((Blk.newAt _ _ (by simp)).alloc _).alloc _).alloc _
  have bn1 : Blk W1 (W.heap.size + 2) #[.string (mk other)] 9 := by rw [hW1]; exact ((Blk.newAt _ _ (by simp)).alloc _).alloc _
  have bh1 : Blk W1 (W.heap.size + 3) #[.bool hold] 4 := by rw [hW1]; exact (Blk.newAt _ _ (by simp)).alloc _
  have bi1 : Blk W1 (W.heap.size + 4) #[.int .i64 0] 3 := by rw [hW1]; exact Blk.newAt _ _ (by simp)
  have HC := call_st S1 hw hn1 hn2 55 #[evP (W.heap.size + 1), evP (W.heap.size + 2), evP W.heap.size, evP (W.heap.size + 3), evP (W.heap.size + 4)] (enters_of Tryz.func55 (by kernel_rfl) rfl) (· = W.heap.size + 4)
    (fun x hx => ⟨by omega, hoff x (by omega)⟩) (Holds (W.heap.size + 4) 3) (fun v w w' hv hx => Blk.same hv (hx _ rfl)) (renameD (stOf L nb) old other hold) (fun w Sw Tw hsz => by
      have o : ∀ (x : Nat) (xs : Array Value) (t : TypeId), W.heap.size ≤ x → Blk W1 x xs t → Off w L (.slice none 0 0) x xs t := fun x xs t hx hb => Off.step ⟨hb, hoff x hx⟩ Tw
      exact rename1_st Sw hw hS old other ho hr hold (W.heap.size + 1) (W.heap.size + 2) W.heap.size (W.heap.size + 3) (W.heap.size + 4) (o _ _ _ (by omega) bo1) (o _ _ _ (by omega) bn1) (o _ _ _ (by omega) bf1) (o _ _ _ (by omega) bh1) (o _ _ _ (by omega) bi1) hto)
  unfold fnV evP Ended at HC
  rw [hW1] at HC
  unfold evP at HC
  have Hall := Lib.hid (And.intro hb1 (And.intro hs1 (And.intro hoff hW1)))
  clear bf1 bo1 bn1 bh1 bi1 hto S1 hb1 hs1 hoff hW1
  generalize fin n (stOf L nb) (renameD (stOf L nb) old other hold) = r at *
  obtain ⟨s', r⟩ := r
  unfold Errd2
  dsimp only at HC ⊢
  cases r with
  | error z =>
    go_enter Tryz.func31, Tryz.ntmps31
    go_wp2_with (go_at_call 44; refine HC.mono ?_; rintro e w3 ⟨L3, S3, F3, st3, T3, z3, rfl, hzn, v, hv⟩; have g0 := hv.cell 0; have g1 := hv.free 0)
    obtain ⟨hb1, hs1, hoff, hW1⟩ := Hall
    rw [hW1] at hb1
    exact bodyPost_ret (v := .tuple #[.int .i64 v, .int .i64 z]) (rename_results rfl rfl ((hv.set 0 (.int .i64 v)).cell 0)) rfl ⟨L3, v, S3.same (by simp) (fun b hb => Below.heap_setCell _ _ _ _ (fun e => z3 _ rfl (by rw [← show b = W.heap.size + 4 from e]; exact hb))), F3, st3, (Step.unz hb1 T3 (fun x hx => by omega)).beside rfl rfl rfl (by simp) (fun k hk => Below.heap_setCell _ _ _ _ (fun e => by have e' : k = W.heap.size + 4 := e; omega)), rfl, hzn⟩
  | ok v =>
    go_enter Tryz.func31, Tryz.ntmps31
    go_wp2_with (go_at_call 44; refine HC.mono ?_; rintro e w3 ⟨L3, S3, F3, st3, T3, z3, rfl, hv⟩; have g0 := hv.cell 0; have g1 := hv.free 0)
    obtain ⟨hb1, hs1, hoff, hW1⟩ := Hall
    rw [hW1] at hb1
    exact bodyPost_ret (v := .tuple #[.int .i64 v, .int .i64 0]) (rename_results rfl rfl ((hv.set 0 (.int .i64 v)).cell 0)) rfl ⟨L3, v, S3.same (by simp) (fun b hb => Below.heap_setCell _ _ _ _ (fun e => z3 _ rfl (by rw [← show b = W.heap.size + 4 from e]; exact hb))), F3, st3, (Step.unz hb1 T3 (fun x hx => by omega)).beside rfl rfl rfl (by simp) (fun k hk => Below.heap_setCell _ _ _ _ (fun e => by have e' : k = W.heap.size + 4 := e; omega)), rfl⟩
end
end Fs
end Go.Proofs.YtlnnbjgfpiefdaaGreat
/- The shape of a tree of names: who is named by whom; what the calls do to it. No program in sight. -/
namespace Go.Proofs.YtlnnbjgfpiefdaaGreat
namespace Fs
/-- A name that a path can bear. -/
structure NameOk (t : Tx) : Prop where
  ne : t ≠ []
  len : t.length ≤ 27
  dot : t ≠ [46]
  dots : t ≠ [46, 46]
  slash : (47 : UInt8) ∉ t
  zero : (0 : UInt8) ∉ t
abbrev NmF := Int → Tx → Option Int
abbrev KdF := Int → Int
/-- From a directory down to another one: those ahead of it. -/
inductive Run (nm : NmF) (kd : KdF) (r : Int) : List Int → Int → Prop
  | nil : Run nm kd r [] r
  | snoc {pre : List Int} {d : Int} {c : Tx} {m : Int} : Run nm kd r pre d → nm d c = some m → kd m = 2 → Run nm kd r (pre ++ [d]) m
/-- A tree of names. -/
structure Shape (nm : NmF) (kd : KdF) : Prop where
  root : kd 1 = 2
  ent : ∀ d c m, nm d c = some m → NameOk c ∧ kd d = 2 ∧ kd m ≠ 0 ∧ m ≠ 1
  one : ∀ d c d' c' m, nm d c = some m → nm d' c' = some m → kd m = 2 → d = d' ∧ c = c'
  reach : ∀ d, kd d = 2 → ∃ pre, Run nm kd 1 pre d
  deep : ∀ pre d c m, Run nm kd 1 pre d → nm d c = some m → pre.length + 1 ≤ 32

section
variable {nm nm' : NmF} {kd kd' : KdF}
theorem Run.kind {r : Int} {pre : List Int} {d : Int} (h : Run nm kd r pre d) (hr : kd r = 2) : kd d = 2 := by cases h <;> assumption
theorem Run.kinds {r : Int} {pre : List Int} {d : Int} (h : Run nm kd r pre d) (hr : kd r = 2) : ∀ x ∈ pre, kd x = 2 := by
  induction h with
  | nil => simp
  | snoc h _ _ ih => intro x hx; rcases List.mem_append.1 hx with e | e
                     · exact ih x e
                     · rw [List.mem_singleton.1 e]; exact h.kind hr
theorem Run.append {a b c : Int} {p q : List Int} (h : Run nm kd a p b) (k : Run nm kd b q c) : Run nm kd a (p ++ q) c := by
  induction k with
  | nil => rw [List.append_nil]; exact h
  | snoc _ hc hk ih => rw [← List.append_assoc]; exact ih.snoc hc hk
theorem Run.none {r d : Int} (h : Run nm kd r [] d) : d = r := by
  generalize hp : ([] : List Int) = p at h
  cases h with
  | nil => rfl
  | snoc => simp at hp
theorem Run.head {r : Int} {x : Int} {l : List Int} {d : Int} (h : Run nm kd r (x :: l) d) : x = r := by
  generalize hp : x :: l = p at h
  induction h generalizing l with
  | nil => cases hp
  | @snoc pre d c m h _ _ ih =>
    cases pre with
    | nil => simp at hp; rw [hp.1]; exact h.none
    | cons y pre => simp only [List.cons_append, List.cons.injEq] at hp; exact ih (l := pre) (by rw [hp.1])
/-- The first step. -/
theorem Run.step {r d : Int} {l : List Int} (h : Run nm kd r (r :: l) d) : ∃ c x, nm r c = some x ∧ kd x = 2 ∧ Run nm kd x l d := by
  generalize hp : r :: l = p at h
  induction h generalizing l with
  | nil => cases hp
  | @snoc pre d c m h hc hk ih =>
    cases pre with
    | nil =>
      simp only [List.nil_append, List.cons.injEq] at hp
      obtain ⟨rfl, rfl⟩ := hp
      exact ⟨c, m, hc, hk, .nil⟩
    | cons y pre =>
      simp only [List.cons_append, List.cons.injEq] at hp
      obtain ⟨rfl, rfl⟩ := hp
      obtain ⟨c', x, h1, h2, h3⟩ := ih (l := pre) rfl
      exact ⟨c', x, h1, h2, h3.snoc hc hk⟩
theorem Run.mono {r : Int} {p : List Int} {d : Int} (h : Run nm kd r p d) (he : ∀ d c m, nm d c = some m → kd m = 2 → ∃ c', nm' d c' = some m ∧ kd' m = 2) : Run nm' kd' r p d := by
  induction h with
  | nil => exact .nil
  | snoc _ hc hk ih => obtain ⟨c', h1, h2⟩ := he _ _ _ hc hk; exact ih.snoc h1 h2
theorem Shape.unique (h : Shape nm kd) {p q : List Int} {d : Int} (hp : Run nm kd 1 p d) (hq : Run nm kd 1 q d) : p = q := by
  induction hp generalizing q with
  | nil => cases hq with
    | nil => rfl
    | snoc _ hc _ => exact absurd rfl (h.ent _ _ _ hc).2.2.2
  | snoc _ hc hk ih =>
    cases hq with
    | nil => exact absurd rfl (h.ent _ _ _ hc).2.2.2
    | snoc hq' hc' hk' =>
      obtain ⟨rfl, _⟩ := h.one _ _ _ _ _ hc hc' hk
      rw [ih hq']
theorem Shape.pre_le (h : Shape nm kd) {p : List Int} {d : Int} (hp : Run nm kd 1 p d) : p.length ≤ 32 := by
  cases hp with
  | nil => simp
  | snoc hp hc _ => have := h.deep _ _ _ _ hp hc; rw [List.length_append, List.length_singleton]; exact this
/-- None leads to itself. -/
theorem Shape.acyclic (h : Shape nm kd) {m : Int} {l : List Int} (hm : kd m = 2) (hr : Run nm kd m l m) : l = [] := by
  obtain ⟨p, hp⟩ := h.reach m hm
  have := congrArg List.length (h.unique hp (hp.append hr))
  rw [List.length_append] at this
  exact List.eq_nil_of_length_eq_zero (by omega)

/-- A name of what is no directory. -/
theorem Shape.leaf (h : Shape nm kd) {d : Int} {c : Tx} {m : Int} (hd : kd d = 2) (hc : NameOk c) (hn : nm d c = none) (hm1 : m ≠ 1) (hm : kd' m ≠ 0 ∧ kd' m ≠ 2) (hm2 : kd m ≠ 2) (hk : ∀ i, i ≠ m → kd' i = kd i)
    (hnm : ∀ e f, nm' e f = if e = d ∧ f = c then some m else nm e f) (hdeep : ∀ pre, Run nm kd 1 pre d → pre.length + 1 ≤ 32) : Shape nm' kd' := by
  have h2 : ∀ i, kd' i = 2 ↔ kd i = 2 := fun i => by
    by_cases e : i = m
    · rw [e]; exact ⟨fun h => absurd h hm.2, fun h => absurd h hm2⟩
    · rw [hk i e]
  have hr : ∀ {p e}, Run nm' kd' 1 p e → Run nm kd 1 p e := fun h => h.mono fun a b x hx hx2 => by
    rw [hnm] at hx
    split at hx
    · cases hx; exact absurd hx2 hm.2
    · exact ⟨b, hx, (h2 _).1 hx2⟩
  refine ⟨(h2 1).2 h.root, fun a b x hx => ?_, fun a b a' b' x hx hx' hx2 => ?_, fun e he => ?_, fun p e f x hp hx => ?_⟩
  · rw [hnm] at hx
    split at hx
    · rename_i e; cases hx; exact ⟨e.2 ▸ hc, e.1 ▸ (h2 _).2 hd, hm.1, hm1⟩
    · obtain ⟨h3, h4, h5, h6⟩ := h.ent _ _ _ hx
      refine ⟨h3, (h2 _).2 h4, ?_, h6⟩
      by_cases e : x = m
      · rw [e]; exact hm.1
      · rw [hk x e]; exact h5
  · rw [hnm] at hx hx'
    split at hx
    · cases hx; exact absurd hx2 hm.2
    · split at hx'
      · cases hx'; exact absurd hx2 hm.2
      · exact h.one _ _ _ _ _ hx hx' ((h2 _).1 hx2)
  · obtain ⟨p, hp⟩ := h.reach e ((h2 _).1 he)
    refine ⟨p, hp.mono fun a b x hx hx2 => ⟨b, ?_, (h2 _).2 hx2⟩⟩
    rw [hnm]
    split
    · rename_i e; rw [e.1, e.2, hn] at hx; cases hx
    · exact hx
  · rw [hnm] at hx
    split at hx
    · rename_i e; rw [e.1] at hp; exact hdeep _ (hr hp)
    · exact h.deep _ _ _ _ (hr hp) hx
/-- A new directory. -/
theorem Shape.dir (h : Shape nm kd) {d : Int} {c : Tx} {m : Int} (hd : kd d = 2) (hc : NameOk c) (hn : nm d c = none) (hm1 : m ≠ 1) (hm : kd' m = 2) (hm0 : kd m = 0) (hk : ∀ i, i ≠ m → kd' i = kd i)
    (hnm : ∀ e f, nm' e f = if e = d ∧ f = c then some m else nm e f) (hdeep : ∀ pre, Run nm kd 1 pre d → pre.length + 1 ≤ 32) : Shape nm' kd' := by
  have hne : ∀ {i}, kd i = 2 → i ≠ m := fun h e => by rw [e, hm0] at h; cases h
  have hnn : ∀ a b, nm a b ≠ some m := fun a b e => (h.ent _ _ _ e).2.2.1 hm0
  have hmn : ∀ f, nm' m f = none := fun f => by
    rw [hnm]
    split
    · rename_i e; rw [e.1] at hm0; omega
    · cases e : nm m f with
      | none => rfl
      | some x => have := (h.ent _ _ _ e).2.1; omega
  have up : ∀ {p e}, Run nm kd 1 p e → Run nm' kd' 1 p e := fun h' => h'.mono fun a b x hx hx2 => ⟨b, by
    rw [hnm]
    split
    · rename_i e; rw [e.1, e.2, hn] at hx; cases hx
    · exact hx, by rw [hk _ (hne hx2)]; exact hx2⟩
  have down : ∀ {p e}, Run nm' kd' 1 p e → (e ≠ m → Run nm kd 1 p e) ∧ (e = m → ∃ q, p = q ++ [d] ∧ Run nm kd 1 q d) := by
    intro p e hp
    induction hp with
    | nil => exact ⟨fun _ => .nil, fun e => absurd e.symm hm1⟩
    | @snoc p a b x hp hx hx2 ih =>
      have ham : a ≠ m := fun e => by rw [e, hmn] at hx; cases hx
      rw [hnm] at hx
      split at hx
      · rename_i e
        cases hx
        exact ⟨fun e => absurd rfl e, fun _ => ⟨p, by rw [e.1], e.1 ▸ ih.1 ham⟩⟩
      · exact ⟨fun e => (ih.1 ham).snoc hx (by rw [← hk _ e]; exact hx2), fun e => absurd (e ▸ hx) (hnn _ _)⟩
  refine ⟨by rw [hk _ (fun e => hm1 e.symm)]; exact h.root, fun a b x hx => ?_, fun a b a' b' x hx hx' hx2 => ?_, fun e he => ?_, fun p e f x hp hx => ?_⟩
  · rw [hnm] at hx
    split at hx
    · rename_i e; cases hx; exact ⟨e.2 ▸ hc, by rw [e.1, hk _ (hne hd)]; exact hd, by omega, hm1⟩
    · obtain ⟨h3, h4, h5, h6⟩ := h.ent _ _ _ hx
      exact ⟨h3, by rw [hk _ (hne h4)]; exact h4, by rw [hk _ (fun e => h5 (by rw [e]; exact hm0))]; exact h5, h6⟩
  · rw [hnm] at hx hx'
    split at hx
    · cases hx
      split at hx'
      · rename_i e e'; exact ⟨e.1.trans e'.1.symm, e.2.trans e'.2.symm⟩
      · exact absurd hx' (hnn _ _)
    · split at hx'
      · cases hx'; exact absurd hx (hnn _ _)
      · exact h.one _ _ _ _ _ hx hx' (by rw [← hk _ (fun e => hnn _ _ (e ▸ hx))]; exact hx2)
  · by_cases e' : e = m
    · obtain ⟨p, hp⟩ := h.reach d hd
      exact ⟨p ++ [d], e' ▸ (up hp).snoc (c := c) (by rw [hnm, if_pos ⟨rfl, rfl⟩]) hm⟩
    · obtain ⟨p, hp⟩ := h.reach e (by rw [← hk _ e']; exact he)
      exact ⟨p, up hp⟩
  · have hem : e ≠ m := fun c => by rw [c, hmn] at hx; cases hx
    have hp' := (down hp).1 hem
    rw [hnm] at hx
    split at hx
    · rename_i e; rw [e.1] at hp'; exact hdeep _ hp'
    · exact h.deep _ _ _ _ hp' hx
/-- A name of what is no directory is taken away. -/
theorem Shape.unleaf (h : Shape nm kd) {d : Int} {c : Tx} {m : Int} (hn : nm d c = some m) (hm2 : kd m ≠ 2) (hm : kd' m ≠ 2) (hk : ∀ i, i ≠ m → kd' i = kd i) (hm0 : kd' m ≠ 0 ∨ ∀ e f, nm' e f ≠ some m)
    (hnm : ∀ e f, nm' e f = if e = d ∧ f = c then none else nm e f) : Shape nm' kd' := by
  have h2 : ∀ i, kd' i = 2 ↔ kd i = 2 := fun i => by
    by_cases e : i = m
    · rw [e]; exact ⟨fun h => absurd h hm, fun h => absurd h hm2⟩
    · rw [hk i e]
  have hs : ∀ {a b x}, nm' a b = some x → nm a b = some x := fun {a b x} hx => by
    rw [hnm] at hx; split at hx
    · cases hx
    · exact hx
  have hr : ∀ {p e}, Run nm' kd' 1 p e → Run nm kd 1 p e := fun h => h.mono fun a b x hx hx2 => ⟨b, hs hx, (h2 _).1 hx2⟩
  refine ⟨(h2 1).2 h.root, fun a b x hx => ?_, fun a b a' b' x hx hx' hx2 => h.one _ _ _ _ _ (hs hx) (hs hx') ((h2 _).1 hx2), fun e he => ?_, fun p e f x hp hx => h.deep _ _ _ _ (hr hp) (hs hx)⟩
  · obtain ⟨h3, h4, h5, h6⟩ := h.ent _ _ _ (hs hx)
    refine ⟨h3, (h2 _).2 h4, ?_, h6⟩
    by_cases e : x = m
    · rcases hm0 with h0 | h0
      · rw [e]; exact h0
      · exact absurd (e ▸ hx) (h0 _ _)
    · rw [hk x e]; exact h5
  · obtain ⟨p, hp⟩ := h.reach e ((h2 _).1 he)
    refine ⟨p, hp.mono fun a b x hx hx2 => ⟨b, ?_, (h2 _).2 hx2⟩⟩
    rw [hnm]
    split
    · rename_i e; rw [e.1, e.2, hn] at hx; cases hx; exact absurd hx2 hm2
    · exact hx
/-- A directory without names is taken away. -/
theorem Shape.undir (h : Shape nm kd) {d : Int} {c : Tx} {m : Int} (hn : nm d c = some m) (hm2 : kd m = 2) (hmn : ∀ f, nm m f = none) (hm : kd' m = 0) (hk : ∀ i, i ≠ m → kd' i = kd i)
    (hnm : ∀ e f, nm' e f = if e = d ∧ f = c then none else nm e f) : Shape nm' kd' := by
  have hm1 := (h.ent _ _ _ hn).2.2.2
  have hs : ∀ {a b x}, nm' a b = some x → nm a b = some x ∧ x ≠ m ∧ a ≠ m := fun {a b x} hx => by
    rw [hnm] at hx; split at hx
    · cases hx
    · rename_i e
      exact ⟨hx, fun c => e (h.one _ _ _ _ _ (c ▸ hx) hn hm2), fun c => by rw [c, hmn] at hx; cases hx⟩
  have hk2 : ∀ {i}, kd' i = 2 → kd i = 2 ∧ i ≠ m := fun {i} hi => by
    by_cases e : i = m
    · rw [e, hm] at hi; cases hi
    · exact ⟨by rw [← hk i e]; exact hi, e⟩
  have hr : ∀ {p e}, Run nm' kd' 1 p e → Run nm kd 1 p e := fun h => h.mono fun a b x hx hx2 => ⟨b, (hs hx).1, (hk2 hx2).1⟩
  have up : ∀ {p e}, Run nm kd 1 p e → e ≠ m → Run nm' kd' 1 p e := by
    intro p e hp
    induction hp with
    | nil => exact fun _ => .nil
    | @snoc p a b x hp hx hx2 ih =>
      intro hxm
      have ham : a ≠ m := fun c => by rw [c, hmn] at hx; cases hx
      refine (ih ham).snoc (c := b) ?_ (by rw [hk _ hxm]; exact hx2)
      rw [hnm]
      split
      · rename_i e; rw [e.1, e.2, hn] at hx; cases hx; exact absurd rfl hxm
      · exact hx
  refine ⟨by rw [hk _ (fun e => hm1 e.symm)]; exact h.root, fun a b x hx => ?_, fun a b a' b' x hx hx' hx2 => h.one _ _ _ _ _ (hs hx).1 (hs hx').1 (hk2 hx2).1, fun e he => ?_, fun p e f x hp hx => h.deep _ _ _ _ (hr hp) (hs hx).1⟩
  · obtain ⟨h7, h8, h9⟩ := hs hx
    obtain ⟨h3, h4, h5, h6⟩ := h.ent _ _ _ h7
    exact ⟨h3, by rw [hk _ h9]; exact h4, by rw [hk _ h8]; exact h5, h6⟩
  · obtain ⟨h3, h4⟩ := hk2 he
    obtain ⟨p, hp⟩ := h.reach e h3
    exact ⟨p, up hp h4⟩
/-- A directory is moved. -/
theorem Shape.move (h : Shape nm kd) {d d' : Int} {c c' : Tx} {m : Int} {pre : List Int} (hn : nm d c = some m) (hm2 : kd m = 2) (hn' : nm d' c' = none) (hc : NameOk c') (hp : Run nm kd 1 pre d') (hnp : m ∉ pre ++ [d'])
    (hb : pre.length + 1 ≤ 32) (hrun : ∀ l e f x, Run nm kd m l e → nm e f = some x → pre.length + 1 + (l.length + 1) ≤ 32)
    (hnm : ∀ e f, nm' e f = if e = d' ∧ f = c' then some m else if e = d ∧ f = c then none else nm e f) : Shape nm' kd := by
  have hd' : kd d' = 2 := hp.kind h.root
  have hm1 := (h.ent _ _ _ hn).2.2.2
  have keep : ∀ {a b x}, nm a b = some x → x ≠ m → nm' a b = some x := fun {a b x} hx hxm => by
    rw [hnm]
    split
    · rename_i e; rw [e.1, e.2, hn'] at hx; cases hx
    · split
      · rename_i e; rw [e.1, e.2, hn] at hx; cases hx; exact absurd rfl hxm
      · exact hx
  have back : ∀ {a b x}, nm' a b = some x → (a = d' ∧ b = c' ∧ x = m) ∨ (nm a b = some x ∧ (a, b) ≠ (d', c') ∧ (x = m → False)) := fun {a b x} hx => by
    rw [hnm] at hx
    split at hx
    · rename_i e; cases hx; exact .inl ⟨e.1, e.2, rfl⟩
    · split at hx
      · cases hx
      · rename_i e1 e2
        exact .inr ⟨hx, fun e => e1 ⟨congrArg Prod.fst e, congrArg Prod.snd e⟩, fun e => e2 (h.one _ _ _ _ _ (e ▸ hx) hn hm2)⟩
  have up : ∀ {p e}, Run nm kd 1 p e → m ∉ p ++ [e] → Run nm' kd 1 p e := by
    intro p e hp
    induction hp with
    | nil => exact fun _ => .nil
    | @snoc p a b x hp hx hx2 ih =>
      intro hm
      exact (ih (fun c => hm (List.mem_append_left _ c))).snoc (keep hx (fun c => hm (by rw [c]; simp))) hx2
  have hP := up hp hnp
  have hmP : Run nm' kd 1 (pre ++ [d']) m := hP.snoc (c := c') (by rw [hnm, if_pos ⟨rfl, rfl⟩]) hm2
  have hnot : ∀ l, ¬ Run nm kd m l d' := fun l hl => by
    obtain ⟨pm, hpm⟩ := h.reach m hm2
    have := h.unique hp (hpm.append hl)
    refine hnp ?_
    cases l with
    | nil => rw [hl.none]; simp
    | cons y l => rw [this, hl.head]; simp
  have down : ∀ {q e}, Run nm' kd 1 q e → (Run nm kd 1 q e ∧ m ∉ q ++ [e]) ∨ ∃ l, q = pre ++ [d'] ++ l ∧ Run nm kd m l e := by
    intro q e hq
    induction hq with
    | nil => exact .inl ⟨.nil, by simpa using hm1⟩
    | @snoc q a b x hq hx hx2 ih =>
      rcases back hx with ⟨rfl, rfl, rfl⟩ | ⟨h1, h2, h3⟩
      · rcases ih with ⟨h4, _⟩ | ⟨l, _, h4⟩
        · exact .inr ⟨[], by rw [h.unique h4 hp]; simp, .nil⟩
        · exact absurd h4 (hnot l)
      · rcases ih with ⟨h4, h5⟩ | ⟨l, h4, h5⟩
        · refine .inl ⟨h4.snoc h1 hx2, fun e => ?_⟩
          rcases List.mem_append.1 e with e | e
          · exact h5 e
          · exact h3 (List.mem_singleton.1 e).symm
        · exact .inr ⟨l ++ [a], by rw [h4, List.append_assoc], h5.snoc h1 hx2⟩
  refine ⟨h.root, fun a b x hx => ?_, fun a b a' b' x hx hx' hx2 => ?_, fun e he => ?_, fun p e f x hp' hx => ?_⟩
  · rcases back hx with ⟨rfl, rfl, rfl⟩ | ⟨h1, _, _⟩
    · exact ⟨hc, hd', by omega, hm1⟩
    · exact h.ent _ _ _ h1
  · rcases back hx with ⟨rfl, rfl, rfl⟩ | ⟨h1, _, h3⟩
    · rcases back hx' with ⟨rfl, rfl, _⟩ | ⟨_, _, h3⟩
      · exact ⟨rfl, rfl⟩
      · exact absurd rfl h3
    · rcases back hx' with ⟨_, _, h4⟩ | ⟨h4, _, _⟩
      · exact absurd h4 h3
      · exact h.one _ _ _ _ _ h1 h4 hx2
  · obtain ⟨p, hp'⟩ := h.reach e he
    clear he
    induction hp' with
    | nil => exact ⟨[], .nil⟩
    | @snoc p a b x _ hx hx2 ih =>
      by_cases e : x = m
      · exact ⟨_, e ▸ hmP⟩
      · obtain ⟨q, hq⟩ := ih
        exact ⟨_, hq.snoc (keep hx e) hx2⟩
  · rcases back hx with ⟨rfl, rfl, rfl⟩ | ⟨h1, _, _⟩
    · rcases down hp' with ⟨h4, _⟩ | ⟨l, _, h4⟩
      · rw [h.unique h4 hp]; exact hb
      · exact absurd h4 (hnot l)
    · rcases down hp' with ⟨h4, _⟩ | ⟨l, h4, h5⟩
      · exact h.deep _ _ _ _ h4 h1
      · have := hrun l e f x h5 h1
        rw [h4, List.length_append, List.length_append, List.length_singleton]
        omega
end
end Fs
end Go.Proofs.YtlnnbjgfpiefdaaGreat
/- All names of a tree in one list; how many lead to an inode; what the calls' steps do to them. No program in sight. -/
namespace Go.Proofs.YtlnnbjgfpiefdaaGreat
namespace Fs
def nmF (s : Tree) (d : Int) (c : Tx) : Option Int := get (namesOf s d) c
abbrev En := Int × Tx × Int
/-- A directory, a name in it, what it leads to. -/
def allNames (s : Tree) : List En := s.flatMap fun p => p.2.names.map fun e => (p.1, e.1, e.2)
def refs (s : Tree) (i : Int) : Nat := (allNames s).countP fun e => decide (e.2.2 = i)
def subs (s : Tree) (d : Int) : Nat := (allNames s).countP fun e => decide (e.1 = d ∧ kindOf s e.2.2 = 2)
/-- By how much an inode's links are too many. -/
def df (s : Tree) (i : Int) : Int := linksOf s i - (if kindOf s i = 2 then 2 + (subs s i : Int) else refs s i)

section
variable {κ ν : Type} [DecidableEq κ]
theorem del_del (l : Al κ ν) (k : κ) : del (del l k) k = del l k := by unfold del; rw [List.filter_filter]; simp
theorem del_none {l : Al κ ν} {k : κ} (h : get l k = none) : del l k = l := by
  unfold del
  rw [List.filter_eq_self]
  intro p hp
  simpa using get_none.1 h p hp
end
section
variable {κ ν : Type} [DecidableEq κ] [Key κ]
theorem perm_at {l : Al κ ν} (h : Rising l) {k : κ} {v : ν} (hv : get l k = some v) : l.Perm ((k, v) :: del l k) := by
  have := put_perm (del l k) k v
  rw [put_del h hv, del_del] at this
  exact this
theorem perm_new {l : Al κ ν} {k : κ} (v : ν) (hv : get l k = none) : (put l k v).Perm ((k, v) :: l) := by
  have := put_perm l k v
  rw [del_none hv] at this
  exact this
end
theorem perm_mod {s : Tree} (h : Rising s) {d : Int} {x : Nd} (hx : get s d = some x) (f : Nd → Nd) : (modN s d f).Perm ((d, f x) :: del s d) := by
  have h1 := (perm_at h hx).map fun p : Int × Nd => if p.1 = d then (p.1, f p.2) else p
  rw [List.map_cons, if_pos rfl] at h1
  have h2 : (del s d).map (fun p : Int × Nd => if p.1 = d then (p.1, f p.2) else p) = del s d := by
    conv => rhs; rw [← List.map_id (del s d)]
    refine List.map_congr_left fun p hp => ?_
    rw [if_neg (mem_del.1 hp).2]; rfl
  rw [h2] at h1
  exact h1
theorem namesGet {s : Tree} {d : Int} {x : Nd} (hx : get s d = some x) : namesOf s d = x.names := by unfold namesOf; rw [hx]; rfl
theorem names_none {s : Tree} {d : Int} (hx : get s d = none) : namesOf s d = [] := by unfold namesOf; rw [hx]; rfl
theorem names_some {s : Tree} {d : Int} {c : Tx} {m : Int} (h : nmF s d c = some m) : ∃ x, get s d = some x ∧ get x.names c = some m := by
  unfold nmF at h
  cases hx : get s d with
  | none => rw [names_none hx] at h; cases h
  | some x => rw [namesGet hx] at h; exact ⟨x, rfl, h⟩
def lay (d : Int) (l : Al Tx Int) : List En := l.map fun e => (d, e.1, e.2)
theorem allNames_perm {s t : Tree} (h : s.Perm t) : (allNames s).Perm (allNames t) := h.flatMap_right _
theorem allNames_cons (d : Int) (x : Nd) (s : Tree) : allNames ((d, x) :: s) = lay d x.names ++ allNames s := rfl
theorem allNames_at {s : Tree} (h : Rising s) {d : Int} {x : Nd} (hx : get s d = some x) : (allNames s).Perm (lay d x.names ++ allNames (del s d)) := allNames_perm (perm_at h hx)
theorem allNames_mod {s : Tree} (h : Rising s) {d : Int} {x : Nd} (hx : get s d = some x) (f : Nd → Nd) : (allNames (modN s d f)).Perm (lay d (f x).names ++ allNames (del s d)) := allNames_perm (perm_mod h hx f)
theorem allNames_keep (s : Tree) (d : Int) (f : Nd → Nd) (hf : ∀ x, (f x).names = x.names) : allNames (modN s d f) = allNames s := by
  unfold allNames modN
  rw [List.flatMap_map]
  refine congrArg (fun g => s.flatMap g) (funext fun p => ?_)
  split
  · rw [hf]
  · rfl
theorem mem_allNames {s : Tree} (h : Rising s) (hn : ∀ i x, get s i = some x → Rising x.names) {d : Int} {c : Tx} {m : Int} : (d, c, m) ∈ allNames s ↔ nmF s d c = some m := by
  unfold allNames
  simp only [List.mem_flatMap, List.mem_map, Prod.mk.injEq]
  constructor
  · rintro ⟨⟨i, x⟩, hp, ⟨e1, e2⟩, he, rfl, rfl, rfl⟩
    have hx := h.get.2 hp
    unfold nmF
    rw [namesGet hx]
    exact (hn _ _ hx).get.2 he
  · intro hm
    obtain ⟨x, hx, hc⟩ := names_some hm
    exact ⟨(d, x), h.get.1 hx, (c, m), (hn _ _ hx).get.1 hc, rfl, rfl, rfl⟩
theorem names_putN (s : Tree) (d : Int) (nm : Tx) (i : Int) (f : Nd → Nd) (hf : f = fun x => if (x.names.length : Int) = x.blocks * 16 then { x with blocks := x.blocks + 1, size := (x.blocks + 1) * 512, names := put x.names nm i } else { x with names := put x.names nm i }) : putN s d nm i = modN s d f ∧ ∀ x, (f x).names = put x.names nm i := by
  subst hf
  exact ⟨rfl, fun x => by dsimp only; split <;> rfl⟩
/-- A name more. -/
theorem allNames_put {s : Tree} (h : Rising s) {d : Int} {x : Nd} (hx : get s d = some x) {c : Tx} (hc : nmF s d c = none) (m : Int) : (allNames (putN s d c m)).Perm ((d, c, m) :: allNames s) := by
  obtain ⟨h1, h2⟩ := names_putN s d c m _ rfl
  rw [h1]
  refine (allNames_mod h hx _).trans ?_
  rw [h2]
  unfold nmF at hc
  rw [namesGet hx] at hc
  refine (((perm_new m hc).map _).append_right _).trans ?_
  exact ((allNames_at h hx).symm).cons _
/-- One fewer. -/
theorem allNames_take {s : Tree} (h : Rising s) (hn : ∀ i x, get s i = some x → Rising x.names) {d : Int} {c : Tx} {m : Int} (hc : nmF s d c = some m) : (allNames s).Perm ((d, c, m) :: allNames (takeN s d c)) := by
  obtain ⟨x, hx, hm⟩ := names_some hc
  refine (allNames_at h hx).trans ?_
  refine (((perm_at (hn _ _ hx) hm).map _).append_right _).trans ?_
  exact ((allNames_mod h hx (fun x => { x with names := del x.names c })).symm).cons _
/-- Another in its place. -/
theorem allNames_repl {s : Tree} (h : Rising s) (hn : ∀ i x, get s i = some x → Rising x.names) {d : Int} {c : Tx} {m : Int} (hc : nmF s d c = some m) (v : Int) : ∃ A, (allNames s).Perm ((d, c, m) :: A) ∧ (allNames (replN s d c v)).Perm ((d, c, v) :: A) := by
  obtain ⟨x, hx, hm⟩ := names_some hc
  refine ⟨lay d (del x.names c) ++ allNames (del s d), (allNames_at h hx).trans (((perm_at (hn _ _ hx) hm).map _).append_right _), ?_⟩
  exact (allNames_mod h hx _).trans (((put_perm x.names c v).map _).append_right _)
/-- A new inode without names. -/
theorem allNames_new {s : Tree} {i : Int} {x : Nd} (hi : get s i = none) (hx : x.names = []) : (allNames (put s i x)).Perm (allNames s) := by
  refine (allNames_perm (perm_new x hi)).trans ?_
  rw [allNames_cons, hx]
  exact .refl _
theorem allNames_del {s : Tree} (h : Rising s) {i : Int} (hi : namesOf s i = []) : (allNames (del s i)).Perm (allNames s) := by
  cases hx : get s i with
  | none => rw [del_none hx]
  | some x =>
    rw [namesGet hx] at hi
    have := allNames_at h hx
    rw [hi] at this
    exact this.symm

/-! What leads where. -/
theorem nmF_put {s : Tree} {d : Int} {x : Nd} (hx : get s d = some x) (c : Tx) (m : Int) (e : Int) (f : Tx) : nmF (putN s d c m) e f = if e = d ∧ f = c then some m else nmF s e f := by
  obtain ⟨h1, h2⟩ := names_putN s d c m _ rfl
  rw [h1]
  unfold nmF namesOf
  rw [get_mod]
  by_cases e1 : e = d
  · subst e1
    rw [if_pos rfl, hx]
    simp only [Option.map_some, Option.getD_some]
    rw [h2, get_put']
    by_cases e2 : f = c <;> simp [e2]
  · rw [if_neg e1, if_neg (fun c => e1 c.1)]
theorem nmF_take (s : Tree) (d : Int) (c : Tx) (e : Int) (f : Tx) : nmF (takeN s d c) e f = if e = d ∧ f = c then none else nmF s e f := by
  unfold nmF
  rw [namesOf_takeN]
  by_cases e1 : e = d
  · subst e1
    rw [if_pos rfl, get_del']
    by_cases e2 : f = c <;> simp [e2]
  · rw [if_neg e1, if_neg (fun c => e1 c.1)]
theorem nmF_repl {s : Tree} {d : Int} {x : Nd} (hx : get s d = some x) (c : Tx) (m : Int) (e : Int) (f : Tx) : nmF (replN s d c m) e f = if e = d ∧ f = c then some m else nmF s e f := by
  unfold nmF
  rw [namesOf_replN]
  by_cases e1 : e = d
  · subst e1
    rw [if_pos ⟨rfl, by rw [hx]; simp⟩, get_put']
    by_cases e2 : f = c <;> simp [e2]
  · rw [if_neg (fun c => e1 c.1), if_neg (fun c => e1 c.1)]
theorem nmF_links (s : Tree) (i d : Int) : nmF (linksN s i d) = nmF s := funext fun e => funext fun f => by unfold nmF; rw [namesOf_linksN]
theorem namesOf_put' (s : Tree) (i : Int) (x : Nd) (j : Int) : namesOf (put s i x) j = if j = i then x.names else namesOf s j := by
  unfold namesOf
  rw [get_put']
  split <;> rfl
theorem kindOf_put' (s : Tree) (i : Int) (x : Nd) (j : Int) : kindOf (put s i x) j = if j = i then x.kind else kindOf s j := by
  unfold kindOf
  rw [get_put']
  split <;> rfl
theorem linksOf_put' (s : Tree) (i : Int) (x : Nd) (j : Int) : linksOf (put s i x) j = if j = i then x.links else linksOf s j := by
  unfold linksOf
  rw [get_put']
  split <;> rfl
theorem nmF_new {s : Tree} {i : Int} {x : Nd} (hi : get s i = none) (hx : x.names = []) : nmF (put s i x) = nmF s := funext fun e => funext fun f => by
  unfold nmF
  rw [namesOf_put']
  split
  · rename_i e1; rw [e1, hx, names_none hi]
  · rfl
theorem kindOf_del (s : Tree) (i j : Int) : kindOf (del s i) j = if j = i then 0 else kindOf s j := by
  unfold kindOf
  rw [get_del']
  split <;> rfl
theorem linksOf_del (s : Tree) (i j : Int) : linksOf (del s i) j = if j = i then 0 else linksOf s j := by
  unfold linksOf
  rw [get_del']
  split <;> rfl
theorem namesOf_del (s : Tree) (i j : Int) : namesOf (del s i) j = if j = i then [] else namesOf s j := by
  unfold namesOf
  rw [get_del']
  split <;> rfl
theorem nmF_del {s : Tree} {i : Int} (hi : namesOf s i = []) : nmF (del s i) = nmF s := funext fun e => funext fun f => by
  unfold nmF
  rw [namesOf_del]
  split
  · rename_i e1; rw [e1, hi]
  · rfl

/-! Links too many. -/
theorem df_links {s : Tree} {i d : Int} {x : Nd} (hi : get s i = some x) (j : Int) : df (linksN s i d) j = df s j + if j = i then d else 0 := by
  have h1 : allNames (linksN s i d) = allNames s := allNames_keep _ _ _ fun _ => rfl
  have h2 : subs (linksN s i d) j = subs s j := by
    unfold subs; rw [h1]
    exact List.countP_congr fun e _ => by rw [kindOf_linksN]
  have h3 : refs (linksN s i d) j = refs s j := by unfold refs; rw [h1]
  unfold df
  rw [h2, h3, kindOf_linksN, linksOf_linksN', hi]
  by_cases e : j = i
  · rw [if_pos ⟨e, by simp⟩, if_pos e]; omega
  · rw [if_neg (fun c => e c.1), if_neg e]; omega
theorem countP_cons' {α : Type} (p : α → Bool) (a : α) (l : List α) : (a :: l).countP p = l.countP p + if p a = true then 1 else 0 := List.countP_cons
/-- A name more. -/
theorem df_names {s s' : Tree} {d : Int} {c : Tx} {m : Int} (hp : (allNames s').Perm ((d, c, m) :: allNames s)) (hk : ∀ i, kindOf s' i = kindOf s i) (hl : ∀ i, linksOf s' i = linksOf s i) (hd : kindOf s d = 2) (j : Int) :
    df s' j = df s j - if kindOf s m = 2 then (if j = d then 1 else 0) else (if j = m then 1 else 0) := by
  have h1 : subs s' j = subs s j + if d = j ∧ kindOf s m = 2 then 1 else 0 := by
    unfold subs
    rw [hp.countP_eq, countP_cons']
    rw [List.countP_congr (q := fun e => decide (e.1 = j ∧ kindOf s e.2.2 = 2)) fun e _ => by rw [hk]]
    simp only [hk, decide_eq_true_eq]
  have h2 : refs s' j = refs s j + if m = j then 1 else 0 := by
    unfold refs
    rw [hp.countP_eq, countP_cons']
    simp only [decide_eq_true_eq]
  unfold df
  rw [h1, h2, hk, hl]
  generalize hA : (if d = j ∧ kindOf s m = 2 then 1 else 0 : Nat) = A
  generalize hB : (if m = j then 1 else 0 : Nat) = B
  by_cases e1 : kindOf s m = 2
  · rw [if_pos e1]
    by_cases e2 : j = d
    · subst e2
      rw [if_pos ⟨rfl, e1⟩] at hA
      rw [if_pos rfl, if_pos hd, if_pos hd]; omega
    · rw [if_neg (fun c => e2 c.1.symm)] at hA
      rw [if_neg e2]
      by_cases e3 : kindOf s j = 2
      · rw [if_pos e3, if_pos e3]; omega
      · rw [if_neg (fun c => e3 (by rw [← c]; exact e1))] at hB
        rw [if_neg e3, if_neg e3]; omega
  · rw [if_neg e1]
    rw [if_neg (fun c => e1 c.2)] at hA
    by_cases e2 : j = m
    · subst e2
      rw [if_pos rfl] at hB
      rw [if_pos rfl, if_neg e1, if_neg e1]; omega
    · rw [if_neg (fun c => e2 c.symm)] at hB
      rw [if_neg e2]
      split <;> omega
theorem df_put {s : Tree} (h : Rising s) {d : Int} {x : Nd} (hx : get s d = some x) (hd : kindOf s d = 2) {c : Tx} (hc : nmF s d c = none) (m j : Int) :
    df (putN s d c m) j = df s j - if kindOf s m = 2 then (if j = d then 1 else 0) else (if j = m then 1 else 0) :=
  df_names (allNames_put h hx hc m) (fun _ => kindOf_putN _ _ _ _ _) (fun _ => linksOf_putN _ _ _ _ _) hd j
theorem df_take {s : Tree} (h : Rising s) (hn : ∀ i x, get s i = some x → Rising x.names) {d : Int} (hd : kindOf s d = 2) {c : Tx} {m : Int} (hc : nmF s d c = some m) (j : Int) :
    df (takeN s d c) j = df s j + if kindOf s m = 2 then (if j = d then 1 else 0) else (if j = m then 1 else 0) := by
  have := df_names (s' := s) (s := takeN s d c) (allNames_take h hn hc) (fun _ => (kindOf_takeN _ _ _ _).symm) (fun _ => (linksOf_takeN _ _ _ _).symm) (by rw [kindOf_takeN]; exact hd) j
  rw [kindOf_takeN] at this
  omega
theorem df_repl {s : Tree} (h : Rising s) (hn : ∀ i x, get s i = some x → Rising x.names) {d : Int} (hd : kindOf s d = 2) {c : Tx} {m : Int} (hc : nmF s d c = some m) (v j : Int) :
    df (replN s d c v) j = df s j + (if kindOf s m = 2 then (if j = d then 1 else 0) else (if j = m then 1 else 0)) - if kindOf s v = 2 then (if j = d then 1 else 0) else (if j = v then 1 else 0) := by
  obtain ⟨x, hx, _⟩ := names_some hc
  have ht := df_take h hn hd hc j
  have hxt : get (takeN s d c) d = some { x with names := del x.names c } := by unfold takeN; rw [get_mod, if_pos rfl, hx]; rfl
  obtain ⟨A, hA1, hA2⟩ := allNames_repl h hn hc v
  have hA3 := (hA1.symm.trans (allNames_take h hn hc)).cons_inv
  have := df_names (s' := replN s d c v) (s := takeN s d c) (d := d) (c := c) (m := v) (hA2.trans (hA3.cons _)) (fun _ => (kindOf_replN _ _ _ _ _).trans (kindOf_takeN _ _ _ _).symm) (fun _ => (linksOf_replN _ _ _ _ _).trans (linksOf_takeN _ _ _ _).symm) (by rw [kindOf_takeN]; exact hd) j
  rw [kindOf_takeN] at this
  omega
/-- A new inode that none names. -/
theorem df_new {s : Tree} {i : Int} {x : Nd} (hi : get s i = none) (hx : x.names = []) (hr : refs s i = 0) (j : Int) : df (put s i x) j = if j = i then x.links - (if x.kind = 2 then 2 + (subs s i : Int) else 0) else df s j := by
  have hp := allNames_new (x := x) hi hx
  have hne : ∀ e ∈ allNames s, e.2.2 ≠ i := fun e he c => by
    unfold refs at hr
    rw [List.countP_eq_zero] at hr
    exact hr e he (decide_eq_true c)
  have h1 : subs (put s i x) j = subs s j := by
    unfold subs
    rw [hp.countP_eq]
    exact List.countP_congr fun e he => by rw [kindOf_put', if_neg (hne e he)]
  have h2 : refs (put s i x) j = refs s j := by unfold refs; rw [hp.countP_eq]
  unfold df
  rw [h1, h2, kindOf_put', linksOf_put']
  by_cases e : j = i
  · subst e
    simp only [if_true]
    rw [hr]
    split <;> rfl
  · simp only [if_neg e]
/-- An inode that none names is dropped. -/
theorem df_del {s : Tree} (h : Rising s) {i : Int} (hi : namesOf s i = []) (hr : kindOf s i = 2 → refs s i = 0) {j : Int} (hj : j ≠ i) : df (del s i) j = df s j := by
  have hp := allNames_del h hi
  have h1 : subs (del s i) j = subs s j := by
    unfold subs
    rw [hp.countP_eq]
    refine List.countP_congr fun e he => ?_
    rw [kindOf_del]
    by_cases c : e.2.2 = i
    · rw [if_pos c, c]
      by_cases k : kindOf s i = 2
      · have := hr k
        unfold refs at this
        rw [List.countP_eq_zero] at this
        exact absurd (decide_eq_true c) (this e he)
      · simp [k]
    · rw [if_neg c]
  have h2 : refs (del s i) j = refs s j := by unfold refs; rw [hp.countP_eq]
  unfold df
  rw [h1, h2, kindOf_del, linksOf_del, if_neg hj, if_neg hj]
end Fs
end Go.Proofs.YtlnnbjgfpiefdaaGreat
