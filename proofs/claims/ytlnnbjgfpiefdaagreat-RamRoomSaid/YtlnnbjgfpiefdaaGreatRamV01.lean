/- Moved there and back: where paths lead then, and what the tree is. No program in sight. -/
import Derived.Test.YtlnnbjgfpiefdaaGreatRamB36
import Derived.Test.YtlnnbjgfpiefdaaGreatRamB40
import Derived.Test.YtlnnbjgfpiefdaaGreatRamB39
namespace Go.Proofs.YtlnnbjgfpiefdaaGreat
namespace Fs
/-- A path to its last name: as its way, and the name in the directory there. -/
theorem goes_snoc {s : Tree} {nm : Tx} (hn : nm ≠ [46, 46]) (parts : List Tx) (ch : List Int) (k : Nat) :
    goes s false false (parts ++ [nm]) ch k = match goes s true true parts ch k with
      | .error e => .error e
      | .ok q => match get (namesOf s (q.chain.getLast?.getD 0)) nm with
        | none => .error 160
        | some m => match get s m with
          | none => .error 0
          | some _ => .ok ⟨q.chain, nm, m⟩ := by
  fun_induction goes s true true parts ch k with
  | case1 ch k =>
    rw [List.nil_append, goes, if_neg hn]
    dsimp only
    cases hg : get (namesOf s (ch.getLast?.getD 0)) nm with
    | none => rfl
    | some m =>
      dsimp only
      cases hx : get s m with
      | none => rfl
      | some x => dsimp only; rw [if_neg (by simp), if_neg (by simp), if_neg (by simp)]
  | case2 ch k r ih => rw [List.cons_append, goes, if_pos rfl]; exact ih
  | case3 ch k c r hc hg => rw [List.cons_append, goes, if_neg hc, hg]
  | case4 ch k c r hc m hg hx => rw [List.cons_append, goes, if_neg hc, hg]; dsimp only; rw [hx]
  | case5 ch k c r hc m hg x hx hk2 ih => rw [List.cons_append, goes, if_neg hc, hg]; dsimp only; rw [hx]; dsimp only; rw [if_pos ⟨hk2.1, .inr (by simp)⟩]; exact ih
  | case6 ch k c r hc m hg x hx hk2 hk3 h8 => rw [List.cons_append, goes, if_neg hc, hg]; dsimp only; rw [hx]; dsimp only; rw [if_neg (fun e => hk2 ⟨e.1, .inl rfl⟩), if_pos ⟨hk3.1, .inr (.inl (by simp))⟩, dif_pos h8]
  | case7 ch k c r hc m hg x hx hk2 hk3 h8 e he => rw [List.cons_append, goes, if_neg hc, hg]; dsimp only; rw [hx]; dsimp only; rw [if_neg (fun e => hk2 ⟨e.1, .inl rfl⟩), if_pos ⟨hk3.1, .inr (.inl (by simp))⟩, dif_neg h8, he]
  | case8 ch k c r hc m hg x hx hk2 hk3 h8 more top htx ih =>
    rw [List.cons_append, goes, if_neg hc, hg]; dsimp only; rw [hx]; dsimp only; rw [if_neg (fun e => hk2 ⟨e.1, .inl rfl⟩), if_pos ⟨hk3.1, .inr (.inl (by simp))⟩, dif_neg h8, htx]
    dsimp only
    rw [← List.append_assoc]; exact ih
  | case9 ch k c r hc m hg x hx hk2 hk3 hb => rw [List.cons_append, goes, if_neg hc, hg]; dsimp only; rw [hx]; dsimp only; rw [if_neg (fun e => hk2 ⟨e.1, .inl rfl⟩), if_neg (fun e => hk3 ⟨e.1, .inl rfl⟩), if_pos (.inr (by simp))]
  | case10 ch k c r hc m hg x hx hk2 hk3 hb => exact absurd (.inl rfl) hb
/-- Two trees that part in two names alone: one is in the first, the other in the second. -/
structure Apart (s t : Tree) (ad : Int) (an : Tx) (bd : Int) (bn : Tx) (a : Int) : Prop where
  kind : ∀ i, kindOf t i = kindOf s i
  text : ∀ i, (get t i).map (·.text) = (get s i).map (·.text)
  there : nmF s ad an = some a
  free : nmF s bd bn = none
  names : ∀ e f, nmF t e f = if e = bd ∧ f = bn then some a else if e = ad ∧ f = an then none else nmF s e f
section
variable {s t : Tree} {ad bd a : Int} {an bn : Tx}
/-- A way in the one is the same in the other, or none. -/
theorem Apart.goes (h : Apart s t ad an bd bn a) {behind follow : Bool} (parts : List Tx) (ch : List Int) (k : Nat) : ∀ q, Fs.goes s behind follow parts ch k = .ok q → Fs.goes t behind follow parts ch k = .ok q ∨ ∃ e, Fs.goes t behind follow parts ch k = .error e := by
  have look : ∀ d c m x, get (namesOf s d) c = some m → get s m = some x → (get (namesOf t d) c = none) ∨ (get (namesOf t d) c = some m ∧ ∃ y, get t m = some y ∧ y.kind = x.kind ∧ y.text = x.text) := fun d c m x hc hx => by
    have hn := h.names d c
    unfold nmF at hn
    by_cases e1 : d = bd ∧ c = bn
    · have := h.free
      unfold nmF at this
      rw [← e1.1, ← e1.2, hc] at this; cases this
    · rw [if_neg e1] at hn
      by_cases e2 : d = ad ∧ c = an
      · rw [if_pos e2] at hn; exact .inl hn
      · rw [if_neg e2, hc] at hn
        refine .inr ⟨hn, ?_⟩
        have hk := h.kind m
        have ht := h.text m
        rw [hx] at ht
        cases hy : get t m with
        | none => rw [hy] at ht; cases ht
        | some y =>
          rw [hy] at ht
          refine ⟨y, rfl, ?_, by simpa using ht⟩
          unfold kindOf at hk
          rw [hx, hy] at hk
          simpa using hk
  fun_induction Fs.goes s behind follow parts ch k with
  | case1 ch k => intro q hq; left; rw [Fs.goes]; exact hq
  | case2 ch k r ih => intro q hq; rw [Fs.goes, if_pos rfl]; exact ih q hq
  | case3 => intro q hq; cases hq
  | case4 => intro q hq; cases hq
  | case5 ch k c r hc m hg x hx hk2 ih =>
    intro q hq
    rw [Fs.goes, if_neg hc]
    rcases look _ _ _ _ hg hx with e | ⟨e, y, hy, ky, ty⟩
    · rw [e]; exact .inr ⟨_, rfl⟩
    · rw [e]; dsimp only; rw [hy]; dsimp only; rw [if_pos ⟨ky.trans hk2.1, hk2.2⟩]; exact ih q hq
  | case6 => intro q hq; cases hq
  | case7 => intro q hq; cases hq
  | case8 ch k c r hc m hg x hx hk2 hk3 h8 more top htx ih =>
    intro q hq
    rw [Fs.goes, if_neg hc]
    rcases look _ _ _ _ hg hx with e | ⟨e, y, hy, ky, ty⟩
    · rw [e]; exact .inr ⟨_, rfl⟩
    · rw [e]; dsimp only; rw [hy]; dsimp only; rw [if_neg (fun c => hk2 ⟨ky.symm.trans c.1, c.2⟩), if_pos ⟨ky.trans hk3.1, hk3.2⟩, dif_neg h8, ty, htx]; dsimp only; exact ih q (by simpa using hq)
  | case9 => intro q hq; cases hq
  | case10 ch k c r hc m hg x hx hk2 hk3 hb =>
    intro q hq
    rw [Fs.goes, if_neg hc]
    rcases look _ _ _ _ hg hx with e | ⟨e, y, hy, ky, ty⟩
    · rw [e]; exact .inr ⟨_, rfl⟩
    · rw [e]; dsimp only; rw [hy]; dsimp only; rw [if_neg (fun c => hk2 ⟨ky.symm.trans c.1, c.2⟩), if_neg (fun c => hk3 ⟨ky.symm.trans c.1, c.2⟩), if_neg hb]; exact .inl hq
end
end Fs
end Go.Proofs.YtlnnbjgfpiefdaaGreat
/- A thing that is moved to a name that wasn't there, and back: each inode and all names are as they were; only directories may have grown. No program in sight. -/
namespace Go.Proofs.YtlnnbjgfpiefdaaGreat
namespace Fs
section
variable {n : Int} {k : Nat} {s : Tree}
theorem textP_nz {t : Tx} {e : Int} (h : textP t = .error e) : e ≠ 0 := by
  unfold textP at h
  split at h
  · cases h; decide
  · split at h
    · cases h; decide
    · cases h
theorem parse_nz' {t : Tx} {e : Int} (h : parse t = .error e) : e ≠ 0 := by
  unfold parse at h
  split at h
  · cases h; decide
  · split at h
    · cases h; decide
    · cases h
theorem make_nz' {t : Tx} {e : Int} (h : make t = .error e) : e ≠ 0 := by
  unfold make at h
  split at h
  · cases h; decide
  · split at h
    · cases h; decide
    · split at h
      · cases h; decide
      · cases h
theorem goes_nz' (hI : Inv n k s) {behind follow : Bool} {parts : List Tx} {ch : List Int} {j : Nat} {e : Int} (h : goes s behind follow parts ch j = .error e) : e ≠ 0 := by
  fun_induction goes s behind follow parts ch j with
  | case1 => cases h
  | case2 _ _ _ ih => exact ih h
  | case3 => cases h; decide
  | case4 ch j c r hc m hg hx => exact absurd hx (hI.dir_of (c := c) hg).2.1
  | case5 _ _ _ _ _ _ _ _ _ _ ih => exact ih h
  | case6 => cases h; decide
  | case7 _ _ _ _ _ _ _ _ _ _ _ _ e he => cases h; exact textP_nz he
  | case8 _ _ _ _ _ _ _ _ _ _ _ _ _ _ _ ih => exact ih (by simpa using h)
  | case9 => cases h; decide
  | case10 => cases h
theorem toP_nz (hI : Inv n k s) {p : Tx} {f : Bool} {e : Int} (h : toP s p f = .error e) : e ≠ 0 := by
  unfold toP at h
  split at h
  · rename_i he; cases h; exact parse_nz' he
  · exact goes_nz' hI h
theorem nameP_nz (hI : Inv n k s) {p : Tx} {e : Int} (h : nameP s p = .error e) : e ≠ 0 := by
  unfold nameP at h
  split at h
  · rename_i he; cases h; exact make_nz' he
  · split at h
    · cases h
    · split at h
      · rename_i he; cases h; exact goes_nz' hI he
      · cases h
/-- A name, as its parts. -/
theorem nameP_parts {p : Tx} {q : Place} (h : nameP s p = .ok q) (hne : q.name ≠ []) : ∃ parts q0, make p = .ok (parts, q.name) ∧ goes s true true parts [1] 0 = .ok q0 ∧ q.chain = q0.chain ∧ q.inode = (nmF s q.dir q.name).getD 0 := by
  unfold nameP at h
  split at h
  · cases h
  · rename_i parts nm hm
    split at h
    · cases h; exact absurd rfl hne
    · split at h
      · cases h
      · rename_i q0 hq0
        cases h
        exact ⟨parts, q0, hm, hq0, rfl, rfl⟩
theorem nameP_of {p : Tx} {parts : List Tx} {nm : Tx} {q0 : Place} (hm : make p = .ok (parts, nm)) (hne : nm ≠ []) (hg : goes s true true parts [1] 0 = .ok q0) : nameP s p = .ok ⟨q0.chain, nm, (nmF s (q0.chain.getLast?.getD 0) nm).getD 0⟩ := by
  unfold nameP
  rw [hm]
  dsimp only
  rw [if_neg hne, hg]
  rfl
/-- What Lstat says of a path with a last name. -/
theorem toP_make {p : Tx} {parts : List Tx} {nm : Tx} (hm : make p = .ok (parts, nm)) (hne : nm ≠ []) : toP s p false = match goes s true true parts [1] 0 with
      | .error e => .error e
      | .ok q => match get (namesOf s (q.chain.getLast?.getD 0)) nm with
        | none => .error 160
        | some m => match get s m with
          | none => .error 0
          | some _ => .ok ⟨q.chain, nm, m⟩ := by
  obtain ⟨hok, hp⟩ := make_name hm hne
  unfold toP
  rw [hp]
  exact goes_snoc hok.dots parts [1] 0
/-- The answer of Lstat. -/
def lstatA (s : Tree) (p : Tx) : Ans := match toP s p false with
  | .error e => { err := e }
  | .ok q => { stat := statN q.inode (ndAt s q.inode) }
theorem lstat_eq (n : Int) (s : Tree) (p : Tx) : doC n s ⟨13, p, [], 0, 0, []⟩ = (s, lstatA s p) := by
  rw [doC_tell n s (.inr (.inr (.inl rfl)))]
  unfold tell lstatA
  dsimp only
  rw [show decide ((13 : Int) = 12 ∨ (13 : Int) = 14) = false from rfl]
  cases toP s p false with
  | error e => rfl
  | ok q => dsimp only; rw [if_neg (by decide), if_neg (by decide)]
/-- A rename that succeeded. -/
theorem rename_ok (hI : Inv n k s) {old other : Tx} (h : (doC n s ⟨8, old, other, 0, 0, []⟩).2.err = 0) : ∃ t v, renameD s old other false = .ok ((doC n s ⟨8, old, other, 0, 0, []⟩).1, t, v) := by
  rw [doC_8 n s rfl] at h ⊢
  dsimp only at h ⊢
  cases hr : renameD s old other false with
  | error e =>
    rw [hr] at h
    have h : e = 0 := h
    exfalso
    subst h
    unfold renameD at hr
    split at hr
    · rename_i he; exact make_nz' he (by cases hr; rfl)
    · split at hr
      · rename_i he; exact make_nz' he (by cases hr; rfl)
      · split at hr
        · rename_i he; exact nameP_nz hI he (by cases hr; rfl)
        · rename_i a ha
          split at hr
          · cases hr
          · split at hr
            · rename_i he; exact nameP_nz hI he (by cases hr; rfl)
            · rename_i b hb
              split at hr
              · cases hr
              · split at hr
                · cases hr
                · unfold moveD at hr
                  by_cases c1 : b.inode ≠ 0 ∧ kindOf s b.inode = 2 ∧ kindOf s a.inode ≠ 2
                  · rw [if_pos c1] at hr; cases hr
                  rw [if_neg c1] at hr
                  by_cases c2 : b.inode ≠ 0 ∧ kindOf s b.inode ≠ 2 ∧ kindOf s a.inode = 2
                  · rw [if_pos c2] at hr; cases hr
                  rw [if_neg c2] at hr
                  by_cases c3 : kindOf s a.inode = 2 ∧ a.inode ∈ b.chain
                  · rw [if_pos c3] at hr; cases hr
                  rw [if_neg c3] at hr
                  by_cases c4 : b.inode ≠ 0 ∧ kindOf s b.inode = 2 ∧ 0 < (namesOf s b.inode).length
                  · rw [if_pos c4] at hr; cases hr
                  rw [if_neg c4] at hr
                  by_cases c5 : 32 < (b.chain.length : Int) + (if kindOf s a.inode = 2 then height s 40 a.inode else 0)
                  · rw [if_pos c5] at hr; cases hr
                  rw [if_neg c5] at hr
                  dsimp only at hr
                  generalize (if kindOf s a.inode = 2 then linksN (linksN s a.dir (-1)) b.dir 1 else s) = s1 at hr
                  by_cases c6 : b.inode = 0
                  · rw [if_pos c6] at hr; cases hr
                  · rw [if_neg c6] at hr
                    by_cases c7 : kindOf s b.inode = 2
                    · rw [if_pos c7] at hr; cases hr
                    · rw [if_neg c7] at hr; cases hr
  | ok x =>
    obtain ⟨s', t, v⟩ := x
    refine ⟨t, v, ?_⟩
    rw [hr] at h
    unfold fin ansE at h ⊢
    dsimp only at h ⊢
    split at h
    · rename_i e he
      split at he
      · cases he; cases h
      · cases he
    · rename_i u hu
      split at hu
      · cases hu
      · rename_i hc; rw [if_neg hc]
end
end Fs
end Go.Proofs.YtlnnbjgfpiefdaaGreat
/- A thing that is moved there and back: what is told then. No program in sight. -/
namespace Go.Proofs.YtlnnbjgfpiefdaaGreat
namespace Fs
section
variable {n : Int} {k : Nat} {s : Tree}
theorem lstat_there (hI : Inv n k s) {p : Tx} {q : Place} (hq : nameP s p = .ok q) (hne : q.name ≠ []) (h0 : q.inode ≠ 0) : (lstatA s p).err = 0 ∧ (lstatA s p).stat.inode = q.inode := by
  obtain ⟨parts, q0, hm, hg, hch, hin⟩ := nameP_parts hq hne
  obtain ⟨_, _, _, _, _, hN⟩ := hI.nameP hq hne
  have hN := hN h0
  have hd : q.dir = q0.chain.getLast?.getD 0 := by unfold Place.dir; rw [hch]
  unfold lstatA
  rw [toP_make hm hne, hg]
  dsimp only
  unfold nmF at hN
  rw [hd] at hN
  rw [hN]
  dsimp only
  obtain ⟨x, hx⟩ := Option.ne_none_iff_exists'.1 (hI.dir_of (d := q0.chain.getLast?.getD 0) (c := q.name) (m := q.inode) hN).2.1
  rw [hx]
  exact ⟨rfl, rfl⟩
/-- The tree behind a move to a new name. -/
def movedN (s : Tree) (ad : Int) (an : Tx) (bd : Int) (bn : Tx) (a : Int) : Tree := putN (takeN (if kindOf s a = 2 then linksN (linksN s ad (-1)) bd 1 else s) ad an) bd bn a
theorem rename_new {old other : Tx} {a b : Place} (ha : nameP s old = .ok a) (hb : nameP s other = .ok b) (ha0 : a.inode ≠ 0) (hb0 : b.inode = 0) {s' : Tree} {t : Bool} {v : Int} (h : renameD s old other false = .ok (s', t, v)) : s' = movedN s a.dir a.name b.dir b.name a.inode := by
  unfold renameD at h
  split at h
  · cases h
  · split at h
    · cases h
    · rw [ha] at h
      dsimp only at h
      rw [if_neg ha0, hb] at h
      dsimp only at h
      split at h
      · cases h
      · rw [if_neg (by rw [hb0]; exact fun e => ha0 e.symm)] at h
        unfold moveD at h
        rw [if_neg (fun c => c.1 hb0), if_neg (fun c => c.1 hb0)] at h
        by_cases c3 : kindOf s a.inode = 2 ∧ a.inode ∈ b.chain
        · rw [if_pos c3] at h; cases h
        rw [if_neg c3, if_neg (fun c => c.1 hb0)] at h
        by_cases c5 : 32 < (b.chain.length : Int) + (if kindOf s a.inode = 2 then height s 40 a.inode else 0)
        · rw [if_pos c5] at h; cases h
        rw [if_neg c5] at h
        dsimp only at h
        rw [if_pos hb0] at h
        unfold movedN
        cases h; rfl
theorem rename_names {old other : Tx} {s' : Tree} {t : Bool} {v : Int} (h : renameD s old other false = .ok (s', t, v)) : ∃ a b, nameP s old = .ok a ∧ nameP s other = .ok b ∧ a.inode ≠ 0 ∧ a.name ≠ [] ∧ b.name ≠ [] := by
  unfold renameD at h
  split at h
  · cases h
  · split at h
    · cases h
    · split at h
      · cases h
      · rename_i a ha
        split at h
        · cases h
        · rename_i ha0
          split at h
          · cases h
          · rename_i b hb
            split at h
            · cases h
            · rename_i hn
              exact ⟨a, b, ha, hb, ha0, fun e => hn (.inl e), fun e => hn (.inr e)⟩
theorem moved_kind (ad : Int) (an : Tx) (bd : Int) (bn : Tx) (a i : Int) : kindOf (movedN s ad an bd bn a) i = kindOf s i := by
  unfold movedN
  rw [kindOf_putN, kindOf_takeN]
  split
  · rw [kindOf_linksN, kindOf_linksN]
  · rfl
theorem moved_field {α : Type} (g : Nd → α) (hg : ∀ x : Nd, ∀ l z m b, g { x with links := l, size := z, names := m, blocks := b } = g x) (ad : Int) (an : Tx) (bd : Int) (bn : Tx) (a i : Int) : (get (movedN s ad an bd bn a) i).map g = (get s i).map g := by
  unfold movedN putN takeN
  rw [field_mod _ _ _ _ _ (fun x => by split <;> exact hg x _ _ _ _), field_mod _ _ _ _ _ (fun x => hg x _ _ _ _)]
  split
  · unfold linksN
    rw [field_mod _ _ _ _ _ (fun x => hg x _ _ _ _), field_mod _ _ _ _ _ (fun x => hg x _ _ _ _)]
  · rfl
theorem moved_some (ad : Int) (an : Tx) (bd : Int) (bn : Tx) (a i : Int) : get (movedN s ad an bd bn a) i = none ↔ get s i = none := by
  have := moved_field (s := s) (fun _ => ()) (fun _ _ _ _ _ => rfl) ad an bd bn a i
  constructor
  · intro h
    rw [h] at this
    cases hg : get s i with
    | none => rfl
    | some x => rw [hg] at this; cases this
  · intro h
    rw [h] at this
    cases hg : get (movedN s ad an bd bn a) i with
    | none => rfl
    | some x => rw [hg] at this; cases this
theorem moved_other (ad : Int) (an : Tx) (bd : Int) (bn : Tx) (a i : Int) (h1 : i ≠ ad) (h2 : i ≠ bd) : get (movedN s ad an bd bn a) i = get s i := by
  unfold movedN putN takeN
  rw [get_mod, if_neg h2, get_mod, if_neg h1]
  split
  · unfold linksN; rw [get_mod, if_neg h2, get_mod, if_neg h1]
  · rfl
theorem moved_names {ad bd a : Int} {an bn : Tx} (hbd : get s bd ≠ none) (e : Int) (f : Tx) : nmF (movedN s ad an bd bn a) e f = if e = bd ∧ f = bn then some a else if e = ad ∧ f = an then none else nmF s e f := by
  unfold movedN
  obtain ⟨y, hy⟩ : ∃ y, get (takeN (if kindOf s a = 2 then linksN (linksN s ad (-1)) bd 1 else s) ad an) bd = some y := by
    refine Option.ne_none_iff_exists'.1 (get_takeN_none.2 ?_)
    split
    · exact get_linksN_none.2 (get_linksN_none.2 hbd)
    · exact hbd
  rw [nmF_put hy, nmF_take]
  split
  · rfl
  · split
    · rfl
    · split
      · rw [nmF_links, nmF_links]
      · rfl
theorem moved_links {ad bd a : Int} {an bn : Tx} (had : get s ad ≠ none) (hbd : get s bd ≠ none) (i : Int) : linksOf (movedN s ad an bd bn a) i = linksOf s i + (if kindOf s a = 2 then (if i = bd then 1 else 0) - (if i = ad then 1 else 0) else 0) := by
  unfold movedN
  rw [linksOf_putN, linksOf_takeN]
  split
  · rw [linksOf_linksN', linksOf_linksN']
    have h1 : (i = bd ∧ get (linksN s ad (-1)) bd ≠ none) ↔ i = bd := ⟨fun h => h.1, fun h => ⟨h, get_linksN_none.2 hbd⟩⟩
    have h2 : (i = ad ∧ get s ad ≠ none) ↔ i = ad := ⟨fun h => h.1, fun h => ⟨h, had⟩⟩
    simp only [h1, h2]
    by_cases e1 : i = bd <;> by_cases e2 : i = ad <;> simp only [e1, e2, if_true, if_false] <;> omega
  · omega
theorem moved_apart {ad bd a : Int} {an bn : Tx} (hbd : get s bd ≠ none) (hth : nmF s ad an = some a) (hfr : nmF s bd bn = none) : Apart s (movedN s ad an bd bn a) ad an bd bn a :=
  ⟨moved_kind ad an bd bn a, moved_field (fun x => x.text) (fun _ _ _ _ _ => rfl) ad an bd bn a, hth, hfr, moved_names hbd⟩
end
end Fs
end Go.Proofs.YtlnnbjgfpiefdaaGreat
/- A thing that is moved there and back: the plain law. No program in sight. -/
namespace Go.Proofs.YtlnnbjgfpiefdaaGreat
namespace Fs
/-- Two trees that are told alike, but for the sizes of directories. -/
structure Alike (s t : Tree) : Prop where
  kind : ∀ i, kindOf t i = kindOf s i
  names : ∀ i, namesOf t i = namesOf s i
  links : ∀ i, linksOf t i = linksOf s i
  leaf : ∀ i, kindOf s i ≠ 2 → get t i = get s i
section
variable {n : Int} {k : Nat} {s : Tree}
theorem names_rising {j : Nat} {t : Tree} (h : Inv n j t) (i : Int) : Rising (namesOf t i) := by
  cases hx : get t i with
  | none => rw [names_none hx]; exact Rising.nil
  | some x => rw [namesGet hx]; exact h.rise i x hx
theorem moves_plain (hI : Inv n k s) {old other : Tx} (hB : (doC n s ⟨8, old, other, 0, 0, []⟩).2.err = 0) (hT : (lstatA s other).err ≠ 0) :
    (lstatA s old).err = 0 ∧ ((lstatA (doC n s ⟨8, old, other, 0, 0, []⟩).1 other).err = 0 → (lstatA s old).stat.inode = (lstatA (doC n s ⟨8, old, other, 0, 0, []⟩).1 other).stat.inode ∧
      ((doC n (doC n s ⟨8, old, other, 0, 0, []⟩).1 ⟨8, other, old, 0, 0, []⟩).2.err = 0 → Alike s (doC n (doC n s ⟨8, old, other, 0, 0, []⟩).1 ⟨8, other, old, 0, 0, []⟩).1)) := by
  obtain ⟨t, v, hr⟩ := rename_ok hI hB
  generalize hs1 : (doC n s ⟨8, old, other, 0, 0, []⟩).1 = s1 at *
  have hI1 : Inv n (k + 1) s1 := rename_inv hI hr
  obtain ⟨a, b, ha, hb, ha0, han, hbn⟩ := rename_names hr
  have hb0 : b.inode = 0 := Decidable.byContradiction fun e => hT (lstat_there hI hb hbn e).1
  have hm := rename_new ha hb ha0 hb0 hr
  obtain ⟨haok, pa, ach, ar, _, aN⟩ := hI.nameP ha han
  obtain ⟨hbok, pb, bch, br, bZ, _⟩ := hI.nameP hb hbn
  have aN := aN ha0
  have bZ := bZ hb0
  have kad : kindOf s a.dir = 2 := ar.kind hI.shape.root
  have kbd : kindOf s b.dir = 2 := br.kind hI.shape.root
  have gad : get s a.dir ≠ none := hI.kind_ne.1 (by rw [kad]; decide)
  have gbd : get s b.dir ≠ none := hI.kind_ne.1 (by rw [kbd]; decide)
  obtain ⟨hA1, hA2⟩ := lstat_there hI ha han ha0
  refine ⟨hA1, fun hC => ?_⟩
  have hAp : Apart s s1 a.dir a.name b.dir b.name a.inode := by rw [hm]; exact moved_apart gbd aN bZ
  obtain ⟨partsb, qb, mb, gb, cb, _⟩ := nameP_parts hb hbn
  obtain ⟨partsa, qa, ma, ga, ca, _⟩ := nameP_parts ha han
  have db : b.dir = qb.chain.getLast?.getD 0 := by unfold Place.dir; rw [cb]
  have da : a.dir = qa.chain.getLast?.getD 0 := by unfold Place.dir; rw [ca]
  -- other leads, behind the move, to what was moved
  have hC' := hC
  unfold lstatA at hC'
  rw [toP_make mb hbn] at hC'
  have g1b : goes s1 true true partsb [1] 0 = .ok qb := by
    rcases hAp.goes partsb [1] 0 qb gb with e | ⟨z, e⟩
    · exact e
    · exfalso
      rw [e] at hC'
      exact goes_nz' hI1 e hC'
  have n1b : nmF s1 b.dir b.name = some a.inode := by rw [hAp.names, if_pos ⟨rfl, rfl⟩]
  have ga1 : get s1 a.inode ≠ none := (hI1.dir_of n1b).2.1
  have hin : (lstatA s1 other).stat.inode = a.inode := by
    unfold lstatA
    rw [toP_make mb hbn, g1b]
    dsimp only
    unfold nmF at n1b
    rw [db] at n1b
    rw [n1b]
    dsimp only
    obtain ⟨x, hx⟩ := Option.ne_none_iff_exists'.1 ga1
    rw [hx]; rfl
  refine ⟨hA2.trans hin.symm, fun hD => ?_⟩
  obtain ⟨t2, v2, hr2⟩ := rename_ok hI1 hD
  generalize hs2 : (doC n s1 ⟨8, other, old, 0, 0, []⟩).1 = s2 at *
  have hI2 : Inv n (k + 1 + 1) s2 := rename_inv hI1 hr2
  obtain ⟨a2, b2, ha2, hb2, ha20, han2, hbn2⟩ := rename_names hr2
  have e2 := nameP_of mb hbn g1b
  rw [ha2] at e2
  have e2 : a2 = ⟨qb.chain, b.name, (nmF s1 (qb.chain.getLast?.getD 0) b.name).getD 0⟩ := Except.ok.inj e2
  have a2d : a2.dir = b.dir := by rw [e2, db]; rfl
  have a2n : a2.name = b.name := by rw [e2]
  have a2i : a2.inode = a.inode := by rw [e2]; dsimp only; rw [← db, n1b]; rfl
  obtain ⟨partsa', qa', ma', ga', ca', ia'⟩ := nameP_parts hb2 hbn2
  rw [ma] at ma'
  obtain ⟨rfl, hnm⟩ : partsa = partsa' ∧ a.name = b2.name := by
    have := Except.ok.inj ma'
    simp only [Prod.mk.injEq] at this
    exact this
  have hqa : qa' = qa := by
    rcases hAp.goes partsa [1] 0 qa ga with e | ⟨z, e⟩
    · rw [e] at ga'; exact (Except.ok.inj ga').symm
    · rw [e] at ga'; cases ga'
  have b2d : b2.dir = a.dir := by unfold Place.dir; rw [ca', hqa, ca]
  have hne : ¬ (a.dir = b.dir ∧ a.name = b.name) := fun e => by rw [e.1, e.2, bZ] at aN; cases aN
  have n1a : nmF s1 a.dir a.name = none := by rw [hAp.names, if_neg hne, if_pos ⟨rfl, rfl⟩]
  have b20 : b2.inode = 0 := by rw [ia', b2d, ← hnm, n1a]; rfl
  have hm2 := rename_new ha2 hb2 ha20 b20 hr2
  rw [a2d, a2n, a2i, b2d, ← hnm] at hm2
  have gad1 : get s1 a.dir ≠ none := by rw [hm, Ne, moved_some]; exact gad
  have gbd1 : get s1 b.dir ≠ none := by rw [hm, Ne, moved_some]; exact gbd
  have hk1 : ∀ i, kindOf s1 i = kindOf s i := fun i => by rw [hm, moved_kind]
  have hnm2 : ∀ e f, nmF s2 e f = nmF s e f := fun e f => by
    rw [hm2, moved_names gad1, hAp.names]
    by_cases c1 : e = a.dir ∧ f = a.name
    · rw [if_pos c1, c1.1, c1.2, aN]
    · rw [if_neg c1]
      by_cases c2 : e = b.dir ∧ f = b.name
      · rw [if_pos c2, c2.1, c2.2, bZ]
      · rw [if_neg c2, if_neg c2, if_neg c1]
  refine ⟨fun i => by rw [hm2, moved_kind, hk1], fun i => Rising.ext (names_rising hI2 i) (names_rising hI i) (fun f => hnm2 i f), fun i => ?_, fun i hi => ?_⟩
  · rw [hm2, moved_links gbd1 gad1, hk1]
    rw [hm, moved_links gad gbd]
    by_cases c : kindOf s a.inode = 2
    · simp only [if_pos c]; omega
    · simp only [if_neg c]; omega
  · have h1 : i ≠ a.dir := fun e => hi (by rw [e]; exact kad)
    have h2 : i ≠ b.dir := fun e => hi (by rw [e]; exact kbd)
    rw [hm2, moved_other _ _ _ _ _ _ h2 h1, hm, moved_other _ _ _ _ _ _ h1 h2]
/-- Alike trees are listed alike. -/
theorem Alike.lst {t : Tree} (h : Alike s t) : ∀ (K : Nat) (cs : List Tx) (i : Int), lst t K cs i = lst s K cs i := by
  have htre : ∀ (K : Nat) (cs : List Tx) (i : Int), tre t K cs i = tre s K cs i := by
    intro K
    induction K with
    | zero => intro cs i; rfl
    | succ K ih =>
      intro cs i
      rw [tre, tre, h.kind, h.names]
      split
      · refine congrArg (fun g => (namesOf s i).flatMap g) (funext fun e => ?_)
        rw [ih]
      · rfl
  intro K cs i
  unfold Fs.lst
  rw [htre]
end
end Fs
end Go.Proofs.YtlnnbjgfpiefdaaGreat
/- What the laws carry from call to call, where nothing of their own lies ahead of the file system. -/
namespace Go.Proofs.YtlnnbjgfpiefdaaGreat
open Go.RowKit Go.Maps Go.Shelf

namespace Fs
/-- A file system under a law. -/
structure Go0 (W : World) (fb : Nat) (n : Int) (nb : Nat) (s : Tree) (w : World) (L : Lay) : Prop where
  sim : Sim w L fb n nb (.slice none 0 0) []
  wf : WF L nb
  st : stOf L nb = s
  own : ∀ b, Mine L (.slice none 0 0) b → W.heap.size ≤ b
  below : Below W.heap.size W w
section
variable {W w w' : World} {fb : Nat} {n : Int} {nb : Nat} {s s' : Tree} {L L' : Lay} {k : Nat}
theorem Go0.step (h : Go0 W fb n nb s w L) (hS : Sim w' L' fb n nb (.slice none 0 0) []) (hw : WF L' nb) (hst : stOf L' nb = s') (hT : Step w (Mine L (.slice none 0 0)) w' (Mine L' (.slice none 0 0))) : Go0 W fb n nb s' w' L' := by
  obtain ⟨h1, h2⟩ := Step.from h.below hT h.own
  exact ⟨hS, hw, hst, h1, h2⟩
theorem Go0.grow (h : Go0 W fb n nb s w L) (hb : Below w.heap.size w w') : Go0 W fb n nb s w' L :=
  ⟨h.sim.below hb, h.wf, h.st, h.own, h.below.trans ⟨hb.os, hb.tape, hb.output, hb.size, fun k hk => hb.block k (Nat.lt_of_lt_of_le hk h.below.size)⟩⟩
theorem made_go0 (v : Int) (l : List Call) (ao : Option Addr) (cap : Nat) (hl : CallsAt W ao l) (hc : ∀ c ∈ l, CallOk c) :
    Calls Tryz.prog 7 #[.int .i64 v, .slice ao l.length cap] W fun e W' => ∃ fb n nb L k, e = .returned (.pointer (some ⟨fb, 0, none⟩)) ∧ Go0 W fb n nb (stOf L nb) W' L ∧ Inv n k (stOf L nb) ∧ Roomy n (stOf L nb) ∧ k ≤ 60 ∧ 128 ≤ n ∧ n ≤ 16384 := by
  refine (made_st v l ao cap W hl hc).mono ?_
  rintro e W' ⟨fb, nb, n, L, k, rfl, M, hk, h1, h2⟩
  exact ⟨fb, n, nb, L, k, rfl, ⟨M.sim, M.wf, rfl, M.own, M.below⟩, M.inv, M.room, hk, h1, h2⟩
theorem whole_go0 (h : Go0 W fb n nb s w L) (hI : Inv n k s) (hk : k ≤ 300) (hn1 : 128 ≤ n) (hn2 : n ≤ 16384) :
    Calls Tryz.prog 8 #[.pointer (some ⟨fb, 0, none⟩)] w fun e W' => ∃ L' v', e = .returned (.tuple #[v', .bool true]) ∧ Go0 W fb n nb s W' L' ∧ OffT W' L' v' (things s) ∧ Step w (Mine L (.slice none 0 0)) W' (Mine L' (.slice none 0 0)) := by
  have hst := h.st
  refine (whole_st h.sim h.wf (by rw [hst]; exact hI) hk hn1 hn2).mono ?_
  rintro e W' ⟨L', v', rfl, B, T⟩
  have T' := T.weak (Y' := Mine L' (.slice none 0 0)) fun b hb => .inl hb
  rw [hst] at B
  exact ⟨L', v', rfl, h.step B.sim B.wf B.st T', ⟨⟨_, B.row⟩, B.off⟩, T'⟩
theorem room_go0 (h : Go0 W fb n nb s w L) (hI : Inv n k s) (hk : k ≤ 300) (hn1 : 128 ≤ n) (hn2 : n ≤ 16384) :
    Calls Tryz.prog 9 #[.pointer (some ⟨fb, 0, none⟩)] w fun e W' => ∃ L', e = .returned (.agg (roomC (roomN n s))) ∧ Go0 W fb n nb s W' L' ∧ Step w (Mine L (.slice none 0 0)) W' (Mine L' (.slice none 0 0)) := by
  have hst := h.st
  refine (room_of_st h.sim h.wf (by rw [hst]; exact hI) hk hn1 hn2).mono ?_
  rintro e W' ⟨L', rfl, S', F', st', T'⟩
  rw [hst] at st' ⊢
  exact ⟨L', rfl, h.step S' F' st' T', T'⟩
theorem do_go0 (h : Go0 W fb n nb s w L) (hI : Inv n k s) (hk : k ≤ 300) (hn1 : 128 ≤ n) (hn2 : n ≤ 16384) (c : Call) (hc : CallOk c) :
    Calls Tryz.prog 11 #[.pointer (some ⟨fb, 0, none⟩), .agg (callC c)] w fun e W' => ∃ L' nv, e = .returned (.agg (ansC (doC n s c).2 nv)) ∧ Go0 W fb n nb (doC n s c).1 W' L' ∧ OffN W' L' nv (doC n s c).2.names ∧ (nv = .slice none 0 0 ↔ (doC n s c).2.names = []) ∧ Step w (Mine L (.slice none 0 0)) W' (Mine L' (.slice none 0 0)) := by
  have hst := h.st
  have := do_st h.sim h.wf (by rw [hst]; exact hI) (by omega) hn1 hn2 c hc
  rw [hst] at this
  refine this.mono ?_
  rintro e W' ⟨L', nv, S', F', st', T', rfl, A1, A2, A3⟩
  exact ⟨L', nv, rfl, h.step S' F' st' T', ⟨⟨_, A1⟩, A3⟩, A2, T'⟩
end
end Fs
end Go.Proofs.YtlnnbjgfpiefdaaGreat
/- One cell of a block, stored. -/
namespace Go.Proofs.YtlnnbjgfpiefdaaGreat
open Go.RowKit Go.Maps Go.Shelf

namespace Fs
theorem Blk.setAt {w : World} {b i : Nat} {cs : Array Value} {t : TypeId} (h : Blk w b cs t) (v : Value) : Blk (w.setCell ⟨b, i, none⟩ v) b (cs.setIfInBounds i v) t := by
  unfold Blk at *
  simp only [World.setCell]
  rw [Array.getElem?_modify, if_pos rfl, h]
  rfl
theorem store_one {w : World} {b i : Nat} {cs : Array Value} {t : TypeId} (h : Blk w b cs t) {v0 : Value} (hi : cs[i]? = some v0) (v : Int) :
    (Instr.storeAt 3 (.pointer (some ⟨b, i, none⟩)) (.int .i64 v)).run Tryz.prog w = .ok () (w.setCell ⟨b, i, none⟩ (.int .i64 v)) := by
  have hc : w.cell? ⟨b, i, none⟩ = some v0 := by rw [h.cell i, hi]
  have hz := h.free i
  simp [Instr.storeAt, Instr.sureAddr, go_sem, hc, hz]
end Fs
end Go.Proofs.YtlnnbjgfpiefdaaGreat
/- Alike trees tell alike things: only a directory's size and blocks may differ. -/
namespace Go.Proofs.YtlnnbjgfpiefdaaGreat
open Go.RowKit Go.Maps

namespace Fs
section
variable {s t : Tree}
theorem Alike.nd (h : Alike s t) (i : Int) : (ndAt t i).kind = (ndAt s i).kind ∧ (ndAt t i).links = (ndAt s i).links ∧ ((ndAt s i).kind ≠ 2 → ndAt t i = ndAt s i) := by
  have h1 := h.kind i
  have h2 := h.links i
  have h3 := h.leaf i
  unfold kindOf at h1 h3
  unfold linksOf at h2
  unfold ndAt
  cases a : get s i with
  | none =>
    rw [a] at h3
    rw [h3 (by simp)]
    exact ⟨rfl, rfl, fun _ => rfl⟩
  | some x =>
    cases b : get t i with
    | none =>
      rw [a, b] at h1 h2 h3
      by_cases hk : x.kind = 2
      · rw [show ((some x).map (·.kind)).getD 0 = x.kind from rfl, hk] at h1
        exact absurd h1 (by decide)
      · exact absurd (h3 (by simpa using hk)) (by simp)
    | some y =>
      rw [a, b] at h1 h2 h3
      exact ⟨by simpa using h1, by simpa using h2, fun hk => by simpa using h3 (by simpa using hk)⟩
theorem Alike.thing (h : Alike s t) (e : List Tx × Int) : ∃ sz bl, thing t e = ⟨(thing s e).path, ⟨(thing s e).stat.inode, (thing s e).stat.kind, (thing s e).stat.links, sz, bl⟩, (thing s e).data⟩ ∧ ((thing s e).stat.kind ≠ 2 → sz = (thing s e).stat.size ∧ bl = (thing s e).stat.blocks) := by
  obtain ⟨h1, h2, h3⟩ := h.nd e.2
  refine ⟨(ndAt t e.2).size, blocksOf (ndAt t e.2), ?_, fun hk => ?_⟩
  · unfold Fs.thing statN
    rw [h1, h2]
    by_cases hk : (ndAt s e.2).kind = 2
    · have d1 : dataOf (ndAt t e.2) = [] := by unfold dataOf; rw [h1, hk]; rfl
      have d2 : dataOf (ndAt s e.2) = [] := by unfold dataOf; rw [hk]; rfl
      rw [d1, d2]
    · rw [h3 hk]
  · have := h3 (show (ndAt s e.2).kind ≠ 2 from hk)
    rw [this]
    exact ⟨rfl, rfl⟩
theorem Alike.things (h : Alike s t) : (things t).length = (things s).length := by
  unfold Fs.things
  rw [h.lst, List.length_map, List.length_map]
theorem Alike.things_at (h : Alike s t) {j : Nat} {x : Thing} (hx : (Fs.things s)[j]? = some x) : ∃ sz bl, (Fs.things t)[j]? = some ⟨x.path, ⟨x.stat.inode, x.stat.kind, x.stat.links, sz, bl⟩, x.data⟩ ∧ (x.stat.kind ≠ 2 → sz = x.stat.size ∧ bl = x.stat.blocks) := by
  unfold Fs.things at hx ⊢
  rw [List.getElem?_map, Option.map_eq_some_iff] at hx
  obtain ⟨e, he, rfl⟩ := hx
  obtain ⟨sz, bl, h1, h2⟩ := h.thing e
  refine ⟨sz, bl, ?_, h2⟩
  rw [h.lst, List.getElem?_map, he, ← h1]; rfl
end
end Fs
end Go.Proofs.YtlnnbjgfpiefdaaGreat
