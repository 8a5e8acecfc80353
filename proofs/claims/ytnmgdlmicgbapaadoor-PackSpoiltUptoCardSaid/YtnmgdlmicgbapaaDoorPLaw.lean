/- The plain law of chapter 24: names of paths, their order, what a right list is, as the program asks it and as the document says it. No program in sight. -/
import Derived.Lib.SplitLaws
import Derived.Lib.Join
namespace Go.Proofs.YtnmgdlmicgbapaaDoor.Pk
abbrev B := List UInt8

/-- Cut at each slash. -/
def cut : B → List B
  | [] => [[]]
  | c :: r => if c = 47 then [] :: cut r else match cut r with
    | x :: xs => (c :: x) :: xs
    | [] => [[c]]
theorem cut_ne : ∀ l : B, cut l ≠ []
  | [] => by simp [cut]
  | c :: r => by
    unfold cut
    split
    · simp
    · split <;> simp
theorem cut_slash (r : B) : cut (47 :: r) = [] :: cut r := by rw [cut]; simp
theorem cut_other {c : UInt8} (h : c ≠ 47) (r : B) : ∃ x xs, cut r = x :: xs ∧ cut (c :: r) = (c :: x) :: xs := by
  cases hc : cut r with
  | nil => exact absurd hc (cut_ne r)
  | cons x xs => exact ⟨x, xs, rfl, by rw [cut, if_neg h, hc]⟩
theorem cut_none : ∀ b : B, (∀ c ∈ b, c ≠ 47) → cut b = [b]
  | [], _ => rfl
  | c :: r, h => by
    obtain ⟨x, xs, h1, h2⟩ := cut_other (h c (by simp)) r
    rw [cut_none r (fun d hd => h d (by simp [hd]))] at h1
    cases h1
    exact h2
theorem cut_append : ∀ a b : B, cut (a ++ 47 :: b) = cut a ++ cut b
  | [], b => by rw [List.nil_append, cut_slash]; rfl
  | c :: r, b => by
    by_cases h : c = 47
    · subst h; rw [List.cons_append, cut_slash, cut_slash, cut_append r b]; rfl
    · obtain ⟨x, xs, h1, h2⟩ := cut_other h r
      obtain ⟨y, ys, h3, h4⟩ := cut_other h (r ++ 47 :: b)
      rw [cut_append r b, h1] at h3
      cases h3
      rw [List.cons_append, h4, h2]; rfl
theorem join_cons2 (x : B) (r : List B) (h : r ≠ []) : Lib.join (x :: r) [47] = x ++ 47 :: Lib.join r [47] := by
  cases r with
  | nil => exact absurd rfl h
  | cons y r => rw [Lib.join_cons, Lib.join_cons]; simp [Lib.joinTail]
theorem join_cut : ∀ a : B, Lib.join (cut a) [47] = a
  | [] => Lib.join_one [] [47]
  | c :: r => by
    have ih := join_cut r
    by_cases h : c = 47
    · subst h; rw [cut_slash, join_cons2 _ _ (cut_ne r), ih]; rfl
    · obtain ⟨x, xs, h1, h2⟩ := cut_other h r
      rw [h1] at ih
      rw [h2]
      cases xs with
      | nil => rw [Lib.join_one] at ih ⊢; rw [ih]
      | cons y ys => rw [join_cons2 _ _ (by simp)] at ih ⊢; rw [List.cons_append, ih]
/-- The first piece, up to a slash. -/
theorem cut_first (p : B) (i : Nat) (h : p[i]? = some 47) (hn : ∀ j, j < i → p[j]? ≠ some 47) : cut p = p.take i :: cut (p.drop (i + 1)) := by
  have hi := (List.getElem?_eq_some_iff.1 h).1
  have e : p = p.take i ++ 47 :: p.drop (i + 1) := by
    have h2 : p[i] = 47 := (List.getElem?_eq_some_iff.1 h).2
    rw [← h2, ← List.drop_eq_getElem_cons hi, List.take_append_drop]
  have h3 : cut (p.take i) = [p.take i] := by
    refine cut_none _ fun c hc hc2 => ?_
    obtain ⟨j, hj, hjc⟩ := List.mem_iff_getElem.1 hc
    rw [List.length_take] at hj
    refine hn j (by omega) ?_
    rw [← hc2, ← hjc, List.getElem_take]
    exact List.getElem?_eq_getElem (by omega)
  have h4 := cut_append (p.take i) (p.drop (i + 1))
  rw [← e, h3] at h4
  exact h4
theorem cut_whole (p : B) (hn : ∀ j, j < p.length → p[j]? ≠ some 47) : cut p = [p] := by
  refine cut_none _ fun c hc hc2 => ?_
  obtain ⟨j, hj, hjc⟩ := List.mem_iff_getElem.1 hc
  exact hn j hj (by rw [← hc2, ← hjc]; exact List.getElem?_eq_getElem hj)
theorem cut_count : ∀ p : B, (cut p).length = p.count 47 + 1
  | [] => rfl
  | c :: r => by
    by_cases h : c = 47
    · subst h; rw [cut_slash, List.length_cons, cut_count r, List.count_cons_self]
    · obtain ⟨x, xs, h1, h2⟩ := cut_other h r
      have := cut_count r
      rw [h1] at this
      rw [h2, List.count_cons_of_ne (by simpa using h)]
      simpa using this
theorem cut_mem_len : ∀ (p : B), ∀ x ∈ cut p, x.length ≤ p.length
  | [], x, hx => by simp [cut] at hx; simp [hx]
  | c :: r, x, hx => by
    by_cases h : c = 47
    · subst h
      rw [cut_slash] at hx
      rcases List.mem_cons.1 hx with rfl | hx
      · simp
      · have := cut_mem_len r x hx; simp only [List.length_cons]; omega
    · obtain ⟨y, ys, h1, h2⟩ := cut_other h r
      rw [h2] at hx
      rcases List.mem_cons.1 hx with rfl | hx
      · have := cut_mem_len r y (by rw [h1]; simp); simp only [List.length_cons]; omega
      · have := cut_mem_len r x (by rw [h1]; simp [hx]); simp only [List.length_cons]; omega
/-- A piece has no slash. -/
theorem cut_mem : ∀ (p : B), ∀ x ∈ cut p, ∀ c ∈ x, c ≠ 47
  | [], x, hx => by simp [cut] at hx; simp [hx]
  | d :: r, x, hx => by
    by_cases h : d = 47
    · subst h
      rw [cut_slash] at hx
      rcases List.mem_cons.1 hx with rfl | hx
      · intro c hc; cases hc
      · exact cut_mem r x hx
    · obtain ⟨y, ys, h1, h2⟩ := cut_other h r
      rw [h2] at hx
      rcases List.mem_cons.1 hx with rfl | hx
      · intro c hc
        rcases List.mem_cons.1 hc with rfl | hc
        · exact h
        · exact cut_mem r y (by rw [h1]; simp) c hc
      · exact cut_mem r x (by rw [h1]; simp [hx])
/-- The library's cut at each slash. -/
theorem split_cut : ∀ (n : Nat) (s : B), s.length ≤ n → Lib.splitK [47] 0 (Lib.count s [47]) s = cut s := by
  intro n
  induction n with
  | zero =>
    intro s hs
    have : s = [] := List.length_eq_zero_iff.1 (by omega)
    subst this
    rfl
  | succ n ih =>
    intro s hs
    by_cases hm : Lib.index s [47] = -1
    · have hnone : ∀ c ∈ s, c ≠ 47 := by
        intro c hc hc2
        subst hc2
        have h1 := Lib.count_one 47 s
        rw [Lib.count_miss hm] at h1
        have := List.count_pos_iff.2 hc
        omega
      rw [Lib.count_miss hm, cut_none s hnone]; rfl
    · have hge := Lib.index_ge s [47]
      obtain ⟨i, hi⟩ : ∃ i : Nat, Lib.index s [47] = i := ⟨(Lib.index s [47]).toNat, by omega⟩
      have hc := Lib.count_hit (by simp) hi
      have key : ∀ (s : B) (i : Nat), Lib.index s [47] = i → s[i]? = some 47 ∧ ∀ j, j < i → s[j]? ≠ some 47 := by
        intro s
        induction s with
        | nil => intro i h; simp [Lib.index] at h
        | cons b l ih2 =>
          intro i h
          unfold Lib.index at h
          by_cases hb : b = 47
          · subst hb
            simp at h
            have : i = 0 := by omega
            subst this
            exact ⟨rfl, fun j hj => by omega⟩
          · have hp : ([47] : List UInt8).isPrefixOf (b :: l) = false := by simp [List.isPrefixOf, Ne.symm hb]
            rw [hp] at h
            simp only [Bool.false_eq_true, if_false] at h
            split at h
            · omega
            · rename_i hq
              have hge := Lib.index_ge l [47]
              have hq' : Lib.index l [47] ≠ -1 := fun e => hq (by rw [e]; rfl)
              obtain ⟨j, hj⟩ : ∃ j : Nat, Lib.index l [47] = j := ⟨(Lib.index l [47]).toNat, by omega⟩
              have hij : i = j + 1 := by omega
              subst hij
              obtain ⟨h1, h2⟩ := ih2 j hj
              refine ⟨by simpa using h1, fun k hk => ?_⟩
              cases k with
              | zero => simpa using hb
              | succ k => have := h2 k (by omega); simpa using this
      obtain ⟨k1, k2⟩ := key s i hi
      have hlt := (List.getElem?_eq_some_iff.1 k1).1
      rw [cut_first s i k1 k2, ← ih (s.drop (i + 1)) (by rw [List.length_drop]; omega)]
      rw [hc]
      simp only [List.length_singleton]
      rw [show 1 + Lib.count (List.drop (i + 1) s) [47] = Lib.count (List.drop (i + 1) s) [47] + 1 by omega, Lib.splitK, hi]
      have : ((i : Int) == -1) = false := by rw [beq_eq_false_iff_ne]; omega
      rw [this]
      simp
/-- A path's names; none of the empty one. -/
def names (p : B) : List B := if p = [] then [] else cut p
/-- The path above. -/
def above (p : B) : B := Lib.join (names p).dropLast [47]
theorem above_at (p : B) (i : Nat) (h : p[i]? = some 47) (hn : ∀ j, i < j → p[j]? ≠ some 47) : above p = p.take i := by
  have hi := (List.getElem?_eq_some_iff.1 h).1
  have h2 : p[i] = 47 := (List.getElem?_eq_some_iff.1 h).2
  have e : p = p.take i ++ 47 :: p.drop (i + 1) := by rw [← h2, ← List.drop_eq_getElem_cons hi, List.take_append_drop]
  have hp : p ≠ [] := by rintro rfl; simp at hi
  have h3 : cut (p.drop (i + 1)) = [p.drop (i + 1)] := by
    refine cut_whole _ fun j hj hj2 => hn (i + 1 + j) (by omega) ?_
    rwa [List.getElem?_drop] at hj2
  have h4 := cut_append (p.take i) (p.drop (i + 1))
  rw [← e, h3] at h4
  unfold above names
  rw [if_neg hp, h4, List.dropLast_concat, join_cut]
theorem above_none (p : B) (hn : ∀ j, j < p.length → p[j]? ≠ some 47) : above p = [] := by
  unfold above names
  split
  · rfl
  · rw [cut_whole p hn]; rfl

/-! ### the order of paths -/
/-- Rows of names: the first ahead of the second. -/
def less (lt : B → B → Bool) : List B → List B → Bool
  | [], [] => false
  | [], _ :: _ => true
  | _ :: _, [] => false
  | x :: a, y :: b => if x = y then less lt a b else lt x y

/-! ### what may be -/
structure PItem where
  path : B
  kind : Int
  size : Int
  data : B
  pieces : List Int
  same : Int
  deriving DecidableEq
def allZero (l : B) : Bool := l.all (· == 0)
/-- The pieces of a file, from one on. -/
def filePs (size : Int) : Int → B → List Int → Bool
  | _, data, [] => data.isEmpty
  | last, data, p :: ps => if p ≤ last ∨ size ≤ 512 * p then false else
      if data.length < (min 512 (size - 512 * p)).toNat then false else
      if allZero (data.take (min 512 (size - 512 * p)).toNat) then false else filePs size p (data.drop (min 512 (size - 512 * p)).toNat) ps
def file (x : PItem) : Bool := decide (0 ≤ x.size ∧ x.size ≤ 8459264) && filePs x.size (-1) x.data x.pieces
def isEmpty (x : PItem) : Bool := decide (x.size = 0) && x.data.isEmpty && x.pieces.isEmpty
/-- Is a piece a component? -/
def isC (p : B) : Bool := decide (p ≠ [] ∧ p ≠ [46])
def comps (l : B) : List B := (cut l).filter isC
def text (l : B) : Bool := decide (l ≠ [] ∧ l.length ≤ 1024 ∧ (∀ c ∈ l, c ≠ 0) ∧ (∀ p ∈ cut l, p.length ≤ 27) ∧ (comps l).length ≤ 32)
def link (x : PItem) : Bool := text x.data && decide (x.size = x.data.length) && x.pieces.isEmpty
def goodName (s : B) : Bool := decide (1 ≤ s.length ∧ s.length ≤ 27 ∧ s ≠ [46] ∧ s ≠ [46, 46] ∧ ∀ c ∈ s, c ≠ 0 ∧ c ≠ 47)
/-- By its kind: may an item of its own be? -/
def may (x : PItem) : Bool := if x.kind = 1 then file x else if x.kind = 2 then isEmpty x else link x
/-- Does a path stand well behind another, with the directories that were met? -/
def follows (lt : B → B → Bool) (met : List PItem) (ahead p : B) : Bool :=
  decide (p ≠ [] ∧ (names p).length ≤ 32) && less lt (names ahead) (names p) && (names p).all goodName && met.any fun y => decide (y.path = above p ∧ y.kind = 2)
/-- The earlier item. -/
def sameOk (met : List PItem) (x : PItem) : Bool := decide (0 ≤ x.same ∧ x.kind ≠ 2) && (match met[x.same.toNat]? with | some y => decide (y.kind = x.kind ∧ y.same = -1) | none => false) && isEmpty x
/-- May an item stand behind those that were met? -/
def stands (lt : B → B → Bool) (met : List PItem) (x : PItem) : Bool :=
  (match met.getLast? with | none => decide (x.path = []) | some y => follows lt met y.path x.path) && decide (1 ≤ x.kind ∧ x.kind ≤ 3) && (if x.same = -1 then may x else sameOk met x)
/-- Is the rest right behind what was met? -/
def rightFrom (lt : B → B → Bool) : List PItem → List PItem → Bool
  | _, [] => true
  | met, x :: r => stands lt met x && rightFrom lt (met ++ [x]) r
def right (lt : B → B → Bool) (l : List PItem) : Bool := !l.isEmpty && rightFrom lt [] l
end Go.Proofs.YtnmgdlmicgbapaaDoor.Pk
