/- The plain law on how many blocks a file takes: how many different numbers a list has, and how many entries a map has into which they were put. -/
import Derived.Maps.OwnSet
namespace Go.Proofs.Ytjloonijnbfhhaa
open Go.Maps Go.WideShapes

namespace Tk
/-- A number that a list has then. -/
def add (acc : List Int) (k : Int) : List Int := if k ∈ acc then acc else acc ++ [k]
/-- The different numbers of a list. -/
def dd (l : List Int) : List Int := l.foldl add []
/-- The tables below the second one. -/
def tab (l : List Int) : List Int := l.flatMap (fun k => if 138 ≤ k then [(k - 138) / 128] else [])
def far (l : List Int) : Bool := l.any fun k => decide (k < 0 ∨ 16521 < k)
def one (l : List Int) : Nat := if l.any (fun k => decide (10 ≤ k ∧ k < 138)) then 1 else 0
def two (l : List Int) : Nat := if l.any (fun k => decide (138 ≤ k)) then 1 else 0
/-- The keys that the program puts into its map of tables. -/
def keys (l : List Int) : List Int := l.flatMap (fun k => if 138 ≤ k then [-1, (k - 138) / 128] else if 10 ≤ k then [-2] else [])
/-- How many blocks. -/
def count (l : List Int) : Nat := (dd l).length + one l + two l + (dd (tab l)).length

theorem dd_snoc (l : List Int) (k : Int) : dd (l ++ [k]) = add (dd l) k := by simp [dd, List.foldl_append]
theorem mem_add (acc : List Int) (k x : Int) : x ∈ add acc k ↔ x ∈ acc ∨ x = k := by
  unfold add; split
  · constructor
    · exact .inl
    · rintro (h | rfl) <;> assumption
  · simp
theorem mem_fold (x : Int) : ∀ (l acc : List Int), x ∈ l.foldl add acc ↔ x ∈ acc ∨ x ∈ l
  | [], acc => by simp
  | k :: r, acc => by rw [List.foldl_cons, mem_fold x r, mem_add]; simp [or_assoc]
theorem mem_dd (x : Int) (l : List Int) : x ∈ dd l ↔ x ∈ l := by simp [dd, mem_fold]
theorem len_add (acc : List Int) (k : Int) : (add acc k).length = if k ∈ acc then acc.length else acc.length + 1 := by
  unfold add; split <;> simp
theorem dd_len_snoc (l : List Int) (k : Int) : (dd (l ++ [k])).length = if k ∈ l then (dd l).length else (dd l).length + 1 := by
  rw [dd_snoc, len_add]; simp only [mem_dd]
theorem dd_len_le (l : List Int) : (dd l).length ≤ l.length := by
  have h : ∀ (l acc : List Int), (l.foldl add acc).length ≤ acc.length + l.length := by
    intro l; induction l with
    | nil => simp
    | cons k r ih => intro acc; rw [List.foldl_cons]; have := ih (add acc k); rw [len_add] at this; simp only [List.length_cons]; split at this <;> omega
  simpa [dd] using h l []
theorem tab_snoc (l : List Int) (k : Int) : tab (l ++ [k]) = tab l ++ if 138 ≤ k then [(k - 138) / 128] else [] := by simp [tab, List.flatMap_append]
theorem keys_snoc (l : List Int) (k : Int) : keys (l ++ [k]) = keys l ++ if 138 ≤ k then [-1, (k - 138) / 128] else if 10 ≤ k then [-2] else [] := by simp [keys, List.flatMap_append]
theorem tab_len : ∀ l : List Int, (tab l).length ≤ l.length
  | [] => by simp [tab]
  | k :: r => by
    have ih := tab_len r
    have e : tab (k :: r) = (if 138 ≤ k then [(k - 138) / 128] else []) ++ tab r := rfl
    rw [e, List.length_append, List.length_cons]; split <;> simp <;> omega
theorem mem_keys_one (l : List Int) : (-1 : Int) ∈ keys l ↔ l.any (fun k => decide (138 ≤ k)) = true := by
  simp only [keys, List.mem_flatMap, List.any_eq_true, decide_eq_true_eq]
  constructor
  · rintro ⟨k, hk, h⟩; refine ⟨k, hk, ?_⟩; split at h
    · assumption
    · split at h <;> simp at h
  · rintro ⟨k, hk, h⟩; exact ⟨k, hk, by simp [h]⟩
theorem mem_keys_two (l : List Int) : (-2 : Int) ∈ keys l ↔ l.any (fun k => decide (10 ≤ k ∧ k < 138)) = true := by
  simp only [keys, List.mem_flatMap, List.any_eq_true, decide_eq_true_eq]
  constructor
  · rintro ⟨k, hk, h⟩; refine ⟨k, hk, ?_⟩; split at h
    · simp at h; omega
    · split at h
      · omega
      · simp at h
  · rintro ⟨k, hk, h⟩; exact ⟨k, hk, by rw [if_neg (by omega), if_pos (by omega)]; simp⟩
theorem mem_keys_tab (l : List Int) (q : Int) (hq : 0 ≤ q) : q ∈ keys l ↔ q ∈ tab l := by
  simp only [keys, tab, List.mem_flatMap]
  constructor
  · rintro ⟨k, hk, h⟩; refine ⟨k, hk, ?_⟩; split at h
    · simp at h; rcases h with h | h
      · omega
      · rename_i h1; simp [h1, h]
    · split at h <;> simp at h; omega
  · rintro ⟨k, hk, h⟩; refine ⟨k, hk, ?_⟩; split at h
    · rename_i h1; simp at h; simp [h1, h]
    · simp at h
theorem one_snoc (l : List Int) (k : Int) : one (l ++ [k]) = if 10 ≤ k ∧ k < 138 then 1 else one l := by
  simp only [one, List.any_append, List.any_cons, List.any_nil, Bool.or_false]
  by_cases h : 10 ≤ k ∧ k < 138 <;> simp [h]
theorem two_snoc (l : List Int) (k : Int) : two (l ++ [k]) = if 138 ≤ k then 1 else two l := by
  simp only [two, List.any_append, List.any_cons, List.any_nil, Bool.or_false]
  by_cases h : 138 ≤ k <;> simp [h]
theorem keys_len_aux (l : List Int) (k : Int) (h : (dd (keys l)).length = one l + two l + (dd (tab l)).length) :
    (dd (keys (l ++ [k]))).length = one (l ++ [k]) + two (l ++ [k]) + (dd (tab (l ++ [k]))).length := by
  rw [keys_snoc, tab_snoc, one_snoc, two_snoc]
  by_cases h1 : 138 ≤ k
  · have hq : 0 ≤ (k - 138) / 128 := by omega
    rw [if_pos h1, if_pos h1, if_pos h1, if_neg (by omega), show keys l ++ [-1, (k - 138) / 128] = (keys l ++ [-1]) ++ [(k - 138) / 128] by simp,
      dd_len_snoc, dd_len_snoc, dd_len_snoc]
    have e2 : ((k - 138) / 128 ∈ keys l ++ [-1]) ↔ (k - 138) / 128 ∈ tab l := by
      rw [List.mem_append, mem_keys_tab l _ hq]; simp; omega
    simp only [e2, mem_keys_one]
    have e3 : two l = if l.any (fun k => decide (138 ≤ k)) = true then 1 else 0 := rfl
    generalize (l.any fun k => decide (138 ≤ k)) = c at *
    cases c <;> simp at * <;> split <;> omega
  · rw [if_neg h1, if_neg h1, if_neg h1]
    by_cases h2 : 10 ≤ k
    · rw [if_pos h2, if_pos ⟨h2, by omega⟩, dd_len_snoc]
      simp only [mem_keys_two, List.append_nil]
      have e3 : one l = if l.any (fun k => decide (10 ≤ k ∧ k < 138)) = true then 1 else 0 := rfl
      generalize (l.any fun k => decide (10 ≤ k ∧ k < 138)) = c at *
      cases c <;> simp at * <;> omega
    · rw [if_neg h2, if_neg (by omega)]; simpa using h
theorem keys_len_go : ∀ (r l : List Int), (dd (keys l)).length = one l + two l + (dd (tab l)).length → (dd (keys (l ++ r))).length = one (l ++ r) + two (l ++ r) + (dd (tab (l ++ r))).length
  | [], l, h => by simpa using h
  | k :: r, l, h => by
    have := keys_len_go r (l ++ [k]) (keys_len_aux l k h)
    simpa using this
theorem keys_len (l : List Int) : (dd (keys l)).length = one l + two l + (dd (tab l)).length := by
  have := keys_len_go l [] rfl
  simpa using this
/-- The two ways to count. -/
theorem count_eq (l : List Int) : count l = (dd l).length + (dd (keys l)).length := by rw [keys_len, count]; omega

/-- The map has just these keys. -/
structure Holds {H : Type} (D : DataW H) (S : List Int) : Prop where
  tidy : Tidy D
  has : ∀ k : Int, Maps.has D (.int .i64 k) = decide (k ∈ S)
  size : Maps.size D = (dd S).length

theorem Holds.empty {H : Type} : Holds (.map [] : DataW H) [] := ⟨tidy_empty, fun _ => rfl, rfl⟩
theorem Holds.put {H : Type} {D : DataW H} {S : List Int} (h : Holds D S) (k : Int) (hk : WideAt.IsKeyLit (.int .i64 k)) (d : DataW H) : Holds (D.put (.int .i64 k) d) (S ++ [k]) where
  tidy := h.tidy.put hk d
  has := fun x => by
    by_cases e : x = k
    · subst e; rw [has_put_same h.tidy.isMap hk]; simp
    · rw [has_put_other (by simpa using e), h.has]; simp [e]
  size := by
    rw [size_put h.tidy, h.has, h.size, dd_len_snoc]; simp
end Tk
end Go.Proofs.Ytjloonijnbfhhaa
