/- The pieces of a path between its slashes: the plain law. -/
import Derived.Test.YtnmgdlmicgbapaaDoorPLaw
namespace Go.Proofs.YtnmgdlmicgbapaaDoor.Pk
/-- The pieces that aren't empty. -/
def pcs (l : B) : List B := (cut l).filter fun p => decide (p ≠ [])
theorem pcs_nil : pcs [] = [] := rfl
theorem pcs_slash (r : B) : pcs (47 :: r) = pcs r := by unfold pcs; rw [cut_slash]; rfl
theorem pcs_at_slash (l : B) (k : Nat) (h : l[k]? = some 47) : pcs (l.drop k) = pcs (l.drop (k + 1)) := by
  obtain ⟨hk, e⟩ := List.getElem?_eq_some_iff.1 h
  rw [List.drop_eq_getElem_cons hk, e, pcs_slash]
/-- A piece from k to e. -/
theorem pcs_piece (l : B) (k e : Nat) (hke : k < e) (hel : e ≤ l.length) (hn : ∀ j, k ≤ j → j < e → l[j]? ≠ some 47) (he : e = l.length ∨ l[e]? = some 47) :
    pcs (l.drop k) = (l.drop k).take (e - k) :: pcs (l.drop e) := by
  have hne : (l.drop k).take (e - k) ≠ [] := by
    intro h
    have := congrArg List.length h
    rw [List.length_take, List.length_drop, List.length_nil] at this
    omega
  have hfil : ∀ xs : List B, ((l.drop k).take (e - k) :: xs).filter (fun p => decide (p ≠ [])) = (l.drop k).take (e - k) :: xs.filter (fun p => decide (p ≠ [])) := by
    intro xs
    rw [List.filter_cons_of_pos (by simpa using hne)]
  by_cases h : e = l.length
  · have h1 : cut (l.drop k) = [l.drop k] := by
      refine cut_whole _ fun j hj => ?_
      rw [List.getElem?_drop]
      exact hn (k + j) (by omega) (by rw [List.length_drop] at hj; omega)
    have h2 : (l.drop k).take (e - k) = l.drop k := List.take_of_length_le (by rw [List.length_drop]; omega)
    rw [h2] at hne ⊢
    unfold pcs
    rw [h1, List.drop_eq_nil_of_le (by omega : l.length ≤ e)]
    rw [List.filter_cons_of_pos (by simpa using hne)]
    rfl
  · have he' : l[e]? = some 47 := he.resolve_left h
    have h1 := cut_first (l.drop k) (e - k) (by rw [List.getElem?_drop, show k + (e - k) = e by omega]; exact he') (fun j hj => by rw [List.getElem?_drop]; exact hn (k + j) (by omega) (by omega))
    rw [pcs_at_slash l e he']
    unfold pcs
    rw [h1, hfil, List.drop_drop, show k + (e - k + 1) = e + 1 by omega]
theorem pcs_count (l : B) : (pcs l).length ≤ l.length + 1 := by
  unfold pcs
  refine Nat.le_trans (List.length_filter_le _ _) ?_
  rw [cut_count]
  have := List.count_le_length (a := (47 : UInt8)) (l := l)
  omega
end Go.Proofs.YtnmgdlmicgbapaaDoor.Pk
