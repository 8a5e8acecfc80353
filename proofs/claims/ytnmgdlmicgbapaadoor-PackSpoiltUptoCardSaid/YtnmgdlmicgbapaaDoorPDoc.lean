/- The plain law of the document's walks over a text: step by step. -/
import Derived.Test.YtnmgdlmicgbapaaDoorPPieces
namespace Go.Proofs.YtnmgdlmicgbapaaDoor.Pk
def cnt (p : B) : Nat := if isC p then 1 else 0
theorem comps_cons (p : B) (r : List B) : ((p :: r).filter isC).length = cnt p + (r.filter isC).length := by
  unfold cnt
  cases h : isC p
  · rw [List.filter_cons_of_neg (by simp [h])]; simp
  · rw [List.filter_cons_of_pos h, List.length_cons]; simp; omega
/-- What is still asked of a text from place k on, the piece under way begun at f, q components behind it. -/
def restB (l : B) (k f q : Nat) : Bool := decide ((∀ c ∈ l.drop k, c ≠ 0) ∧ (∀ p ∈ cut (l.drop f), p.length ≤ 27) ∧ q + (comps (l.drop f)).length ≤ 32)
theorem rest_start (l : B) (h1 : l ≠ []) (h2 : l.length ≤ 1024) : text l = restB l 0 0 0 := by
  unfold text restB
  rw [Bool.eq_iff_iff, decide_eq_true_iff, decide_eq_true_iff]
  simp [h1, h2]
theorem text_short (l : B) (h : l = [] ∨ 1024 < l.length) : text l = false := by
  unfold text
  rw [decide_eq_false]
  rintro ⟨h1, h2, _⟩
  rcases h with h | h
  · exact h1 h
  · omega
theorem rest_zero (l : B) (k f q : Nat) (h : l[k]? = some 0) : restB l k f q = false := by
  unfold restB
  rw [decide_eq_false]
  rintro ⟨h1, _⟩
  refine h1 0 ?_ rfl
  obtain ⟨hk, e⟩ := List.getElem?_eq_some_iff.1 h
  rw [List.drop_eq_getElem_cons hk, e]
  simp
theorem rest_next (l : B) (k f q : Nat) (c : UInt8) (h : l[k]? = some c) (hc : c ≠ 0) : restB l k f q = restB l (k + 1) f q := by
  unfold restB
  obtain ⟨hk, e⟩ := List.getElem?_eq_some_iff.1 h
  rw [List.drop_eq_getElem_cons hk, e]
  simp [hc]
theorem rest_piece (l : B) (k f q : Nat) (hf : f ≤ k) (h : l[k]? = some 47) (hn : ∀ j, f ≤ j → j < k → l[j]? ≠ some 47) :
    restB l (k + 1) f q = (decide (((l.drop f).take (k - f)).length ≤ 27) && restB l (k + 1) (k + 1) (q + cnt ((l.drop f).take (k - f)))) := by
  have h1 := cut_first (l.drop f) (k - f) (by rw [List.getElem?_drop, show f + (k - f) = k by omega]; exact h) (fun j hj => by rw [List.getElem?_drop]; exact hn (f + j) (by omega) (by omega))
  rw [List.drop_drop, show f + (k - f + 1) = k + 1 by omega] at h1
  have h2 := comps_cons ((l.drop f).take (k - f)) (cut (l.drop (k + 1)))
  unfold restB comps
  rw [h1, h2, Bool.eq_iff_iff, Bool.and_eq_true, decide_eq_true_iff, decide_eq_true_iff, decide_eq_true_iff]
  constructor
  · rintro ⟨a, b, c⟩
    exact ⟨b _ (by simp), a, fun p hp => b p (List.mem_cons_of_mem _ hp), by omega⟩
  · rintro ⟨a, b, c, d⟩
    refine ⟨b, fun p hp => ?_, by omega⟩
    rcases List.mem_cons.1 hp with rfl | hp
    · exact a
    · exact c p hp
theorem rest_end (l : B) (f q : Nat) (hn : ∀ j, f ≤ j → j < l.length → l[j]? ≠ some 47) :
    restB l l.length f q = (decide ((l.drop f).length ≤ 27) && decide (q + cnt (l.drop f) ≤ 32)) := by
  have h1 := cut_whole (l.drop f) (fun j hj => by rw [List.getElem?_drop]; exact hn (f + j) (by omega) (by rw [List.length_drop] at hj; omega))
  have h2 := comps_cons (l.drop f) []
  unfold restB comps
  rw [h1, h2, Bool.eq_iff_iff, Bool.and_eq_true, decide_eq_true_iff, decide_eq_true_iff, decide_eq_true_iff, List.drop_length]
  simp
/-! ### a name, byte by byte -/
def nameB (l : B) (k : Nat) : Bool := (l.drop k).all fun c => decide (c ≠ 0 ∧ c ≠ 47)
theorem name_bytes (l : B) : goodName l = (decide (1 ≤ l.length ∧ l.length ≤ 27 ∧ l ≠ [46] ∧ l ≠ [46, 46]) && nameB l 0) := by
  unfold goodName nameB
  rw [Bool.eq_iff_iff, Bool.and_eq_true, decide_eq_true_iff, decide_eq_true_iff, List.all_eq_true, List.drop_zero]
  simp only [decide_eq_true_iff]
  constructor
  · rintro ⟨a, b, c, d, e⟩; exact ⟨⟨a, b, c, d⟩, e⟩
  · rintro ⟨⟨a, b, c, d⟩, e⟩; exact ⟨a, b, c, d, e⟩
theorem nameB_next (l : B) (k : Nat) (c : UInt8) (h : l[k]? = some c) : nameB l k = (decide (c ≠ 0 ∧ c ≠ 47) && nameB l (k + 1)) := by
  unfold nameB
  obtain ⟨hk, e⟩ := List.getElem?_eq_some_iff.1 h
  rw [List.drop_eq_getElem_cons hk, e, List.all_cons]
theorem nameB_end (l : B) : nameB l l.length = true := by unfold nameB; rw [List.drop_length]; rfl
end Go.Proofs.YtnmgdlmicgbapaaDoor.Pk
