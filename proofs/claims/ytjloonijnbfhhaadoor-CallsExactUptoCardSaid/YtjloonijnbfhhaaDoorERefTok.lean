/- The plain law of the document's cut: a quoted word ends at a blank or at the end. No program in sight. -/
import Derived.Test.YtjloonijnbfhhaaDoorCallsTok
namespace Go.Proofs.YtjloonijnbfhhaaDoor
namespace Cl
/-- The words so far, the document's way. -/
def SofarR (l : B) (k : Nat) (acc : List B) : Prop := toks tokR l = (toks tokR (l.drop k)).map (acc ++ ·)
theorem sofarR0 (l : B) : SofarR l 0 [] := by unfold SofarR; simp
theorem sofarR_blank {l r : B} {k : Nat} {acc : List B} (h : SofarR l k acc) (hk : l.drop k = 32 :: r) : SofarR l (k + 1) acc := by
  unfold SofarR at *
  rw [h, hk, toks_blank eatsR]
  have : l.drop (k + 1) = r := by rw [← List.drop_drop, hk]; rfl
  rw [this]
theorem sofarR_none {l r : B} {k : Nat} {c : UInt8} {acc : List B} (h : SofarR l k acc) (hk : l.drop k = c :: r) (hc : c ≠ 32) (ht : tokR (c :: r) = none) : toks tokR l = none := by
  unfold SofarR at h
  rw [h, hk, toks_word eatsR _ _ hc, ht]; rfl
theorem sofarR_bad {l r : B} {k : Nat} {acc : List B} (h : SofarR l k acc) (hk : l.drop k = 34 :: r) (hd : dq r = none) : toks tokR l = none :=
  sofarR_none h hk (by decide) (by rw [tokR_cons, if_pos rfl, hd])
theorem drop_in {l r : B} {k n : Nat} (hk : l.drop k = 34 :: r) : r.drop n = l.drop (k + (n + 1)) := by
  rw [← List.drop_drop, hk, List.drop_succ_cons]
theorem sofarR_beside {l r x q : B} {k n : Nat} {c : UInt8} {acc : List B} (h : SofarR l k acc) (hk : l.drop k = 34 :: r) (hd : dq r = some (x, n)) (hq : l.drop (k + (n + 1)) = c :: q) (hc : c ≠ 32) : toks tokR l = none := by
  refine sofarR_none h hk (by decide) ?_
  rw [tokR_cons, if_pos rfl, hd]
  simp only
  rw [drop_in hk, hq, if_neg]
  rintro (e | e)
  · cases e
  · simp only [List.head?_cons, Option.some.injEq] at e; exact hc e
theorem sofarR_step {l r t : B} {k j : Nat} {c : UInt8} {acc : List B} (h : SofarR l k acc) (hk : l.drop k = c :: r) (hc : c ≠ 32) (ht : tokR (c :: r) = some (t, l.drop j)) : SofarR l j (acc ++ [t]) := by
  unfold SofarR at *
  rw [h, hk, toks_word eatsR _ _ hc, ht]
  simp only
  cases toks tokR (l.drop j) <;> simp
theorem sofarR_quoted {l r x : B} {k n : Nat} {acc : List B} (h : SofarR l k acc) (hk : l.drop k = 34 :: r) (hd : dq r = some (x, n)) (he : l.drop (k + (n + 1)) = [] ∨ (l.drop (k + (n + 1))).head? = some 32) : SofarR l (k + (n + 1)) (acc ++ [(l.drop k).take (k + (n + 1) - k)]) := by
  refine sofarR_step h hk (by decide) ?_
  rw [tokR_cons, if_pos rfl, hd]
  simp only
  rw [drop_in hk, if_pos he, hk, show k + (n + 1) - k = n + 1 by omega]
theorem sofarR_word {l r : B} {k j : Nat} {c : UInt8} {acc : List B} (h : SofarR l k acc) (hk : l.drop k = c :: r) (hc : c ≠ 32) (hq : c ≠ 34) (hj : k ≤ j) (hb : ∀ c ∈ (l.drop k).take (j - k), c ≠ 32) (he : l.drop j = [] ∨ (l.drop j).head? = some 32) :
    SofarR l j (acc ++ [(l.drop k).take (j - k)]) := by
  refine sofarR_step h hk hc ?_
  obtain ⟨h1, h2⟩ := upto_take (l.drop k) (j - k) hb (by rw [List.drop_drop, show k + (j - k) = j by omega]; exact he)
  rw [List.drop_drop, show k + (j - k) = j by omega] at h2
  rw [← h1, ← h2, hk, tokR_cons, if_neg hq]
theorem sofarR_end {l : B} {acc : List B} {k : Nat} (h : SofarR l k acc) (hk : l.length ≤ k) : toks tokR l = some acc := by
  unfold SofarR at h
  rw [h, List.drop_eq_nil_of_le hk, toks_nil]; simp
end Cl
end Go.Proofs.YtjloonijnbfhhaaDoor
