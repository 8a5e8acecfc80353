/- The plain law of the program's cut: a word from a place to the first blank behind it, or to the end. No program in sight. -/
import Derived.Test.YtjloonijnbfhhaaDoorCallsLine
namespace Go.Proofs.YtjloonijnbfhhaaDoor
namespace Cl
theorem upto_take (s : B) (j : Nat) (h : ∀ c ∈ s.take j, c ≠ 32) (he : s.drop j = [] ∨ (s.drop j).head? = some 32) : upto s = s.take j ∧ from' s = s.drop j := by
  rcases he with he | he
  · have e : s.take j = s := by
      have := List.take_append_drop j s
      rw [he, List.append_nil] at this; exact this
    rw [he, e]
    exact upto_all (by rwa [e] at h)
  · obtain ⟨r, hr⟩ : ∃ r, s.drop j = 32 :: r := by
      cases hq : s.drop j with
      | nil => rw [hq] at he; cases he
      | cons a b => rw [hq] at he; simp only [List.head?_cons, Option.some.injEq] at he; exact ⟨b, by rw [he]⟩
    have := upto_none h r
    rw [← hr, List.take_append_drop] at this
    exact this
/-- A word that begins at k goes on to the first blank at or behind 'start'. -/
structure Starts (l : B) (k start : Nat) : Prop where
  le : k ≤ start
  lt : start ≤ l.length
  tok : ∀ j, start ≤ j → (∀ c ∈ (l.drop start).take (j - start), c ≠ 32) → (l.drop j = [] ∨ (l.drop j).head? = some 32) → tokP (l.drop k) = some ((l.drop k).take (j - k), l.drop j)
theorem starts_bare {l r : B} {k : Nat} {c : UInt8} (h : l.drop k = c :: r) (hc : c ≠ 34) : Starts l k k where
  le := Nat.le_refl _
  lt := by
    have := congrArg List.length h
    simp only [List.length_drop, List.length_cons] at this; omega
  tok := by
    intro j hj hb he
    obtain ⟨h1, h2⟩ := upto_take (l.drop k) (j - k) hb (by rw [List.drop_drop, show k + (j - k) = j by omega]; exact he)
    rw [List.drop_drop, show k + (j - k) = j by omega] at h2
    rw [← h1, ← h2, h, tokP_cons, if_neg hc]
theorem starts_quoted {l r x : B} {k n : Nat} (h : l.drop k = 34 :: r) (hd : dq r = some (x, n)) : Starts l k (k + (n + 1)) where
  le := by omega
  lt := by
    have h1 := congrArg List.length h
    have h2 := dq_len r x n hd
    simp only [List.length_drop, List.length_cons] at h1; omega
  tok := by
    intro j hj hb he
    have e : l.drop (k + (n + 1)) = r.drop n := by rw [← List.drop_drop, h, List.drop_succ_cons]
    obtain ⟨h1, h2⟩ := upto_take (l.drop (k + (n + 1))) (j - (k + (n + 1))) hb (by rw [List.drop_drop, show k + (n + 1) + (j - (k + (n + 1))) = j by omega]; exact he)
    rw [List.drop_drop, show k + (n + 1) + (j - (k + (n + 1))) = j by omega] at h2
    rw [h, tokP_cons, if_pos rfl, hd]
    simp only
    rw [← e, h1, h2, ← h]
    congr 2
    have e3 : j - k = (n + 1) + (j - (k + (n + 1))) := by omega
    have e4 : (l.drop k).take ((n + 1) + (j - (k + (n + 1)))) = (l.drop k).take (n + 1) ++ ((l.drop k).drop (n + 1)).take (j - (k + (n + 1))) := List.take_add
    rw [e3, e4, List.drop_drop]
/-- The words so far. -/
def Sofar (l : B) (k : Nat) (acc : List B) : Prop := toks tokP l = (toks tokP (l.drop k)).map (acc ++ ·)
theorem sofar0 (l : B) : Sofar l 0 [] := by unfold Sofar; simp
theorem sofar_blank {l r : B} {k : Nat} {acc : List B} (h : Sofar l k acc) (hk : l.drop k = 32 :: r) : Sofar l (k + 1) acc := by
  unfold Sofar at *
  rw [h, hk, toks_blank eatsP]
  have : l.drop (k + 1) = r := by rw [← List.drop_drop, hk]; rfl
  rw [this]
theorem sofar_bad {l r : B} {k : Nat} {acc : List B} (h : Sofar l k acc) (hk : l.drop k = 34 :: r) (hd : dq r = none) : toks tokP l = none := by
  unfold Sofar at h
  rw [h, hk, toks_word eatsP _ _ (by decide), tokP_cons, if_pos rfl, hd]; rfl
theorem sofar_word {l r : B} {k j start : Nat} {c : UInt8} {acc : List B} (h : Sofar l k acc) (hk : l.drop k = c :: r) (hc : c ≠ 32) (hS : Starts l k start) (hj : start ≤ j) (hb : ∀ c ∈ (l.drop start).take (j - start), c ≠ 32) (he : l.drop j = [] ∨ (l.drop j).head? = some 32) :
    Sofar l j (acc ++ [(l.drop k).take (j - k)]) := by
  have ht := hS.tok j hj hb he
  unfold Sofar at *
  rw [h]
  have : toks tokP (l.drop k) = (toks tokP (l.drop j)).map ((l.drop k).take (j - k) :: ·) := by
    rw [hk] at ht ⊢
    rw [toks_word eatsP _ _ hc, ht]
  rw [this]
  cases toks tokP (l.drop j) <;> simp
theorem sofar_end {l : B} {acc : List B} {k : Nat} (h : Sofar l k acc) (hk : l.length ≤ k) : toks tokP l = some acc := by
  unfold Sofar at h
  rw [h, List.drop_eq_nil_of_le hk, toks_nil]; simp
theorem tokP_size {c : UInt8} {r t q : B} (h : tokP (c :: r) = some (t, q)) : t.length ≤ (c :: r).length := by
  have hu : ∀ s : B, (upto s).length ≤ s.length := fun s => by
    have := congrArg List.length (upto_from s)
    rw [List.length_append] at this; omega
  rw [tokP_cons] at h
  split at h
  · split at h
    · cases h
    · rename_i x n hd
      cases h
      have h1 := dq_len r x n hd
      have h2 := hu (r.drop n)
      simp only [List.length_append, List.length_take, List.length_drop, List.length_cons] at *
      omega
  · cases h; exact hu _
/-- No word is longer than the line. -/
theorem toks_size : ∀ s : B, ∀ l, toks tokP s = some l → ∀ t ∈ l, t.length ≤ s.length := by
  refine line_ind (fun l h t ht => by cases h; cases ht) (fun s ih l h t ht => ?_) (fun c r hc ih l h t ht => ?_)
  · rw [toks_blank eatsP] at h
    have := ih l h t ht
    simp only [List.length_cons]; omega
  · rw [toks_word eatsP c r hc] at h
    cases hp : tokP (c :: r) with
    | none => rw [hp] at h; cases h
    | some p =>
      obtain ⟨u, q⟩ := p
      rw [hp] at h
      have h1 := tokP_size hp
      have h2 := eatsP c r u q hc hp
      simp only at h
      cases hq : toks tokP q with
      | none => rw [hq] at h; cases h
      | some m =>
        rw [hq] at h
        cases h
        rcases List.mem_cons.1 ht with rfl | ht
        · exact h1
        · have := ih q h2 m hq t ht
          omega
end Cl
end Go.Proofs.YtjloonijnbfhhaaDoor
