/- The plain law of reading: what is read off is no longer than the bytes. -/
import Derived.Test.YtnmgdlmicgbapaaDoorDDoc
import Derived.Test.YtnmgdlmicgbapaaDoorPItems
import Derived.Test.YtnmgdlmicgbapaaDoorPWCmp
namespace Go.Proofs.YtnmgdlmicgbapaaDoor
namespace Pw
open Pk
theorem numB_some {w : Nat} {b r : B} {v : Nat} (h : numB w b = some (v, r)) : w ≤ b.length ∧ v < 256 ^ w ∧ r.length + w = b.length := by
  unfold numB at h
  split at h
  · rename_i hw
    cases h
    have := val_lt (b.take w)
    rw [List.length_take, Nat.min_eq_left hw] at this
    exact ⟨hw, this, by rw [List.length_drop]; omega⟩
  · cases h
theorem takeB_some {n : Nat} {b r t : B} (h : takeB n b = some (t, r)) : t.length = n ∧ r.length + n = b.length := by
  unfold takeB at h
  split at h
  · rename_i hw
    cases h
    exact ⟨by rw [List.length_take]; omega, by rw [List.length_drop]; omega⟩
  · cases h
theorem nums_some : ∀ (m : Nat) (b r : B) (l : List Int), nums m b = some (l, r) → l.length = m ∧ r.length + 4 * m = b.length ∧ ∀ p ∈ l, 0 ≤ p ∧ p < 4294967296
  | 0, b, r, l, h => by cases h; exact ⟨rfl, by omega, fun p hp => by cases hp⟩
  | m + 1, b, r, l, h => by
    rw [nums] at h
    obtain ⟨⟨v, r1⟩, h1, h2⟩ := Option.bind_eq_some_iff.1 h
    obtain ⟨⟨l2, r2⟩, h3, h4⟩ := Option.bind_eq_some_iff.1 h2
    cases h4
    obtain ⟨g1, g2, g3⟩ := numB_some h1
    obtain ⟨k1, k2, k3⟩ := nums_some m r1 _ l2 h3
    refine ⟨by simp [k1], by omega, fun p hp => ?_⟩
    rcases List.mem_cons.1 hp with rfl | hp
    · omega
    · exact k3 p hp
theorem item_some {b r : B} {x : PItem} (h : item b = some (x, r)) (hb : b.length ≤ 100000000) : Sane x ∧ r.length + 19 ≤ b.length := by
  unfold item at h
  obtain ⟨⟨k, b1⟩, h1, h⟩ := Option.bind_eq_some_iff.1 h
  obtain ⟨⟨n, b2⟩, h2, h⟩ := Option.bind_eq_some_iff.1 h
  obtain ⟨⟨p, b3⟩, h3, h⟩ := Option.bind_eq_some_iff.1 h
  obtain ⟨⟨s, b4⟩, h4, h⟩ := Option.bind_eq_some_iff.1 h
  obtain ⟨⟨z, b5⟩, h5, h⟩ := Option.bind_eq_some_iff.1 h
  obtain ⟨⟨m, b6⟩, h6, h⟩ := Option.bind_eq_some_iff.1 h
  obtain ⟨⟨ps, b7⟩, h7, h⟩ := Option.bind_eq_some_iff.1 h
  obtain ⟨⟨dl, b8⟩, h8, h⟩ := Option.bind_eq_some_iff.1 h
  obtain ⟨⟨d, b9⟩, h9, h⟩ := Option.bind_eq_some_iff.1 h
  cases h
  have g1 := numB_some h1
  have g2 := numB_some h2
  have g3 := takeB_some h3
  have g4 := numB_some h4
  have g5 := numB_some h5
  have g6 := numB_some h6
  have g7 := nums_some _ _ _ _ h7
  have g8 := numB_some h8
  have g9 := takeB_some h9
  obtain ⟨_, k1, _⟩ := g1
  obtain ⟨_, k4, _⟩ := g4
  obtain ⟨_, k5, _⟩ := g5
  refine ⟨⟨by show -9223372036854775808 ≤ (k : Int) ∧ (k : Int) ≤ _; omega, by show -9223372036854775808 ≤ (z : Int) ∧ (z : Int) ≤ _; omega, by show -9223372036854775808 ≤ (s : Int) - 1 ∧ (s : Int) - 1 ≤ _; omega, fun q hq => by have := g7.2.2 q hq; omega, by show p.length ≤ _; omega, by show d.length ≤ _; omega, by show ps.length ≤ _; omega⟩, by omega⟩
theorem items_some : ∀ (m : Nat) (b r : B) (l : List PItem), items m b = some (l, r) → b.length ≤ 100000000 → (∀ x ∈ l, Sane x) ∧ r.length + 19 * l.length ≤ b.length
  | 0, b, r, l, h, _ => by cases h; exact ⟨fun x hx => (by cases hx), by simp⟩
  | m + 1, b, r, l, h, hb => by
    rw [items] at h
    obtain ⟨⟨x, r1⟩, h1, h2⟩ := Option.bind_eq_some_iff.1 h
    obtain ⟨⟨l2, r2⟩, h3, h4⟩ := Option.bind_eq_some_iff.1 h2
    cases h4
    obtain ⟨g1, g2⟩ := item_some h1 hb
    obtain ⟨k1, k2⟩ := items_some m r1 _ l2 h3 (by omega)
    refine ⟨fun y hy => ?_, by rw [List.length_cons]; omega⟩
    rcases List.mem_cons.1 hy with rfl | hy
    · exact g1
    · exact k1 y hy
theorem readB_some {b : B} {l : List PItem} (h : readB b = some l) (hb : b.length ≤ 100000000) : (∀ x ∈ l, Sane x) ∧ l.length ≤ b.length := by
  unfold readB at h
  obtain ⟨⟨t, b1⟩, h1, h⟩ := Option.bind_eq_some_iff.1 h
  obtain ⟨⟨n, b2⟩, h2, h⟩ := Option.bind_eq_some_iff.1 h
  obtain ⟨⟨l2, r⟩, h3, h⟩ := Option.bind_eq_some_iff.1 h
  cases h
  have g1 := takeB_some h1
  have g2 := numB_some h2
  obtain ⟨k1, k2⟩ := items_some _ _ _ _ h3 (by omega)
  exact ⟨k1, by omega⟩
theorem item_bytes {b r : B} {x : PItem} (h : item b = some (x, r)) : r.length + (itemB x).length = b.length := by
  unfold item at h
  obtain ⟨⟨k, b1⟩, h1, h⟩ := Option.bind_eq_some_iff.1 h
  obtain ⟨⟨n, b2⟩, h2, h⟩ := Option.bind_eq_some_iff.1 h
  obtain ⟨⟨p, b3⟩, h3, h⟩ := Option.bind_eq_some_iff.1 h
  obtain ⟨⟨s, b4⟩, h4, h⟩ := Option.bind_eq_some_iff.1 h
  obtain ⟨⟨z, b5⟩, h5, h⟩ := Option.bind_eq_some_iff.1 h
  obtain ⟨⟨m, b6⟩, h6, h⟩ := Option.bind_eq_some_iff.1 h
  obtain ⟨⟨ps, b7⟩, h7, h⟩ := Option.bind_eq_some_iff.1 h
  obtain ⟨⟨dl, b8⟩, h8, h⟩ := Option.bind_eq_some_iff.1 h
  obtain ⟨⟨d, b9⟩, h9, h⟩ := Option.bind_eq_some_iff.1 h
  cases h
  have g1 := numB_some h1
  have g2 := numB_some h2
  have g3 := takeB_some h3
  have g4 := numB_some h4
  have g5 := numB_some h5
  have g6 := numB_some h6
  have g7 := nums_some _ _ _ _ h7
  have g8 := numB_some h8
  have g9 := takeB_some h9
  rw [itemB_len]
  show r.length + (19 + p.length + 4 * ps.length + d.length) = _
  omega
theorem items_bytes : ∀ (m : Nat) (b r : B) (l : List PItem), items m b = some (l, r) → r.length + (l.flatMap itemB).length = b.length
  | 0, b, r, l, h => by cases h; simp
  | m + 1, b, r, l, h => by
    rw [items] at h
    obtain ⟨⟨x, r1⟩, h1, h2⟩ := Option.bind_eq_some_iff.1 h
    obtain ⟨⟨l2, r2⟩, h3, h4⟩ := Option.bind_eq_some_iff.1 h2
    cases h4
    have g1 := item_bytes h1
    have g2 := items_bytes m r1 _ l2 h3
    rw [List.flatMap_cons, List.length_append]
    omega
/-- What is read off is written in no more bytes. -/
theorem readB_bytes {b : B} {l : List PItem} (h : readB b = some l) : (enc l).length ≤ b.length + 4 := by
  unfold readB at h
  obtain ⟨⟨t, b1⟩, h1, h⟩ := Option.bind_eq_some_iff.1 h
  obtain ⟨⟨n, b2⟩, h2, h⟩ := Option.bind_eq_some_iff.1 h
  obtain ⟨⟨l2, r⟩, h3, h⟩ := Option.bind_eq_some_iff.1 h
  cases h
  have g1 := takeB_some h1
  have g2 := numB_some h2
  have g3 := items_bytes _ _ _ _ h3
  unfold enc body
  simp only [List.length_append, low_len]
  have : magic.length = 8 := rfl
  omega
/-- The answer's list and its error. -/
def ansL (b : B) : List PItem := (Pk.decode lt b).getD []
def ansE (b : B) : Int := if (Pk.decode lt b).isSome then 0 else 240
theorem ans_bad {b : B} (h : readB b = none) : ansL b = [] ∧ ansE b = 240 := by unfold ansL ansE Pk.decode; rw [h]; exact ⟨rfl, rfl⟩
theorem ans_yes {b : B} {l : List PItem} (h : readB b = some l) (hr : right lt l = true) (he : enc l = b) : ansL b = l ∧ ansE b = 0 := by
  unfold ansL ansE Pk.decode; rw [h, Option.bind_some, if_pos ⟨hr, he⟩]; exact ⟨rfl, rfl⟩
theorem ans_no {b : B} {l : List PItem} (h : readB b = some l) (hr : ¬ (right lt l = true ∧ enc l = b)) : ansL b = [] ∧ ansE b = 240 := by
  unfold ansL ansE Pk.decode; rw [h, Option.bind_some, if_neg hr]; exact ⟨rfl, rfl⟩
theorem ans_some {b : B} (hb : b.length ≤ 100000000) : (∀ x ∈ ansL b, Sane x) ∧ (ansL b).length ≤ b.length := by
  cases h : readB b with
  | none => rw [(ans_bad h).1]; exact ⟨fun x hx => (by cases hx), Nat.zero_le _⟩
  | some l =>
    by_cases hr : right lt l = true ∧ enc l = b
    · rw [(ans_yes h hr.1 hr.2).1]; exact readB_some h hb
    · rw [(ans_no h hr).1]; exact ⟨fun x hx => (by cases hx), Nat.zero_le _⟩
end Pw
end Go.Proofs.YtnmgdlmicgbapaaDoor
