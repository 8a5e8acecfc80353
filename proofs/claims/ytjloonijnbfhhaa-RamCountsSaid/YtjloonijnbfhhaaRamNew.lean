/- The walks of geo.Of, ram.New and of both functions Bound. -/
import Derived.Test.YtjloonijnbfhhaaChecked
import Derived.Test.YtjloonijnbfhhaaMapMore
import Derived.WalkKit
import Derived.WalkSpells
import Derived.Lib.Hide
namespace Go.Proofs.Ytjloonijnbfhhaa
open Go.RowKit Go.Maps

namespace Rn
/-- The regions of a disk of n blocks. -/
def geo (n : Int) : Value := .agg #[.int .i64 n, .int .i64 98, .int .i64 (98 + (n + 4095) / 4096), .int .i64 (98 + (n + 4095) / 4096 + n / 64), .int .i64 (n / 64 * 8)]
def geo0 : Value := .agg #[.int .i64 0, .int .i64 0, .int .i64 0, .int .i64 0, .int .i64 0]

set_option maxRecDepth 100000 in
theorem of_bad (n : Int) (w : World) (h : n < 128 ∨ 16384 < n) :
    Calls Try.prog 9 #[.int .i64 n] w fun e w' => e = .returned (.tuple #[geo0, .int .i64 70]) ∧ Below w.heap.size w w' := by
  rcases h with h | h
  · go_enter Try.func9, Try.ntmps9
    go_wp2
    exact bodyPost_ret (v := .tuple #[geo0, .int .i64 70]) (by simp [results, Try.results9, go_sem, geo0]) rfl ⟨rfl, (Below.refl _ _).alloc (Nat.le_refl _) _⟩
  · have h' : ¬ n < 128 := by omega
    go_enter Try.func9, Try.ntmps9
    go_wp2
    exact bodyPost_ret (v := .tuple #[geo0, .int .i64 70]) (by simp [results, Try.results9, go_sem, geo0]) rfl ⟨rfl, (Below.refl _ _).alloc (Nat.le_refl _) _⟩

set_option maxRecDepth 100000 in
theorem of_good (n : Int) (w : World) (h1 : 128 ≤ n) (h2 : n ≤ 16384) :
    Calls Try.prog 9 #[.int .i64 n] w fun e w' => e = .returned (.tuple #[geo n, .int .i64 0]) ∧ Below w.heap.size w w' := by
  have a1 : ¬ n < 128 := by omega
  have a2 : ¬ 16384 < n := by omega
  go_enter Try.func9, Try.ntmps9
  go_wp2
  have e : (n + 4096 - 1) / 4096 = (n + 4095) / 4096 := by congr 1; omega
  refine bodyPost_ret (v := .tuple #[geo n, .int .i64 0]) (by simp [results, Try.results9, go_sem, geo, e]) rfl ⟨rfl, ?_⟩
  exact (((Below.refl _ _).alloc (Nat.le_refl _) _).alloc (by simp) _).alloc (by simp; omega) _

set_option maxRecDepth 100000 in
theorem new_bad (n : Int) (w : World) (h : n < 128 ∨ 16384 < n) :
    Calls Try.prog 4 #[.int .i64 n] w fun e w' => e = .returned (.tuple #[.pointer none, .int .i64 70]) ∧ Below w.heap.size w w' := by
  go_enter Try.func4, Try.ntmps4
  go_wp2_with fail
  refine (of_bad n _ h).mono ?_
  rintro e w1 ⟨rfl, hb⟩
  have hs := hb.size
  unfold geo0
  go_wp2
  go_ret2
  exact ⟨rfl, hb.alloc hs _⟩

set_option maxRecDepth 100000 in
theorem new_good (n : Int) (w : World) (h1 : 128 ≤ n) (h2 : n ≤ 16384) :
    Calls Try.prog 4 #[.int .i64 n] w fun e w' => ∃ a, e = .returned (.tuple #[.pointer (some a), .int .i64 0]) ∧ Below w.heap.size w w' := by
  have hmm := @run_makeMap Try.prog
  go_enter Try.func4, Try.ntmps4
  go_wp2_with fail
  refine (of_good n _ h1 h2).mono ?_
  rintro e w1 ⟨rfl, hb⟩
  have hs := hb.size
  unfold geo
  go_wp2_with (refine wpList_insert_own _ rfl _ _ _ 43 rfl 3 38 (Maps.int_keyed Try.underlying3) Try.underlying43 rawElem _ 0 (.map []) rfl (ownsMap_last _ _ _ _ _ (by simp)) (by unfold maxLen; decide) _ _ _ rfl rfl (keyOf_int_mk Try.underlying3 (by decide)) _ _ rfl ?_; intro w2 ho2 hg2)
  go_ret2
  refine ⟨_, rfl, ?_⟩
  have hb2 := hb.trans (show Below w.heap.size w1 w2 from ?_)
  · exact hb2.alloc (by have := hg2.size; simp at this; omega) _
  · refine Below.grown (w := ((w1.alloc _).alloc _).alloc _ |>.alloc _) ?_ hg2 (by simp; omega) (fun k hk => by cases hk; omega)
    exact ((((Below.refl _ _).alloc hs _).alloc (by simp; omega) _).alloc (by simp; omega) _).alloc (by simp; omega) _

/-- Every number of blocks. -/
theorem new_any (n : Int) (w : World) : Calls Try.prog 4 #[.int .i64 n] w fun e w' => ∃ pv ev, e = .returned (.tuple #[.pointer pv, .int .i64 ev]) ∧ Below w.heap.size w w' ∧
    ((∃ a, 128 ≤ n ∧ n ≤ 16384 ∧ pv = some a ∧ ev = 0) ∨ (n < 128 ∧ pv = none ∧ ev = 70) ∨ (128 ≤ n ∧ 16384 < n ∧ pv = none ∧ ev = 70)) := by
  by_cases h1 : n < 128
  · exact (new_bad n w (.inl h1)).mono fun e w' ⟨he, hb⟩ => ⟨_, _, he, hb, .inr (.inl ⟨h1, rfl, rfl⟩)⟩
  · by_cases h2 : 16384 < n
    · exact (new_bad n w (.inr h2)).mono fun e w' ⟨he, hb⟩ => ⟨_, _, he, hb, .inr (.inr ⟨by omega, h2, rfl, rfl⟩)⟩
    · exact (new_good n w (by omega) (by omega)).mono fun e w' ⟨a, he, hb⟩ => ⟨_, _, he, hb, .inl ⟨a, by omega, by omega, rfl, rfl⟩⟩

theorem ret2 {k k' : IntKind} {a b c d : Int} (h1 : a = c) (h2 : b = d) : Ending.returned (.tuple #[.int k a, .int k' b]) = Ending.returned (.tuple #[.int k c, .int k' d]) := by rw [h1, h2]
theorem ba_isEmpty (s : ByteArray) : s.toList.isEmpty = decide (s.size = 0) := by
  rw [ByteArray.toList_eq]
  have h : s.data.toList.length = s.size := rfl
  cases hs : s.data.toList with
  | nil => rw [hs] at h; simp only [List.length_nil] at h; rw [decide_eq_true (by omega)]; rfl
  | cons a b => rw [hs] at h; simp only [List.length_cons] at h; rw [decide_eq_false (by omega)]; rfl

/-- What Bound answers, from the kind and two lengths. -/
def bndW (k d o : Int) : Int := if k = 4 then (if d = 0 then 0 else 2 * (d / 512 + 12) + 2) else if k = 10 then 2 * (o / 512 + 12) + 2 else if 1 ≤ k ∧ k ≤ 9 ∧ k ≠ 3 then 26 else 0
def bndF (k d : Int) : Int := if k = 4 then (if d = 0 then 0 else 4) else if k = 10 then 4 else if 1 ≤ k ∧ k ≤ 9 ∧ k ≠ 3 then 4 else 0

set_option maxRecDepth 100000 in
set_option maxHeartbeats 2000000 in
theorem bound_any (k off size : Int) (p q d : ByteArray) (w : World) (hd : d.size ≤ 1000000000000000) (hq : q.size ≤ 1000000000000000) :
    Calls Try.prog 7 #[.agg #[.int .i64 k, .string p, .string q, .int .i64 off, .int .i64 size, .string d]] w fun e w' =>
      e = .returned (.tuple #[.int .i64 (bndW k d.size q.size), .int .i64 (bndF k d.size)]) ∧ Below w.heap.size w w' := by
  go_enter Try.func7, Try.ntmps7
  go_wp2
  all_goals
    go_ret2
    refine ⟨?_, (Below.refl _ _).alloc (Nat.le_refl _) _⟩
    simp only [beq_iff_eq, beq_eq_false_iff_ne, ne_eq] at *
    refine ret2 ?_ ?_
    · unfold bndW; repeat' split
      all_goals omega
    · unfold bndF; repeat' split
      all_goals omega

set_option maxRecDepth 100000 in
set_option maxHeartbeats 2000000 in
theorem boundR_any (k off size : Int) (p q d : ByteArray) (w : World) (hd : d.size ≤ 1000000000000000) (hq : q.size ≤ 1000000000000000) :
    Calls Try.prog 8 #[.agg #[.int .i64 k, .string p, .string q, .int .i64 off, .int .i64 size, .string d]] w fun e w' =>
      e = .returned (.tuple #[.int .i64 (bndW k d.size q.size), .int .i64 (bndF k d.size)]) ∧ Below w.heap.size w w' := by
  by_cases hz : d.size = 0
  · have hd0 : d.toList.isEmpty = true := by rw [ba_isEmpty]; simpa using hz
    go_enter Try.func8, Try.ntmps8
    go_wp2
    all_goals
      go_ret2
      refine ⟨?_, (Below.refl _ _).alloc (Nat.le_refl _) _⟩
      simp only [beq_iff_eq, beq_eq_false_iff_ne, ne_eq] at *
      refine ret2 ?_ ?_
      · unfold bndW; repeat' split
        all_goals omega
      · unfold bndF; repeat' split
        all_goals omega
  · have hd0 : d.toList.isEmpty = false := by rw [ba_isEmpty]; simpa using hz
    go_enter Try.func8, Try.ntmps8
    go_wp2
    all_goals
      go_ret2
      refine ⟨?_, (Below.refl _ _).alloc (Nat.le_refl _) _⟩
      simp only [beq_iff_eq, beq_eq_false_iff_ne, ne_eq] at *
      refine ret2 ?_ ?_
      · unfold bndW; repeat' split
        all_goals omega
      · unfold bndF; repeat' split
        all_goals omega
end Rn
end Go.Proofs.Ytjloonijnbfhhaa
