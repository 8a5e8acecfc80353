/- The walk of the document's list of different numbers: a number that a list has then. -/
import Derived.Test.YtjloonijnbfhhaaChecked
import Derived.Test.YtjloonijnbfhhaaTakesLaw
import Derived.WalkKit
import Derived.Maps.AppendAt
import Derived.Lib.Hide
namespace Go.Proofs.Ytjloonijnbfhhaa
open Go.RowKit

theorem info_int : (Try.prog.info? 3).map (fun i => (i.zero, i.size, i.bytes)) = some (some (.int .i64 0), 1, 8) := by kernel_rfl

namespace Tk
/-- The numbers as cells. -/
def cs (xs : List Int) : List Value := xs.map (Value.int .i64)

theorem cs_len (xs : List Int) : (cs xs).length = xs.length := by simp [cs]
theorem cs_add_new {xs : List Int} {k : Int} (h : k ∉ xs) : add xs k = xs ++ [k] := by simp [add, h]
theorem cs_add_old {xs : List Int} {k : Int} (h : k ∈ xs) : add xs k = xs := by simp [add, h]
theorem cs_get (xs : List Int) (j : Nat) (h : j < xs.length) : (cs xs)[j]? = some (.int .i64 (xs.getD j 0)) := by simp [cs, h]
theorem mem_take_succ {xs : List Int} {k : Int} {j : Nat} (h : k ∉ xs.take j) (hj : j < xs.length) (hk : xs.getD j 0 ≠ k) : k ∉ xs.take (j + 1) := by
  simp only [List.getD_eq_getElem?_getD, List.getElem?_eq_getElem hj, Option.getD_some] at hk
  have e : xs.take (j + 1) = xs.take j ++ [xs[j]] := by rw [List.take_succ_eq_append_getElem hj]
  rw [e, List.mem_append]
  rintro (h' | h')
  · exact h h'
  · simp only [List.mem_cons, List.not_mem_nil, or_false] at h'; exact hk h'.symm
theorem mem_at {xs : List Int} {k : Int} {j : Nat} (hj : j < xs.length) (hk : xs.getD j 0 = k) : k ∈ xs := by
  simp only [List.getD_eq_getElem?_getD, List.getElem?_eq_getElem hj, Option.getD_some] at hk
  rw [← hk]; exact List.getElem_mem hj

set_option maxRecDepth 100000 in
theorem with_any (v : Value) (xs : List Int) (k : Int) (w : World) (base : Nat) (hown : w.ownsRow base 3 1 v xs.length (cs xs)) (hlen : xs.length * 8 ≤ 140737488351232) (hb : base ≤ w.heap.size) :
    Calls Try.prog 10 #[v, .int .i64 k] w fun e w' => ∃ v', e = .returned v' ∧ w'.ownsRow base 3 1 v' (add xs k).length (cs (add xs k)) ∧ w.grownBy w' v.ownBlock ∧
      (v'.ownBlock = v.ownBlock ∨ ∃ g, v'.ownBlock = some g ∧ w.heap.size ≤ g) := by
  obtain ⟨i0, hi, hz0, hz1, hz2⟩ := info_parts info_int
  rcases hown.2 with ⟨rfl, hn⟩ | ⟨g, cap, cur, rfl, _, _, hcap, hmax, _, _⟩
  · have hx : xs = [] := List.length_eq_zero_iff.1 hn
    subst hx
    clear hn
    go_enter Try.func10, Try.ntmps10
    go_wp2
    refine wp_loop_rounds 1 ?_
    rw [rounds_succ]
    go_wp2_with (at_builtin; refine wpList_append_own_at _ rfl _ _ 22 rfl base 3 i0 (.int .i64 0) 1 8 Try.underlying22 hi hz0 hz1 hz2 rfl (by decide) _ _ _ rfl (hown.alloc _) ⟨w.heap.size, 0, none⟩ 1 1 [.int .i64 k] rfl rfl (cell_one_new _ _ _) (by intro u hu; simp at hu; subst hu; rfl) (by unfold maxLen; decide) (by decide) (by simp; omega) ?_; intro v' w1 hown' hgrow _ hat)
    go_ret
    refine ⟨v', rfl, by simpa [add, cs] using hown', (World.grownBy_alloc w _ _).trans hgrow, ?_⟩
    rcases hat with h | h
    · exact .inl h
    · exact .inr ⟨_, h, by simp⟩
  · have hsm : xs.length ≤ cap := hcap
    have hmx : cap ≤ 9223372036854775807 := hmax
    go_enter Try.func10, Try.ntmps10
    go_wp2
    go_loop [6, 9] (fun _ i => ∃ j : Nat, j ≤ xs.length ∧ i = .int .i64 j ∧ k ∉ xs.take j) (fun _ i => xs.length - (intOf i).toNat)
    case atStart => exact ⟨0, Nat.zero_le _, rfl, by simp⟩
    case round =>
      obtain ⟨j, hj, rfl, hm⟩ := hrel
      by_cases hlt : j < xs.length
      · have hc : w.cell? ⟨g, j, none⟩ = some (.int .i64 (xs.getD j 0)) := (hown.cellAt j (by omega)).trans (cs_get xs j hlt)
        obtain ⟨y, hy⟩ : ∃ y, y = xs.getD j 0 := ⟨_, rfl⟩
        rw [← hy] at hc
        have HY := Lib.hid hy
        clear hy
        by_cases hyk : y = k
        · subst hyk
          go_wp2
          go_ret
          have := mem_at hlt HY.out.symm
          rw [cs_add_old this]
          exact ⟨_, rfl, hown, World.grownBy.refl _ _, .inl rfl⟩
        · have hne : (y == k) = false := by simpa using hyk
          go_wp2
          go_round
          case rel => exact ⟨j + 1, by omega, by go_num, mem_take_succ hm hlt (by rw [← HY.out]; exact hyk)⟩
          case measure => simp [intOf]; omega
      · have hj' : j = xs.length := by omega
        subst hj'
        rw [List.take_length] at hm
        go_wp2_with (at_builtin; refine wpList_append_own_at _ rfl _ _ 22 rfl base 3 i0 (.int .i64 0) 1 8 Try.underlying22 hi hz0 hz1 hz2 rfl (by decide) _ _ _ rfl (hown.alloc _) ⟨w.heap.size, 0, none⟩ 1 1 [.int .i64 k] rfl rfl (cell_one_new _ _ _) (by intro u hu; simp at hu; subst hu; rfl) (by unfold maxLen; omega) (by omega) (by simp; omega) ?_; intro v' w1 hown' hgrow _ hat)
        go_ret
        rw [cs_add_new hm]
        refine ⟨v', rfl, by simpa [cs] using hown', (World.grownBy_alloc w _ _).trans hgrow, ?_⟩
        rcases hat with h | h
        · exact .inl h
        · exact .inr ⟨_, h, by simp⟩
end Tk
end Go.Proofs.Ytjloonijnbfhhaa
