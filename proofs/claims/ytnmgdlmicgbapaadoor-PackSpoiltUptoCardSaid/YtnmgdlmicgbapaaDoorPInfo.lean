/- Closed facts of the element types; small laws of rows. No program's function in sight. -/
import Derived.Test.YtnmgdlmicgbapaaDoorPRows
import Derived.Test.YtnmgdlmicgbapaaDoorChecked
import Derived.WalkKit
import Derived.Lib.Hide
namespace Go.Proofs.YtnmgdlmicgbapaaDoor
open Go.RowKit

namespace Pw
open Pk
theorem info3 {P : Program} {T : TypeId} {z : Value} {n b : Nat} (h : (P.info? T).map (fun i => (i.zero, i.size, i.bytes)) = some (some z, n, b)) : ∃ i, P.info? T = some i ∧ i.zero = some z ∧ i.size = n ∧ i.bytes = b := by
  obtain ⟨i, hi, he⟩ := Option.map_eq_some_iff.1 h
  simp only [Prod.mk.injEq] at he
  exact ⟨i, hi, he.1, he.2.1, he.2.2⟩
abbrev zItem : Value := .agg #[.string (mk []), .int .i64 0, .int .i64 0, .string (mk []), .slice none 0 0, .int .i64 0]
theorem intInfo : ∃ i0, Tryd.prog.info? 3 = some i0 ∧ i0.zero = some (.int .i64 0) ∧ i0.size = 1 ∧ i0.bytes = 8 := info3 (by kernel_rfl)
theorem itemInfo : ∃ i0, Tryd.prog.info? 29 = some i0 ∧ i0.zero = some zItem ∧ i0.size = 6 ∧ i0.bytes = 80 := info3 (by kernel_rfl)
/-- A slice's form. -/
theorem own_form {w : World} {base size n : Nat} {e : TypeId} {v : Value} {xs : List Value} (h : w.ownsRow base e size v n xs) : ∃ a c, v = .slice a n c := by
  rcases h.2 with ⟨rfl, rfl⟩ | ⟨g, cap, _, rfl, _⟩
  · exact ⟨none, 0, rfl⟩
  · exact ⟨_, cap, rfl⟩
theorem grown_none {w w' : World} {row : Option Nat} (hg : w.grownBy w' row) (h : row = none) : Below w.heap.size w w' := by
  subst h
  exact ⟨hg.os, hg.tape, hg.output, hg.size, fun i hi => hg.block i hi (by simp)⟩
theorem intV_one (ps : List Int) : ∀ u ∈ intV ps, u.oneCell' = true := by
  intro u hu
  obtain ⟨p, _, rfl⟩ := List.mem_map.1 hu
  rfl
theorem itemC_one (x : PItem) (a : Option Addr) (n c : Nat) : ∀ u ∈ itemC x (.slice a n c), u.oneCell' = true := by
  intro u hu
  simp only [itemC, List.mem_cons, List.not_mem_nil, or_false] at hu
  rcases hu with rfl | rfl | rfl | rfl | rfl | rfl <;> rfl
theorem wpList_slice_item {w : World} {v0 v1 v2 v3 v4 v5 : Value} {ops : Array Oper} {rest : List Oper} {o : Oper} {a : Act} {Q : Exit → Act → World → Prop} (hg : o.guard = none) (s0 : Nat) (hop : o.op = Op.buildSlice 22 1 #[(0, .tmp s0)]) (h0 : a.eval (.tmp s0) = .agg #[v0, v1, v2, v3, v4, v5])
    (hK : wpList Tryd.prog ops Q rest (a.put o.dst (.slice (some ⟨w.heap.size, 0, none⟩) 1 1)) (w.alloc (.cells #[v0, v1, v2, v3, v4, v5] 29))) : wpList Tryd.prog ops Q (o :: rest) a w := by
  refine wpList_plain hg fun K' hK' => ?_
  unfold Oper.wp
  simp only [execOp, hop, List.map_toArray, List.map_cons, List.map_nil, h0]
  simp [go_sem]
  exact hK' _ _ hK
end Pw
end Go.Proofs.YtnmgdlmicgbapaaDoor
