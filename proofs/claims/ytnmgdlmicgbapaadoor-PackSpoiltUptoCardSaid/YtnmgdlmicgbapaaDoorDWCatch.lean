/- The walks of caught and of Decode's two deferred closures. -/
import Derived.Test.YtnmgdlmicgbapaaDoorDWRead
import Derived.Defers
import Derived.Recover
import Derived.Test.YtnmgdlmicgbapaaDoorDrawS
namespace Go.Proofs.YtnmgdlmicgbapaaDoor
open Go.RowKit

namespace Pw
open Pk
set_option maxRecDepth 100000 in
theorem caught_none (ec : Int) (w : World) : Calls Tryd.prog 12 #[.nilIface, .int .i64 ec] w fun e w' => e = .returned (.int .i64 ec) ∧ w' = w := by
  have hnil : ∀ w : World, (binOp BinOp.eql 20 .nilIface .nilIface).run Tryd.prog w = .ok (.bool true) w := fun _ => by kernel_rfl
  go_enter Tryd.func12, Tryd.ntmps12
  go_wp2
  go_ret
  exact ⟨rfl, rfl⟩
set_option maxRecDepth 100000 in
theorem caught_errno (x ec : Int) (w : World) : Calls Tryd.prog 12 #[.iface 24 (.int .i64 x), .int .i64 ec] w fun e w' => e = .returned (.int .i64 x) ∧ w' = w := by
  have hta : ∀ w : World, (Instr.typeAssert (.iface 24 (.int .i64 x)) 20 24 true).run Tryd.prog w = .ok (.tuple #[.int .i64 x, .bool true]) w := fun _ => by kernel_rfl
  go_enter Tryd.func12, Tryd.ntmps12
  go_wp2
  go_ret
  exact ⟨rfl, rfl⟩
/-- The closure that takes the list away where there is an error: no error. -/
theorem drop_idle (pe pl : Addr) (w : World) (u : FrameMode) (h : w.cell? pe = some (.int .i64 0)) :
    CallsD Tryd.prog 10 #[.pointer (some pe), .pointer (some pl)] u w fun e u' w' => u' = u ∧ (e = .returned (.tuple #[]) ∧ w' = w) := by
  go_enter_d Tryd.func10, Tryd.ntmps10
  go_wp2
  go_end0
  exact ⟨rfl, rfl⟩
/-- .. an error. -/
theorem drop_err (pe pl : Addr) (w : World) (u : FrameMode) (n : Int) (v : Value) (h : w.cell? pe = some (.int .i64 n)) (hn : n ≠ 0) (hl : w.cell? pl = some v) (hf : w.frozen? pl = false) :
    CallsD Tryd.prog 10 #[.pointer (some pe), .pointer (some pl)] u w fun e u' w' => u' = u ∧ (e = .returned (.tuple #[]) ∧ w' = w.setCell pl (.slice none 0 0)) := by
  have h1 : (n != 0) = true := by rw [bne_iff_ne]; exact hn
  go_enter_d Tryd.func10, Tryd.ntmps10
  go_wp2
  go_end0
  exact ⟨rfl, rfl⟩
set_option maxRecDepth 100000 in
/-- The closure that catches, in a frame that returns: nothing turns. -/
theorem catch_idle (pe : Addr) (w : World) (n : Int) (h : w.cell? pe = some (.int .i64 n)) (hf : w.frozen? pe = false) :
    CallsD Tryd.prog 11 #[.pointer (some pe)] .returning w fun e u' w' => e = .returned (.tuple #[]) ∧ u' = .returning ∧ w' = (w.setCell pe (.int .i64 n)).drew := by
  have HC := fun W => caught_none n W
  refine callsD_of_wpS Tryd.func11 rfl fun c₀ cs hu => ?_
  refine Dr.wpS_region_draw (by kernel_rfl) [[0, 1, 2, 3], [1, 0, 2, 3]] (by kernel_rfl) ?_
  intro o ho
  simp only [List.mem_cons, List.not_mem_nil, or_false] at ho
  rcases ho with rfl | rfl
  all_goals
    simp [wpOpsS, go_sem, recoverD, hu, Tryd.ntmps11, h]
    refine (HC _).mono ?_
    rintro e w' ⟨rfl, rfl⟩
    simp [go_sem, h, hf]
    cases c₀
    simp_all [bodyPostS, results, Tryd.results11]
set_option maxRecDepth 100000 in
/-- .. in a frame that panics with an errno. -/
theorem catch_err (pe : Addr) (w : World) (n x : Int) (older : List PanicEntry) (h : w.cell? pe = some (.int .i64 n)) (hf : w.frozen? pe = false) :
    CallsD Tryd.prog 11 #[.pointer (some pe)] (.panicking ({ v := .iface 24 (.int .i64 x), recovered := false } :: older)) w fun e u' w' => e = .returned (.tuple #[]) ∧ u' = .panicking ({ v := .iface 24 (.int .i64 x), recovered := true } :: older) ∧ w' = (w.setCell pe (.int .i64 x)).drew := by
  have HC := fun W => caught_errno x n W
  refine callsD_of_wpS Tryd.func11 rfl fun c₀ cs hu => ?_
  refine Dr.wpS_region_draw (by kernel_rfl) [[0, 1, 2, 3], [1, 0, 2, 3]] (by kernel_rfl) ?_
  intro o ho
  simp only [List.mem_cons, List.not_mem_nil, or_false] at ho
  rcases ho with rfl | rfl
  all_goals
    simp [wpOpsS, go_sem, recoverD, hu, Tryd.ntmps11, h]
    refine (HC _).mono ?_
    rintro e w' ⟨rfl, rfl⟩
    simp [go_sem, h, hf]
    cases c₀
    simp_all [bodyPostS, results, Tryd.results11]
end Pw
end Go.Proofs.YtnmgdlmicgbapaaDoor
