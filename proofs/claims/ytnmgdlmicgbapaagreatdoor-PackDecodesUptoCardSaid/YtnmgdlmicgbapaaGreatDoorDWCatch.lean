/- The walks of caught and of Decode's two deferred closures. -/
import Derived.Test.YtnmgdlmicgbapaaGreatDoorDWRead
import Derived.Defers
import Derived.Recover
import Derived.Test.YtnmgdlmicgbapaaGreatDoorDrawS
namespace Go.Proofs.YtnmgdlmicgbapaaGreatDoor
open Go.RowKit

namespace Pw
open Pk
set_option maxRecDepth 100000 in
theorem caught_none (ec : Int) (w : World) : Calls Tryz.prog 14 #[.nilIface, .int .i64 ec] w fun e w' => e = .returned (.int .i64 ec) ∧ w' = w := by
  have hnil : ∀ w : World, (binOp BinOp.eql 20 .nilIface .nilIface).run Tryz.prog w = .ok (.bool true) w := fun _ => by kernel_rfl
  go_enter Tryz.func14, Tryz.ntmps14
  go_wp2
  go_ret
  exact ⟨rfl, rfl⟩
set_option maxRecDepth 100000 in
theorem caught_errno (x ec : Int) (w : World) : Calls Tryz.prog 14 #[.iface 24 (.int .i64 x), .int .i64 ec] w fun e w' => e = .returned (.int .i64 x) ∧ w' = w := by
  have hta : ∀ w : World, (Instr.typeAssert (.iface 24 (.int .i64 x)) 20 24 true).run Tryz.prog w = .ok (.tuple #[.int .i64 x, .bool true]) w := fun _ => by kernel_rfl
  go_enter Tryz.func14, Tryz.ntmps14
  go_wp2
  go_ret
  exact ⟨rfl, rfl⟩
/-- The closure that takes the list away where there is an error: no error. -/
theorem drop_idle (pe pl : Addr) (w : World) (u : FrameMode) (h : w.cell? pe = some (.int .i64 0)) :
    CallsD Tryz.prog 12 #[.pointer (some pe), .pointer (some pl)] u w fun e u' w' => u' = u ∧ (e = .returned (.tuple #[]) ∧ w' = w) := by
  go_enter_d Tryz.func12, Tryz.ntmps12
  go_wp2
  go_end0
  exact ⟨rfl, rfl⟩
/-- .. an error. -/
theorem drop_err (pe pl : Addr) (w : World) (u : FrameMode) (n : Int) (v : Value) (h : w.cell? pe = some (.int .i64 n)) (hn : n ≠ 0) (hl : w.cell? pl = some v) (hf : w.frozen? pl = false) :
    CallsD Tryz.prog 12 #[.pointer (some pe), .pointer (some pl)] u w fun e u' w' => u' = u ∧ (e = .returned (.tuple #[]) ∧ w' = w.setCell pl (.slice none 0 0)) := by
  have h1 : (n != 0) = true := by rw [bne_iff_ne]; exact hn
  go_enter_d Tryz.func12, Tryz.ntmps12
  go_wp2
  go_end0
  exact ⟨rfl, rfl⟩
set_option maxRecDepth 100000 in
/-- The closure that catches, in a frame that returns: nothing turns. -/
theorem catch_idle (pe : Addr) (w : World) (n : Int) (h : w.cell? pe = some (.int .i64 n)) (hf : w.frozen? pe = false) :
    CallsD Tryz.prog 13 #[.pointer (some pe)] .returning w fun e u' w' => e = .returned (.tuple #[]) ∧ u' = .returning ∧ w' = (w.setCell pe (.int .i64 n)).drew := by
  have HC := fun W => caught_none n W
  refine callsD_of_wpS Tryz.func13 rfl fun c₀ cs hu => ?_
  refine Dr.wpS_region_draw (by kernel_rfl) [[0, 1, 2, 3], [1, 0, 2, 3]] (by kernel_rfl) ?_
  intro o ho
  simp only [List.mem_cons, List.not_mem_nil, or_false] at ho
  rcases ho with rfl | rfl
  all_goals
    simp [wpOpsS, go_sem, recoverD, hu, Tryz.ntmps13, h]
    refine (HC _).mono ?_
    rintro e w' ⟨rfl, rfl⟩
    simp [go_sem, h, hf]
    cases c₀
    simp_all [bodyPostS, results, Tryz.results13]
set_option maxRecDepth 100000 in
/-- .. in a frame that panics with an errno. -/
theorem catch_err (pe : Addr) (w : World) (n x : Int) (older : List PanicEntry) (h : w.cell? pe = some (.int .i64 n)) (hf : w.frozen? pe = false) :
    CallsD Tryz.prog 13 #[.pointer (some pe)] (.panicking ({ v := .iface 24 (.int .i64 x), recovered := false } :: older)) w fun e u' w' => e = .returned (.tuple #[]) ∧ u' = .panicking ({ v := .iface 24 (.int .i64 x), recovered := true } :: older) ∧ w' = (w.setCell pe (.int .i64 x)).drew := by
  have HC := fun W => caught_errno x n W
  refine callsD_of_wpS Tryz.func13 rfl fun c₀ cs hu => ?_
  refine Dr.wpS_region_draw (by kernel_rfl) [[0, 1, 2, 3], [1, 0, 2, 3]] (by kernel_rfl) ?_
  intro o ho
  simp only [List.mem_cons, List.not_mem_nil, or_false] at ho
  rcases ho with rfl | rfl
  all_goals
    simp [wpOpsS, go_sem, recoverD, hu, Tryz.ntmps13, h]
    refine (HC _).mono ?_
    rintro e w' ⟨rfl, rfl⟩
    simp [go_sem, h, hf]
    cases c₀
    simp_all [bodyPostS, results, Tryz.results13]
end Pw
end Go.Proofs.YtnmgdlmicgbapaaGreatDoor
