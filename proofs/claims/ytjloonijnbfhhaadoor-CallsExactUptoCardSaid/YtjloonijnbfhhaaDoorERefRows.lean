/- The walks of the document's table of rows. -/
import Derived.Test.YtjloonijnbfhhaaDoorERefQuote
import Derived.Test.YtjloonijnbfhhaaDoorCallsRows
import Derived.WalkSmall
namespace Go.Proofs.YtjloonijnbfhhaaDoor
open Go.RowKit

namespace Er
open Qw
/-- The letter of a place. -/
def code : Nat → UInt8
  | 0 => 112
  | 1 => 111
  | 2 => 100
  | 3 => 102
  | _ => 115
/-- How an answer of each kind is told. -/
def told : List UInt8 := [110, 110, 100, 110, 111, 111, 111, 111, 111, 110, 100, 115, 115, 108, 114]
/-- The table's cells. -/
def rowCells : Array Value := #[.string ⟨#[]⟩, .string ⟨#[]⟩, .string ⟨#[]⟩, .string ⟨#[99, 114, 101, 97, 116, 101]⟩, .string ⟨#[112]⟩, .string ⟨#[110]⟩, .string ⟨#[109, 107, 100, 105, 114]⟩, .string ⟨#[112]⟩, .string ⟨#[110]⟩, .string ⟨#[114, 101, 97, 100]⟩, .string ⟨#[112, 102, 115]⟩, .string ⟨#[100]⟩, .string ⟨#[119, 114, 105, 116, 101]⟩, .string ⟨#[112, 102, 100]⟩, .string ⟨#[110]⟩, .string ⟨#[116, 114, 117, 110, 99, 97, 116, 101]⟩, .string ⟨#[112, 115]⟩, .string ⟨#[111]⟩, .string ⟨#[117, 110, 108, 105, 110, 107]⟩, .string ⟨#[112]⟩, .string ⟨#[111]⟩, .string ⟨#[114, 109, 100, 105, 114]⟩, .string ⟨#[112]⟩, .string ⟨#[111]⟩, .string ⟨#[114, 101, 110, 97, 109, 101]⟩, .string ⟨#[112, 111]⟩, .string ⟨#[111]⟩, .string ⟨#[108, 105, 110, 107]⟩, .string ⟨#[112, 111]⟩, .string ⟨#[111]⟩, .string ⟨#[115, 121, 109, 108, 105, 110, 107]⟩, .string ⟨#[111, 112]⟩, .string ⟨#[110]⟩, .string ⟨#[114, 101, 97, 100, 108, 105, 110, 107]⟩, .string ⟨#[112]⟩, .string ⟨#[100]⟩, .string ⟨#[115, 116, 97, 116]⟩, .string ⟨#[112]⟩, .string ⟨#[115]⟩, .string ⟨#[108, 115, 116, 97, 116]⟩, .string ⟨#[112]⟩, .string ⟨#[115]⟩, .string ⟨#[114, 101, 97, 100, 100, 105, 114]⟩, .string ⟨#[112]⟩, .string ⟨#[108]⟩, .string ⟨#[114, 111, 111, 109]⟩, .string ⟨#[]⟩, .string ⟨#[114]⟩]
set_option maxRecDepth 100000 in
set_option maxHeartbeats 4000000 in
theorem rows_any (w : World) : Calls Tryd.prog 34 #[] w fun e w' => e = .returned (.slice (some ⟨w.heap.size, 0, none⟩) 16 16) ∧ w' = w.alloc (.cells rowCells 80) := by
  skip
  go_enter Tryd.func34, Tryd.ntmps34
  go_wp2
  exact bodyPost_ret (v := .slice (some ⟨w.heap.size, 0, none⟩) 16 16) (by simp [results, Tryd.results34, go_sem]) rfl ⟨rfl, rfl⟩
theorem cells_row (k : Nat) (h1 : 1 ≤ k) (hk : k < 16) (cmd : List UInt8) (ps : List Nat) (t : UInt8) (hr : Cl.rowsT[k - 1]? = some (cmd, ps)) (ht : told[k - 1]? = some t) : rowCells[k * 3]? = some (.string (mk cmd)) ∧ rowCells[k * 3 + 1]? = some (.string (mk (ps.map code))) ∧ rowCells[k * 3 + 2]? = some (.string (mk [t])) := by
  rcases (show k = 1 ∨ k = 2 ∨ k = 3 ∨ k = 4 ∨ k = 5 ∨ k = 6 ∨ k = 7 ∨ k = 8 ∨ k = 9 ∨ k = 10 ∨ k = 11 ∨ k = 12 ∨ k = 13 ∨ k = 14 ∨ k = 15 by omega) with rfl | rfl | rfl | rfl | rfl | rfl | rfl | rfl | rfl | rfl | rfl | rfl | rfl | rfl | rfl
  all_goals
    cases hr
    cases ht
    exact ⟨rfl, rfl, rfl⟩
set_option maxRecDepth 100000 in
set_option maxHeartbeats 2000000 in
theorem row_none (n : Int) (w : World) (h : ¬ (1 ≤ n ∧ n ≤ 15)) : Calls Tryd.prog 35 #[.int .i64 n] w fun e w' => e = .returned (.tuple #[.agg #[.string (mk []), .string (mk []), .string (mk [])], .bool false]) ∧ Below w.heap.size w w' := by
  rcases (show n < 1 ∨ (¬ n < 1 ∧ 16 ≤ n) by omega) with h' | ⟨h', h2⟩
  all_goals
    clear h
    go_enter Tryd.func35, Tryd.ntmps35
    go_wp2_with (go_at_call 34; refine (rows_any _).mono ?_; rintro e w' ⟨rfl, rfl⟩)
    exact bodyPost_ret (v := .tuple #[.agg #[.string (mk []), .string (mk []), .string (mk [])], .bool false]) (by simp [results, Tryd.results35, go_sem]; first | done | rfl) rfl ⟨rfl, by repeat (first | exact Below.refl _ _ | refine Below.drew ?_ | refine Below.alloc ?_ (by first | (simp; done) | (simp; omega) | omega) _ | refine Below.setCell ?_ (by first | (simp; done) | (simp; omega) | omega) _)⟩
set_option maxRecDepth 100000 in
set_option maxHeartbeats 2000000 in
theorem row_some (k : Nat) (h1 : 1 ≤ k) (hk : k < 16) (cmd : List UInt8) (ps : List Nat) (t : UInt8) (hr : Cl.rowsT[k - 1]? = some (cmd, ps)) (ht : told[k - 1]? = some t) (w : World) : Calls Tryd.prog 35 #[.int .i64 k] w fun e w' => e = .returned (.tuple #[.agg #[.string (mk cmd), .string (mk (ps.map code)), .string (mk [t])], .bool true]) ∧ Below w.heap.size w w' := by
  obtain ⟨c0, c1, c2⟩ := cells_row k h1 hk cmd ps t hr ht
  have h1i : ¬ (k : Int) < 1 := by omega
  have h2i : ¬ (16 : Int) ≤ (k : Int) := by omega
  clear hr ht
  go_enter Tryd.func35, Tryd.ntmps35
  go_wp2_with (go_at_call 34; refine (rows_any _).mono ?_; rintro e w' ⟨rfl, rfl⟩)
  exact bodyPost_ret (v := .tuple #[.agg #[.string (mk cmd), .string (mk (ps.map code)), .string (mk [t])], .bool true]) (by simp [results, Tryd.results35, go_sem]; first | done | rfl) rfl ⟨rfl, by repeat (first | exact Below.refl _ _ | refine Below.drew ?_ | refine Below.alloc ?_ (by first | (simp; done) | (simp; omega) | omega) _ | refine Below.setCell ?_ (by first | (simp; done) | (simp; omega) | omega) _)⟩
end Er
end Go.Proofs.YtjloonijnbfhhaaDoor
