/- The walk of the document's Tell. -/
import Derived.Test.YtjloonijnbfhhaaDoorETellNames
namespace Go.Proofs.YtjloonijnbfhhaaDoor
open Go.RowKit Go.Maps Go.WideShapes

namespace Er
open Qw Rw Tw
theorem row_no (n : Int) (w : World) (h : ¬ (1 ≤ n ∧ n ≤ 15)) : Calls Tryd.prog 35 #[.int .i64 n] w fun e w' => e = .returned (.tuple #[.agg #[.string ⟨#[]⟩, .string ⟨#[]⟩, .string ⟨#[]⟩], .bool false]) ∧ Below w.heap.size w w' := row_none n w h
theorem row_told (k : Nat) (h1 : 1 ≤ k) (hk : k < 16) (cmd : List UInt8) (ps : List Nat) (t : UInt8) (hr : Cl.rowsT[k - 1]? = some (cmd, ps)) (ht : told[k - 1]? = some t) (w : World) : Calls Tryd.prog 35 #[.int .i64 k] w fun e w' => e = .returned (.tuple #[.agg #[.string (mk cmd), .string (mk (ps.map code)), .string ⟨#[t]⟩], .bool true]) ∧ Below w.heap.size w w' := row_some k h1 hk cmd ps t hr ht w
set_option maxRecDepth 100000 in
set_option maxHeartbeats 4000000 in
theorem tell_err (c : Cl.PCall) (a : PAns) (ao : Option Addr) (na ca : Nat) (w : World) (x : Int) (hx : Cl.inRange x) (h0 : x ≠ 0) : Calls Tryd.prog 18 #[.agg #[.int .i64 c.kind, .string (mk c.path), .string (mk c.other), .int .i64 c.off, .int .i64 c.size, .string (mk c.data)], .agg #[.int .i64 x, .int .i64 a.N, .string (mk a.data), .int .i64 a.i, .int .i64 a.k, .int .i64 a.l, .int .i64 a.z, .int .i64 a.b, .slice ao na ca, .int .i64 a.f1, .int .i64 a.f2, .int .i64 a.f3, .int .i64 a.f4]] w fun e w' => e = .returned (.string (mk (33 :: 32 :: 69 :: Lib.itoa x))) ∧ Below w.heap.size w w' := by
  have hl : (mk (Lib.itoa x)).size ≤ 100 := itoa_len hx
  have hb0 : (x != 0) = true := by rw [bne_iff_ne]; exact h0
  clear h0
  go_enter Tryd.func18, Tryd.ntmps18
  go_wp2_with (go_at_call 37; refine (decimal_any x _ hx).mono ?_; rintro e w' ⟨rfl, hb⟩)
  go_ret
  exact ⟨ret_str (mk_app [33, 32, 69] (Lib.itoa x)).symm, below_over (below_over hb)⟩
set_option maxRecDepth 100000 in
set_option maxHeartbeats 4000000 in
theorem tell_none (c : Cl.PCall) (a : PAns) (ao : Option Addr) (na ca : Nat) (w : World) (hk : ¬ (1 ≤ c.kind ∧ c.kind ≤ 15)) : Calls Tryd.prog 18 #[.agg #[.int .i64 c.kind, .string (mk c.path), .string (mk c.other), .int .i64 c.off, .int .i64 c.size, .string (mk c.data)], .agg #[.int .i64 0, .int .i64 a.N, .string (mk a.data), .int .i64 a.i, .int .i64 a.k, .int .i64 a.l, .int .i64 a.z, .int .i64 a.b, .slice ao na ca, .int .i64 a.f1, .int .i64 a.f2, .int .i64 a.f3, .int .i64 a.f4]] w fun e w' => e = .returned (.string (mk ([111, 107]))) ∧ Below w.heap.size w w' := by
  go_enter Tryd.func18, Tryd.ntmps18
  go_wp2_with (go_at_call 35; refine (row_no _ _ hk).mono ?_; rintro e w1 ⟨rfl, hb⟩)
  go_ret
  exact ⟨rfl, (below_over (below_over hb)).alloc (below_over (below_over hb)).size _⟩
set_option maxRecDepth 100000 in
set_option maxHeartbeats 4000000 in
theorem tell_o (c : Cl.PCall) (a : PAns) (ao : Option Addr) (na ca : Nat) (w : World) (n : Nat) (h1 : 1 ≤ n) (hn : n < 16) (cmd : List UInt8) (ps : List Nat) (hcmd : Cl.rowsT[n - 1]? = some (cmd, ps)) (ht : told[n - 1]? = some 111) : Calls Tryd.prog 18 #[.agg #[.int .i64 n, .string (mk c.path), .string (mk c.other), .int .i64 c.off, .int .i64 c.size, .string (mk c.data)], .agg #[.int .i64 0, .int .i64 a.N, .string (mk a.data), .int .i64 a.i, .int .i64 a.k, .int .i64 a.l, .int .i64 a.z, .int .i64 a.b, .slice ao na ca, .int .i64 a.f1, .int .i64 a.f2, .int .i64 a.f3, .int .i64 a.f4]] w fun e w' => e = .returned (.string (mk ([111, 107]))) ∧ Below w.heap.size w w' := by
  go_enter Tryd.func18, Tryd.ntmps18
  go_wp2_with (go_at_call 35; refine (row_told n h1 hn cmd ps 111 hcmd ht _).mono ?_; rintro e w1 ⟨rfl, hb⟩; have hs1 := hb.size; simp only [World.size_alloc] at hs1; have hlt1 : w.heap.size + 1 < w1.heap.size := (by omega); have hbw := below_over (below_over hb); have hA : w1.heap[w.heap.size + 1]? = some (.cells #[.int .i64 0, .int .i64 a.N, .string (mk a.data), .int .i64 a.i, .int .i64 a.k, .int .i64 a.l, .int .i64 a.z, .int .i64 a.b, .slice ao na ca, .int .i64 a.f1, .int .i64 a.f2, .int .i64 a.f3, .int .i64 a.f4] 31 (0, 0)) := (hb.block _ (by simp)).trans (heap_second _ _ _); clear hA)
  go_ret
  exact ⟨rfl, hbw.alloc hbw.size _⟩
set_option maxRecDepth 100000 in
set_option maxHeartbeats 4000000 in
theorem tell_n (c : Cl.PCall) (a : PAns) (ao : Option Addr) (na ca : Nat) (w : World) (n : Nat) (h1 : 1 ≤ n) (hn : n < 16) (cmd : List UInt8) (ps : List Nat) (hcmd : Cl.rowsT[n - 1]? = some (cmd, ps)) (ht : told[n - 1]? = some 110) (hf : AFits a) : Calls Tryd.prog 18 #[.agg #[.int .i64 n, .string (mk c.path), .string (mk c.other), .int .i64 c.off, .int .i64 c.size, .string (mk c.data)], .agg #[.int .i64 0, .int .i64 a.N, .string (mk a.data), .int .i64 a.i, .int .i64 a.k, .int .i64 a.l, .int .i64 a.z, .int .i64 a.b, .slice ao na ca, .int .i64 a.f1, .int .i64 a.f2, .int .i64 a.f3, .int .i64 a.f4]] w fun e w' => e = .returned (.string (mk (Lib.itoa a.N))) ∧ Below w.heap.size w w' := by
  go_enter Tryd.func18, Tryd.ntmps18
  go_wp2_with (first | (go_at_call 35; refine (row_told n h1 hn cmd ps 110 hcmd ht _).mono ?_; rintro e w1 ⟨rfl, hb⟩; have hs1 := hb.size; simp only [World.size_alloc] at hs1; have hlt1 : w.heap.size + 1 < w1.heap.size := (by omega); have hbw := below_over (below_over hb); have hA : w1.heap[w.heap.size + 1]? = some (.cells #[.int .i64 0, .int .i64 a.N, .string (mk a.data), .int .i64 a.i, .int .i64 a.k, .int .i64 a.l, .int .i64 a.z, .int .i64 a.b, .slice ao na ca, .int .i64 a.f1, .int .i64 a.f2, .int .i64 a.f3, .int .i64 a.f4] 31 (0, 0)) := (hb.block _ (by simp)).trans (heap_second _ _ _); have a1 : w1.cell? ⟨w.heap.size + 1, 1, none⟩ = some (.int .i64 a.N) := (by simp [World.cell?, hA]); clear hA) | (go_at_call 37; refine (decimal_any a.N _ hf.N).mono ?_; rintro e w2 ⟨rfl, hb2⟩))
  go_ret
  exact ⟨rfl, hbw.trans ((below_over hb2).mono hbw.size)⟩
set_option maxRecDepth 100000 in
set_option maxHeartbeats 4000000 in
theorem tell_d (c : Cl.PCall) (a : PAns) (ao : Option Addr) (na ca : Nat) (w : World) (n : Nat) (h1 : 1 ≤ n) (hn : n < 16) (cmd : List UInt8) (ps : List Nat) (hcmd : Cl.rowsT[n - 1]? = some (cmd, ps)) (ht : told[n - 1]? = some 100) (hf : AFits a) : Calls Tryd.prog 18 #[.agg #[.int .i64 n, .string (mk c.path), .string (mk c.other), .int .i64 c.off, .int .i64 c.size, .string (mk c.data)], .agg #[.int .i64 0, .int .i64 a.N, .string (mk a.data), .int .i64 a.i, .int .i64 a.k, .int .i64 a.l, .int .i64 a.z, .int .i64 a.b, .slice ao na ca, .int .i64 a.f1, .int .i64 a.f2, .int .i64 a.f3, .int .i64 a.f4]] w fun e w' => e = .returned (.string (mk (Cl.quote a.data))) ∧ Below w.heap.size w w' := by
  go_enter Tryd.func18, Tryd.ntmps18
  go_wp2_with (first | (go_at_call 35; refine (row_told n h1 hn cmd ps 100 hcmd ht _).mono ?_; rintro e w1 ⟨rfl, hb⟩; have hs1 := hb.size; simp only [World.size_alloc] at hs1; have hlt1 : w.heap.size + 1 < w1.heap.size := (by omega); have hbw := below_over (below_over hb); have hA : w1.heap[w.heap.size + 1]? = some (.cells #[.int .i64 0, .int .i64 a.N, .string (mk a.data), .int .i64 a.i, .int .i64 a.k, .int .i64 a.l, .int .i64 a.z, .int .i64 a.b, .slice ao na ca, .int .i64 a.f1, .int .i64 a.f2, .int .i64 a.f3, .int .i64 a.f4] 31 (0, 0)) := (hb.block _ (by simp)).trans (heap_second _ _ _); have a2 : w1.cell? ⟨w.heap.size + 1, 2, none⟩ = some (.string (mk a.data)) := (by simp [World.cell?, hA]); clear hA) | (go_at_call 12; refine (quote_any (mk a.data) _ (by rw [mk_size]; have := hf.data; omega)).mono ?_; rintro e w2 ⟨rfl, hb2⟩))
  go_ret
  exact ⟨rfl, hbw.trans ((below_over hb2).mono hbw.size)⟩
theorem tell_s_str (x0 x1 x2 x3 x4 : Int) : mk (nums [x0, x1, x2, x3, x4]) = mk (Lib.itoa x0) ++ ⟨#[32]⟩ ++ mk (Lib.itoa x1) ++ ⟨#[32]⟩ ++ mk (Lib.itoa x2) ++ ⟨#[32]⟩ ++ mk (Lib.itoa x3) ++ ⟨#[32]⟩ ++ mk (Lib.itoa x4) := by
  have e : nums [x0, x1, x2, x3, x4] = ((((Lib.itoa x0 ++ 32 :: Lib.itoa x1) ++ 32 :: Lib.itoa x2) ++ 32 :: Lib.itoa x3) ++ 32 :: Lib.itoa x4) := by simp [nums, Lib.join, List.intercalate, List.intersperse]
  rw [e, line3, line3, line3, line3]
theorem tell_r_str (x0 x1 x2 x3 : Int) : mk (nums [x0, x1, x2, x3]) = mk (Lib.itoa x0) ++ ⟨#[32]⟩ ++ mk (Lib.itoa x1) ++ ⟨#[32]⟩ ++ mk (Lib.itoa x2) ++ ⟨#[32]⟩ ++ mk (Lib.itoa x3) := by
  have e : nums [x0, x1, x2, x3] = (((Lib.itoa x0 ++ 32 :: Lib.itoa x1) ++ 32 :: Lib.itoa x2) ++ 32 :: Lib.itoa x3) := by simp [nums, Lib.join, List.intercalate, List.intersperse]
  rw [e, line3, line3, line3]
set_option maxRecDepth 100000 in
set_option maxHeartbeats 4000000 in
theorem tell_s (c : Cl.PCall) (a : PAns) (ao : Option Addr) (na ca : Nat) (w : World) (n : Nat) (h1 : 1 ≤ n) (hn : n < 16) (cmd : List UInt8) (ps : List Nat) (hcmd : Cl.rowsT[n - 1]? = some (cmd, ps)) (ht : told[n - 1]? = some 115) (hf : AFits a) : Calls Tryd.prog 18 #[.agg #[.int .i64 n, .string (mk c.path), .string (mk c.other), .int .i64 c.off, .int .i64 c.size, .string (mk c.data)], .agg #[.int .i64 0, .int .i64 a.N, .string (mk a.data), .int .i64 a.i, .int .i64 a.k, .int .i64 a.l, .int .i64 a.z, .int .i64 a.b, .slice ao na ca, .int .i64 a.f1, .int .i64 a.f2, .int .i64 a.f3, .int .i64 a.f4]] w fun e w' => e = .returned (.string (mk (nums [a.i, a.k, a.l, a.z, a.b]))) ∧ Below w.heap.size w w' := by
  have r0 : Cl.inRange a.i := hf.st _ (by simp)
  have l0 : (mk (Lib.itoa a.i)).size ≤ 100 := itoa_len r0
  have r1 : Cl.inRange a.k := hf.st _ (by simp)
  have l1 : (mk (Lib.itoa a.k)).size ≤ 100 := itoa_len r1
  have r2 : Cl.inRange a.l := hf.st _ (by simp)
  have l2 : (mk (Lib.itoa a.l)).size ≤ 100 := itoa_len r2
  have r3 : Cl.inRange a.z := hf.st _ (by simp)
  have l3 : (mk (Lib.itoa a.z)).size ≤ 100 := itoa_len r3
  have r4 : Cl.inRange a.b := hf.st _ (by simp)
  have l4 : (mk (Lib.itoa a.b)).size ≤ 100 := itoa_len r4
  go_enter Tryd.func18, Tryd.ntmps18
  go_wp2_with (go_at_call 35; refine (row_told n h1 hn cmd ps 115 hcmd ht _).mono ?_; rintro e w1 ⟨rfl, hb⟩; have hs1 := hb.size; simp only [World.size_alloc] at hs1; have hlt1 : w.heap.size + 1 < w1.heap.size := (by omega); have hbw := below_over (below_over hb); have hA : w1.heap[w.heap.size + 1]? = some (.cells #[.int .i64 0, .int .i64 a.N, .string (mk a.data), .int .i64 a.i, .int .i64 a.k, .int .i64 a.l, .int .i64 a.z, .int .i64 a.b, .slice ao na ca, .int .i64 a.f1, .int .i64 a.f2, .int .i64 a.f3, .int .i64 a.f4] 31 (0, 0)) := (hb.block _ (by simp)).trans (heap_second _ _ _); have a3 : w1.cell? ⟨w.heap.size + 1, 3, none⟩ = some (.int .i64 a.i) := (by simp [World.cell?, hA]); have a4 : w1.cell? ⟨w.heap.size + 1, 4, none⟩ = some (.int .i64 a.k) := (by simp [World.cell?, hA]); have a5 : w1.cell? ⟨w.heap.size + 1, 5, none⟩ = some (.int .i64 a.l) := (by simp [World.cell?, hA]); have a6 : w1.cell? ⟨w.heap.size + 1, 6, none⟩ = some (.int .i64 a.z) := (by simp [World.cell?, hA]); have a7 : w1.cell? ⟨w.heap.size + 1, 7, none⟩ = some (.int .i64 a.b) := (by simp [World.cell?, hA]); clear hA)
  have hg7 : w.heap.size + 1 < (w1.alloc (.cells #[.string (mk cmd), .string (mk (ps.map code)), .string ⟨#[115]⟩] 80)).heap.size := by rw [World.size_alloc]; omega
  have hB7 : Below w.heap.size w (w1.alloc (.cells #[.string (mk cmd), .string (mk (ps.map code)), .string ⟨#[115]⟩] 80)) := hbw.alloc hbw.size _
  have x0_3 : (w1.alloc (.cells #[.string (mk cmd), .string (mk (ps.map code)), .string ⟨#[115]⟩] 80)).cell? ⟨w.heap.size + 1, 3, none⟩ = some (.int .i64 a.i) := (World.cell?_alloc_past _ _ _ (by show w.heap.size + 1 < _; omega)).trans a3
  have x0_4 : (w1.alloc (.cells #[.string (mk cmd), .string (mk (ps.map code)), .string ⟨#[115]⟩] 80)).cell? ⟨w.heap.size + 1, 4, none⟩ = some (.int .i64 a.k) := (World.cell?_alloc_past _ _ _ (by show w.heap.size + 1 < _; omega)).trans a4
  have x0_5 : (w1.alloc (.cells #[.string (mk cmd), .string (mk (ps.map code)), .string ⟨#[115]⟩] 80)).cell? ⟨w.heap.size + 1, 5, none⟩ = some (.int .i64 a.l) := (World.cell?_alloc_past _ _ _ (by show w.heap.size + 1 < _; omega)).trans a5
  have x0_6 : (w1.alloc (.cells #[.string (mk cmd), .string (mk (ps.map code)), .string ⟨#[115]⟩] 80)).cell? ⟨w.heap.size + 1, 6, none⟩ = some (.int .i64 a.z) := (World.cell?_alloc_past _ _ _ (by show w.heap.size + 1 < _; omega)).trans a6
  have x0_7 : (w1.alloc (.cells #[.string (mk cmd), .string (mk (ps.map code)), .string ⟨#[115]⟩] 80)).cell? ⟨w.heap.size + 1, 7, none⟩ = some (.int .i64 a.b) := (World.cell?_alloc_past _ _ _ (by show w.heap.size + 1 < _; omega)).trans a7
  clear a3 a4 a5 a6 a7
  generalize w1.alloc (.cells #[.string (mk cmd), .string (mk (ps.map code)), .string ⟨#[115]⟩] 80) = W7 at *
  have HB7 := Lib.hid hB7
  clear hB7 hbw hb
  have z1a : ¬ 9223372036854775807 < (mk (Lib.itoa a.i)).size + 1 := by omega
  have z1b : ¬ 9223372036854775807 < (mk (Lib.itoa a.i)).size + 1 + (mk (Lib.itoa a.k)).size := by omega
  have z2a : ¬ 9223372036854775807 < (mk (Lib.itoa a.i)).size + 1 + (mk (Lib.itoa a.k)).size + 1 := by omega
  have z2b : ¬ 9223372036854775807 < (mk (Lib.itoa a.i)).size + 1 + (mk (Lib.itoa a.k)).size + 1 + (mk (Lib.itoa a.l)).size := by omega
  have z3a : ¬ 9223372036854775807 < (mk (Lib.itoa a.i)).size + 1 + (mk (Lib.itoa a.k)).size + 1 + (mk (Lib.itoa a.l)).size + 1 := by omega
  have z3b : ¬ 9223372036854775807 < (mk (Lib.itoa a.i)).size + 1 + (mk (Lib.itoa a.k)).size + 1 + (mk (Lib.itoa a.l)).size + 1 + (mk (Lib.itoa a.z)).size := by omega
  have z4a : ¬ 9223372036854775807 < (mk (Lib.itoa a.i)).size + 1 + (mk (Lib.itoa a.k)).size + 1 + (mk (Lib.itoa a.l)).size + 1 + (mk (Lib.itoa a.z)).size + 1 := by omega
  have z4b : ¬ 9223372036854775807 < (mk (Lib.itoa a.i)).size + 1 + (mk (Lib.itoa a.k)).size + 1 + (mk (Lib.itoa a.l)).size + 1 + (mk (Lib.itoa a.z)).size + 1 + (mk (Lib.itoa a.b)).size := by omega
  go_region_held3 (fun w' => w'.cell? ⟨w.heap.size + 1, 3, none⟩ = some (.int .i64 a.i) ∧ w'.cell? ⟨w.heap.size + 1, 4, none⟩ = some (.int .i64 a.k) ∧ w'.cell? ⟨w.heap.size + 1, 5, none⟩ = some (.int .i64 a.l) ∧ w'.cell? ⟨w.heap.size + 1, 6, none⟩ = some (.int .i64 a.z) ∧ w'.cell? ⟨w.heap.size + 1, 7, none⟩ = some (.int .i64 a.b)) (go_keep)
    ((first
      | (go_at_call 37; (with_reducible refine (decimal_any a.i _ r0).mono ?_); rintro e v1 ⟨rfl, b1⟩; have g1 : w.heap.size + 1 < v1.heap.size := Nat.lt_of_lt_of_le hg7 b1.size; have x1_3 := (b1.cell (p := ⟨w.heap.size + 1, 3, none⟩) hg7).trans x0_3; have x1_4 := (b1.cell (p := ⟨w.heap.size + 1, 4, none⟩) hg7).trans x0_4; have x1_5 := (b1.cell (p := ⟨w.heap.size + 1, 5, none⟩) hg7).trans x0_5; have x1_6 := (b1.cell (p := ⟨w.heap.size + 1, 6, none⟩) hg7).trans x0_6; have x1_7 := (b1.cell (p := ⟨w.heap.size + 1, 7, none⟩) hg7).trans x0_7; clear x0_3 x0_4 x0_5 x0_6 x0_7)
      | (go_at_call 37; (with_reducible refine (decimal_any a.k _ r1).mono ?_); rintro e v2 ⟨rfl, b2⟩; have g2 : w.heap.size + 1 < v2.heap.size := Nat.lt_of_lt_of_le g1 b2.size; have x2_3 := (b2.cell (p := ⟨w.heap.size + 1, 3, none⟩) g1).trans x1_3; have x2_4 := (b2.cell (p := ⟨w.heap.size + 1, 4, none⟩) g1).trans x1_4; have x2_5 := (b2.cell (p := ⟨w.heap.size + 1, 5, none⟩) g1).trans x1_5; have x2_6 := (b2.cell (p := ⟨w.heap.size + 1, 6, none⟩) g1).trans x1_6; have x2_7 := (b2.cell (p := ⟨w.heap.size + 1, 7, none⟩) g1).trans x1_7; clear x1_3 x1_4 x1_5 x1_6 x1_7)
      | (go_at_call 37; (with_reducible refine (decimal_any a.l _ r2).mono ?_); rintro e v3 ⟨rfl, b3⟩; have g3 : w.heap.size + 1 < v3.heap.size := Nat.lt_of_lt_of_le g2 b3.size; have x3_3 := (b3.cell (p := ⟨w.heap.size + 1, 3, none⟩) g2).trans x2_3; have x3_4 := (b3.cell (p := ⟨w.heap.size + 1, 4, none⟩) g2).trans x2_4; have x3_5 := (b3.cell (p := ⟨w.heap.size + 1, 5, none⟩) g2).trans x2_5; have x3_6 := (b3.cell (p := ⟨w.heap.size + 1, 6, none⟩) g2).trans x2_6; have x3_7 := (b3.cell (p := ⟨w.heap.size + 1, 7, none⟩) g2).trans x2_7; clear x2_3 x2_4 x2_5 x2_6 x2_7)
      | (go_at_call 37; (with_reducible refine (decimal_any a.z _ r3).mono ?_); rintro e v4 ⟨rfl, b4⟩; have g4 : w.heap.size + 1 < v4.heap.size := Nat.lt_of_lt_of_le g3 b4.size; have x4_3 := (b4.cell (p := ⟨w.heap.size + 1, 3, none⟩) g3).trans x3_3; have x4_4 := (b4.cell (p := ⟨w.heap.size + 1, 4, none⟩) g3).trans x3_4; have x4_5 := (b4.cell (p := ⟨w.heap.size + 1, 5, none⟩) g3).trans x3_5; have x4_6 := (b4.cell (p := ⟨w.heap.size + 1, 6, none⟩) g3).trans x3_6; have x4_7 := (b4.cell (p := ⟨w.heap.size + 1, 7, none⟩) g3).trans x3_7; clear x3_3 x3_4 x3_5 x3_6 x3_7)
      | (go_at_call 37; (with_reducible refine (decimal_any a.b _ r4).mono ?_); rintro e v5 ⟨rfl, b5⟩; have g5 : w.heap.size + 1 < v5.heap.size := Nat.lt_of_lt_of_le g4 b5.size; have x5_3 := (b5.cell (p := ⟨w.heap.size + 1, 3, none⟩) g4).trans x4_3; have x5_4 := (b5.cell (p := ⟨w.heap.size + 1, 4, none⟩) g4).trans x4_4; have x5_5 := (b5.cell (p := ⟨w.heap.size + 1, 5, none⟩) g4).trans x4_5; have x5_6 := (b5.cell (p := ⟨w.heap.size + 1, 6, none⟩) g4).trans x4_6; have x5_7 := (b5.cell (p := ⟨w.heap.size + 1, 7, none⟩) g4).trans x4_7; clear x4_3 x4_4 x4_5 x4_6 x4_7)))
  all_goals
    go_wp2
    go_ret
    refine ⟨ret_str (by rw [tell_s_str]), ?_⟩
    have y0 : Below W7.heap.size W7 v1 := ⟨b1.os, b1.tape, b1.output, b1.size, b1.block⟩
    have Y1 := HB7.out.trans (y0.mono HB7.out.size)
    have Y2 := Y1.trans (b2.mono Y1.size)
    have Y3 := Y2.trans (b3.mono Y2.size)
    have Y4 := Y3.trans (b4.mono Y3.size)
    have Y5 := Y4.trans (b5.mono Y4.size)
    exact Y5
set_option maxRecDepth 100000 in
set_option maxHeartbeats 4000000 in
theorem tell_r (c : Cl.PCall) (a : PAns) (ao : Option Addr) (na ca : Nat) (w : World) (n : Nat) (h1 : 1 ≤ n) (hn : n < 16) (cmd : List UInt8) (ps : List Nat) (hcmd : Cl.rowsT[n - 1]? = some (cmd, ps)) (ht : told[n - 1]? = some 114) (hf : AFits a) : Calls Tryd.prog 18 #[.agg #[.int .i64 n, .string (mk c.path), .string (mk c.other), .int .i64 c.off, .int .i64 c.size, .string (mk c.data)], .agg #[.int .i64 0, .int .i64 a.N, .string (mk a.data), .int .i64 a.i, .int .i64 a.k, .int .i64 a.l, .int .i64 a.z, .int .i64 a.b, .slice ao na ca, .int .i64 a.f1, .int .i64 a.f2, .int .i64 a.f3, .int .i64 a.f4]] w fun e w' => e = .returned (.string (mk (nums [a.f1, a.f2, a.f3, a.f4]))) ∧ Below w.heap.size w w' := by
  have r0 : Cl.inRange a.f1 := hf.rm _ (by simp)
  have l0 : (mk (Lib.itoa a.f1)).size ≤ 100 := itoa_len r0
  have r1 : Cl.inRange a.f2 := hf.rm _ (by simp)
  have l1 : (mk (Lib.itoa a.f2)).size ≤ 100 := itoa_len r1
  have r2 : Cl.inRange a.f3 := hf.rm _ (by simp)
  have l2 : (mk (Lib.itoa a.f3)).size ≤ 100 := itoa_len r2
  have r3 : Cl.inRange a.f4 := hf.rm _ (by simp)
  have l3 : (mk (Lib.itoa a.f4)).size ≤ 100 := itoa_len r3
  go_enter Tryd.func18, Tryd.ntmps18
  go_wp2_with (go_at_call 35; refine (row_told n h1 hn cmd ps 114 hcmd ht _).mono ?_; rintro e w1 ⟨rfl, hb⟩; have hs1 := hb.size; simp only [World.size_alloc] at hs1; have hlt1 : w.heap.size + 1 < w1.heap.size := (by omega); have hbw := below_over (below_over hb); have hA : w1.heap[w.heap.size + 1]? = some (.cells #[.int .i64 0, .int .i64 a.N, .string (mk a.data), .int .i64 a.i, .int .i64 a.k, .int .i64 a.l, .int .i64 a.z, .int .i64 a.b, .slice ao na ca, .int .i64 a.f1, .int .i64 a.f2, .int .i64 a.f3, .int .i64 a.f4] 31 (0, 0)) := (hb.block _ (by simp)).trans (heap_second _ _ _); have a9 : w1.cell? ⟨w.heap.size + 1, 9, none⟩ = some (.int .i64 a.f1) := (by simp [World.cell?, hA]); have a10 : w1.cell? ⟨w.heap.size + 1, 10, none⟩ = some (.int .i64 a.f2) := (by simp [World.cell?, hA]); have a11 : w1.cell? ⟨w.heap.size + 1, 11, none⟩ = some (.int .i64 a.f3) := (by simp [World.cell?, hA]); have a12 : w1.cell? ⟨w.heap.size + 1, 12, none⟩ = some (.int .i64 a.f4) := (by simp [World.cell?, hA]); clear hA)
  have hg7 : w.heap.size + 1 < (w1.alloc (.cells #[.string (mk cmd), .string (mk (ps.map code)), .string ⟨#[114]⟩] 80)).heap.size := by rw [World.size_alloc]; omega
  have hB7 : Below w.heap.size w (w1.alloc (.cells #[.string (mk cmd), .string (mk (ps.map code)), .string ⟨#[114]⟩] 80)) := hbw.alloc hbw.size _
  have x0_9 : (w1.alloc (.cells #[.string (mk cmd), .string (mk (ps.map code)), .string ⟨#[114]⟩] 80)).cell? ⟨w.heap.size + 1, 9, none⟩ = some (.int .i64 a.f1) := (World.cell?_alloc_past _ _ _ (by show w.heap.size + 1 < _; omega)).trans a9
  have x0_10 : (w1.alloc (.cells #[.string (mk cmd), .string (mk (ps.map code)), .string ⟨#[114]⟩] 80)).cell? ⟨w.heap.size + 1, 10, none⟩ = some (.int .i64 a.f2) := (World.cell?_alloc_past _ _ _ (by show w.heap.size + 1 < _; omega)).trans a10
  have x0_11 : (w1.alloc (.cells #[.string (mk cmd), .string (mk (ps.map code)), .string ⟨#[114]⟩] 80)).cell? ⟨w.heap.size + 1, 11, none⟩ = some (.int .i64 a.f3) := (World.cell?_alloc_past _ _ _ (by show w.heap.size + 1 < _; omega)).trans a11
  have x0_12 : (w1.alloc (.cells #[.string (mk cmd), .string (mk (ps.map code)), .string ⟨#[114]⟩] 80)).cell? ⟨w.heap.size + 1, 12, none⟩ = some (.int .i64 a.f4) := (World.cell?_alloc_past _ _ _ (by show w.heap.size + 1 < _; omega)).trans a12
  clear a9 a10 a11 a12
  generalize w1.alloc (.cells #[.string (mk cmd), .string (mk (ps.map code)), .string ⟨#[114]⟩] 80) = W7 at *
  have HB7 := Lib.hid hB7
  clear hB7 hbw hb
  have z1a : ¬ 9223372036854775807 < (mk (Lib.itoa a.f1)).size + 1 := by omega
  have z1b : ¬ 9223372036854775807 < (mk (Lib.itoa a.f1)).size + 1 + (mk (Lib.itoa a.f2)).size := by omega
  have z2a : ¬ 9223372036854775807 < (mk (Lib.itoa a.f1)).size + 1 + (mk (Lib.itoa a.f2)).size + 1 := by omega
  have z2b : ¬ 9223372036854775807 < (mk (Lib.itoa a.f1)).size + 1 + (mk (Lib.itoa a.f2)).size + 1 + (mk (Lib.itoa a.f3)).size := by omega
  have z3a : ¬ 9223372036854775807 < (mk (Lib.itoa a.f1)).size + 1 + (mk (Lib.itoa a.f2)).size + 1 + (mk (Lib.itoa a.f3)).size + 1 := by omega
  have z3b : ¬ 9223372036854775807 < (mk (Lib.itoa a.f1)).size + 1 + (mk (Lib.itoa a.f2)).size + 1 + (mk (Lib.itoa a.f3)).size + 1 + (mk (Lib.itoa a.f4)).size := by omega
  go_region_held3 (fun w' => w'.cell? ⟨w.heap.size + 1, 9, none⟩ = some (.int .i64 a.f1) ∧ w'.cell? ⟨w.heap.size + 1, 10, none⟩ = some (.int .i64 a.f2) ∧ w'.cell? ⟨w.heap.size + 1, 11, none⟩ = some (.int .i64 a.f3) ∧ w'.cell? ⟨w.heap.size + 1, 12, none⟩ = some (.int .i64 a.f4)) (go_keep)
    ((first
      | (go_at_call 37; (with_reducible refine (decimal_any a.f1 _ r0).mono ?_); rintro e v1 ⟨rfl, b1⟩; have g1 : w.heap.size + 1 < v1.heap.size := Nat.lt_of_lt_of_le hg7 b1.size; have x1_9 := (b1.cell (p := ⟨w.heap.size + 1, 9, none⟩) hg7).trans x0_9; have x1_10 := (b1.cell (p := ⟨w.heap.size + 1, 10, none⟩) hg7).trans x0_10; have x1_11 := (b1.cell (p := ⟨w.heap.size + 1, 11, none⟩) hg7).trans x0_11; have x1_12 := (b1.cell (p := ⟨w.heap.size + 1, 12, none⟩) hg7).trans x0_12; clear x0_9 x0_10 x0_11 x0_12)
      | (go_at_call 37; (with_reducible refine (decimal_any a.f2 _ r1).mono ?_); rintro e v2 ⟨rfl, b2⟩; have g2 : w.heap.size + 1 < v2.heap.size := Nat.lt_of_lt_of_le g1 b2.size; have x2_9 := (b2.cell (p := ⟨w.heap.size + 1, 9, none⟩) g1).trans x1_9; have x2_10 := (b2.cell (p := ⟨w.heap.size + 1, 10, none⟩) g1).trans x1_10; have x2_11 := (b2.cell (p := ⟨w.heap.size + 1, 11, none⟩) g1).trans x1_11; have x2_12 := (b2.cell (p := ⟨w.heap.size + 1, 12, none⟩) g1).trans x1_12; clear x1_9 x1_10 x1_11 x1_12)
      | (go_at_call 37; (with_reducible refine (decimal_any a.f3 _ r2).mono ?_); rintro e v3 ⟨rfl, b3⟩; have g3 : w.heap.size + 1 < v3.heap.size := Nat.lt_of_lt_of_le g2 b3.size; have x3_9 := (b3.cell (p := ⟨w.heap.size + 1, 9, none⟩) g2).trans x2_9; have x3_10 := (b3.cell (p := ⟨w.heap.size + 1, 10, none⟩) g2).trans x2_10; have x3_11 := (b3.cell (p := ⟨w.heap.size + 1, 11, none⟩) g2).trans x2_11; have x3_12 := (b3.cell (p := ⟨w.heap.size + 1, 12, none⟩) g2).trans x2_12; clear x2_9 x2_10 x2_11 x2_12)
      | (go_at_call 37; (with_reducible refine (decimal_any a.f4 _ r3).mono ?_); rintro e v4 ⟨rfl, b4⟩; have g4 : w.heap.size + 1 < v4.heap.size := Nat.lt_of_lt_of_le g3 b4.size; have x4_9 := (b4.cell (p := ⟨w.heap.size + 1, 9, none⟩) g3).trans x3_9; have x4_10 := (b4.cell (p := ⟨w.heap.size + 1, 10, none⟩) g3).trans x3_10; have x4_11 := (b4.cell (p := ⟨w.heap.size + 1, 11, none⟩) g3).trans x3_11; have x4_12 := (b4.cell (p := ⟨w.heap.size + 1, 12, none⟩) g3).trans x3_12; clear x3_9 x3_10 x3_11 x3_12)))
  all_goals
    go_wp2
    go_ret
    refine ⟨ret_str (by rw [tell_r_str]), ?_⟩
    have y0 : Below W7.heap.size W7 v1 := ⟨b1.os, b1.tape, b1.output, b1.size, b1.block⟩
    have Y1 := HB7.out.trans (y0.mono HB7.out.size)
    have Y2 := Y1.trans (b2.mono Y1.size)
    have Y3 := Y2.trans (b3.mono Y2.size)
    have Y4 := Y3.trans (b4.mono Y3.size)
    exact Y4
end Er
end Go.Proofs.YtjloonijnbfhhaaDoor
