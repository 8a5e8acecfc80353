/- The walk of Print: a call as a line. -/
import Derived.Test.YtjloonijnbfhhaaDoorRLook
import Derived.Deep.RegionWith
import Derived.Deep.RegionHeld3
import Derived.Deep.DeepCutAuto
namespace Go.Proofs.YtjloonijnbfhhaaDoor
open Go.RowKit Go.Maps Go.WideShapes Qw

namespace Rw
/-- Where Print and Parse have a row in a block of their own. -/
structure AtRow (w wx : World) (r : Nat) (cmd : List UInt8) (ps : List Nat) (f : Nat) (ao : Option Addr) : Prop where
  below : Below w.heap.size w wx
  row : wx.heap[r]? = some (.cells #[.string (mk cmd), .slice ao ps.length ps.length, fn f] 69 (0, 0))
  table : ∃ N D, Tab N wx wx 15 D ∧ SliceP N wx (.slice ao ps.length ps.length) ps
theorem rows_behind {w W w' : World} {D : DataW Value} {o : Obj} (hT : Tab W.heap.size W w' 15 D) (hb : Below w.heap.size w W) (ho : W.heap[w.heap.size]? = some o) (hs : w.heap.size < W.heap.size) : w.heap.size + 1 < w'.heap.size ∧ w.heap.size < w'.heap.size ∧ Below w.heap.size w w' ∧ w'.heap[w.heap.size]? = some o := by
  have := hT.lt
  exact ⟨by omega, by omega, hb.trans (hT.below.mono (by omega)), (hT.below.block _ hs).trans ho⟩
theorem heap_second (w : World) (a b : Obj) : ((w.alloc a).alloc b).heap[w.heap.size + 1]? = some b := by
  have := heap_alloc_new (w.alloc a) b
  rwa [World.size_alloc] at this
theorem holds_of {c : Cl.PCall} {k : Int} (hk : c.kind = k) {w : World} {g : Nat} (h : w.heap[g]? = some (.cells #[.int .i64 k, .string (mk c.path), .string (mk c.other), .int .i64 c.off, .int .i64 c.size, .string (mk c.data)] 23 (0, 0))) : Holds w g c := by
  subst hk
  exact h
theorem atrow_new {w w' W : World} {N : Nat} {D : DataW Value} (hT : Tab N W w' 15 D) (hb : Below w.heap.size w w') (cmd : List UInt8) (ps : List Nat) (f : Nat) (ao : Option Addr) (hS : SliceP N w' (.slice ao ps.length ps.length) ps) :
    AtRow w (w'.alloc (.cells #[.string (mk cmd), .slice ao ps.length ps.length, fn f] 69)) w'.heap.size cmd ps f ao where
  below := hb.alloc hb.size _
  row := heap_alloc_new _ _
  table := ⟨N, D, tab_alloc hT _, slice_far hS (by simp) (fun b _ hb => heap_alloc_old _ _ hb)⟩
theorem atrow_old {w w' W : World} {N r : Nat} {D : DataW Value} (hT : Tab N W w' 15 D) (hb : Below w.heap.size w w') (hr : r < N) (hw : w.heap.size ≤ r) {a b c : Value} (hrow : w'.heap[r]? = some (.cells #[a, b, c] 69 (0, 0))) (cmd : List UInt8) (ps : List Nat) (f : Nat) (ao : Option Addr) (hS : SliceP N w' (.slice ao ps.length ps.length) ps) :
    AtRow w (((w'.setCell ⟨r, 0, none⟩ (.string (mk cmd))).setCell ⟨r, 1, none⟩ (.slice ao ps.length ps.length)).setCell ⟨r, 2, none⟩ (fn f)) r cmd ps f ao where
  below := ((hb.setCell hw _).setCell hw _).setCell hw _
  row := heap_setCell_same _ _ _ _ _ _ (heap_setCell_same _ _ _ _ _ _ (heap_setCell_same _ _ _ _ _ _ hrow))
  table := by
    have hh : ∀ b, N ≤ b → b < w'.heap.size → (((w'.setCell ⟨r, 0, none⟩ (.string (mk cmd))).setCell ⟨r, 1, none⟩ (.slice ao ps.length ps.length)).setCell ⟨r, 2, none⟩ (fn f)).heap[b]? = w'.heap[b]? := fun b h1 h2 => by
      rw [heap_setCell_other _ _ _ _ (show b ≠ r by omega), heap_setCell_other _ _ _ _ (show b ≠ r by omega), heap_setCell_other _ _ _ _ (show b ≠ r by omega)]
    exact ⟨N, D, tab_far hT (by simp) hh, slice_far hS (by simp) hh⟩

/-- The line behind k places. -/
def lineK (c : Cl.PCall) (cmd : List UInt8) (ps : List Nat) (k : Nat) : List UInt8 := cmd ++ (ps.take k).flatMap fun p => 32 :: Cl.text c p
theorem lineK_succ {c : Cl.PCall} {cmd : List UInt8} {ps : List Nat} {k p : Nat} (h : ps[k]? = some p) : lineK c cmd ps (k + 1) = lineK c cmd ps k ++ 32 :: Cl.text c p := by
  obtain ⟨hk, he⟩ := List.getElem?_eq_some_iff.1 h
  unfold lineK
  rw [List.take_succ_eq_append_getElem hk, List.flatMap_append, he]
  simp
theorem lineK_all (c : Cl.PCall) (cmd : List UInt8) (ps : List Nat) : lineK c cmd ps ps.length = cmd ++ ps.flatMap fun p => 32 :: Cl.text c p := by
  unfold lineK
  rw [List.take_length]
theorem mk_app (a b : List UInt8) : mk (a ++ b) = mk a ++ mk b := (ByteArray.mk_append_mk _ _ |>.trans (by simp [mk])).symm
theorem text_len (c : Cl.PCall) (p : Nat) (hs : Sized c) (hf : Cl.Fits c) : (Cl.text c p).length ≤ 400000000002 := by
  have hi : ∀ n : Int, Cl.inRange n → (Lib.itoa n).length ≤ 400000000002 := by
    intro n hn
    have h1 := Cl.dec_len 19 n.natAbs (by decide)
    have h2 := Cl.dec_len 19 n.toNat (by decide)
    obtain ⟨a, b⟩ := hn
    unfold Lib.itoa
    split
    · have := h1 (by omega); simp only [List.length_cons]; omega
    · have := h2 (by omega); omega
  obtain ⟨h1, h2, h3⟩ := hs
  unfold Cl.text
  split
  · have := Cl.quote_len c.path; omega
  · have := Cl.quote_len c.other; omega
  · have := Cl.quote_len c.data; omega
  · exact hi _ hf.1
  · exact hi _ hf.2
  · simp
theorem lineK_len (c : Cl.PCall) (cmd : List UInt8) (ps : List Nat) (k : Nat) (hs : Sized c) (hf : Cl.Fits c) (h1 : cmd.length ≤ 10) (h2 : ps.length ≤ 3) : (lineK c cmd ps k).length ≤ 2000000000000 := by
  have key : ∀ l : List Nat, (l.flatMap fun p => 32 :: Cl.text c p).length ≤ l.length * 400000000003 := by
    intro l
    induction l with
    | nil => simp
    | cons p l ih =>
      have := text_len c p hs hf
      simp only [List.flatMap_cons, List.length_append, List.length_cons]
      omega
  have := key (ps.take k)
  have h3 : (ps.take k).length ≤ 3 := by rw [List.length_take]; omega
  unfold lineK
  rw [List.length_append]
  omega

set_option maxRecDepth 100000 in
set_option maxHeartbeats 2000000 in
theorem print_none (c : Cl.PCall) (w : World) (hk : Cl.inRange c.kind) (hn : ¬ (1 ≤ c.kind ∧ c.kind ≤ 15)) : Calls Tryd.prog 15 #[.agg #[.int .i64 c.kind, .string (mk c.path), .string (mk c.other), .int .i64 c.off, .int .i64 c.size, .string (mk c.data)]] w fun e w' => e = .returned (.tuple #[.string (mk []), .int .i64 1]) ∧ Below w.heap.size w w' := by
  go_enter Tryd.func15, Tryd.ntmps15
  go_upto_region 1 with fail
  go_cut [5] (fun s5 wx => s5 = .bool false ∧ Below w.heap.size w wx)
  case first =>
    go_region_with (first | (go_at_call 32; refine (rows_any _).mono ?_; rintro e w' ⟨rfl, D, hT⟩; obtain ⟨hlt, hlt0, hbw, hho⟩ := rows_behind (w := w) hT (by repeat (first | exact Below.refl _ _ | refine Below.drew ?_ | refine Below.alloc ?_ (by simp) _)) (by first | exact heap_alloc_new _ _ | exact (heap_alloc_old _ _ (by simp)).trans (heap_alloc_new _ _)) (by simp <;> omega); have hkk : w'.cell? ⟨w.heap.size, 0, none⟩ = some (.int .i64 (c.kind)) := (by simp [World.cell?, hho]); have hlook := tab_look_out hT _ hn hk; have hlook2 := fun o => tab_look_out (tab_alloc hT o) _ hn hk; simp only [World.size_alloc, World.size_drew] at hlook hlook2; (try (have hrow0 : w'.heap[w.heap.size + 1]? = some (.cells #[.string (mk []), .slice none 0 0, .nilFunc] 69 (0, 0)) := ((hT.below.block (w.heap.size + 1) (by simp)).trans (heap_second _ _ _)); have hr0 : w'.cell? ⟨w.heap.size + 1, 0, none⟩ = some (.string (mk [])) := (by simp [World.cell?, hrow0]); have hr1 : w'.cell? ⟨w.heap.size + 1, 1, none⟩ = some (.slice none 0 0) := (by simp [World.cell?, hrow0]); have hr2 : w'.cell? ⟨w.heap.size + 1, 2, none⟩ = some .nilFunc := (by simp [World.cell?, hrow0]); have hz := fun j => (show w'.frozen? ⟨w.heap.size + 1, j, none⟩ = false by simp [World.frozen?, hrow0])))))
    all_goals
      go_wp2_with fail
      go_meet
      case rel =>
        refine ⟨rfl, ?_⟩
        first | exact hbw.alloc (by omega) _ | exact ((hbw.setCell (by show _ ≤ w.heap.size + 1; omega) _).setCell (by show _ ≤ w.heap.size + 1; omega) _).setCell (by show _ ≤ w.heap.size + 1; omega) _
  case rest =>
    obtain ⟨rfl, hb⟩ := hcut
    go_wp2
    go_ret2
    exact ⟨rfl, hb⟩

set_option maxRecDepth 100000 in
set_option maxHeartbeats 4000000 in
theorem print_some (c : Cl.PCall) (w : World) (n : Nat) (hn : n < 15) (cmd : List UInt8) (ps : List Nat) (f : Nat) (hcmd : Cl.rowsT[n]? = some (cmd, ps)) (hf : tellF[n]? = some f) (hs : Sized c) (hfi : Cl.Fits c) (hv : Vars w) : Calls Tryd.prog 15 #[.agg #[.int .i64 ((n : Int) + 1), .string (mk c.path), .string (mk c.other), .int .i64 c.off, .int .i64 c.size, .string (mk c.data)]] w fun e w' => e = .returned (.tuple #[.string (mk (cmd ++ ps.flatMap fun p => 32 :: Cl.text c p)), .int .i64 0]) ∧ Below w.heap.size w w' := by
  go_enter Tryd.func15, Tryd.ntmps15
  go_upto_region 1 with fail
  go_cut [4, 5] (fun s4 s5 wx => ∃ r ao, s4 = .pointer (some ⟨r, 0, none⟩) ∧ s5 = .bool true ∧ AtRow w wx r cmd ps f ao ∧ wx.heap[w.heap.size]? = some (.cells #[.int .i64 ((n : Int) + 1), .string (mk c.path), .string (mk c.other), .int .i64 c.off, .int .i64 c.size, .string (mk c.data)] 23 (0, 0)))
  case first =>
    go_region_with (first | (go_at_call 32; refine (rows_any _).mono ?_; rintro e w' ⟨rfl, D, hT⟩; obtain ⟨hlt, hlt0, hbw, hho⟩ := rows_behind (w := w) hT (by repeat (first | exact Below.refl _ _ | refine Below.drew ?_ | refine Below.alloc ?_ (by simp) _)) (by first | exact heap_alloc_new _ _ | exact (heap_alloc_old _ _ (by simp)).trans (heap_alloc_new _ _)) (by simp <;> omega); have hkk : w'.cell? ⟨w.heap.size, 0, none⟩ = some (.int .i64 ((n : Int) + 1)) := (by simp [World.cell?, hho]); obtain ⟨cmd', ps', f', ao, he1, he2, hS, hlook⟩ := tab_look_in hT n hn true; rw [hcmd] at he1; rw [hf] at he2; cases he1; cases he2; have hlook2 := fun o => (tab_look_ok hT (tab_alloc hT o) hlook hn); simp only [World.size_alloc, World.size_drew, if_true] at hlook hlook2; (try (have hrow0 : w'.heap[w.heap.size + 1]? = some (.cells #[.string (mk []), .slice none 0 0, .nilFunc] 69 (0, 0)) := ((hT.below.block (w.heap.size + 1) (by simp)).trans (heap_second _ _ _)); have hr0 : w'.cell? ⟨w.heap.size + 1, 0, none⟩ = some (.string (mk [])) := (by simp [World.cell?, hrow0]); have hr1 : w'.cell? ⟨w.heap.size + 1, 1, none⟩ = some (.slice none 0 0) := (by simp [World.cell?, hrow0]); have hr2 : w'.cell? ⟨w.heap.size + 1, 2, none⟩ = some .nilFunc := (by simp [World.cell?, hrow0]); have hz := fun j => (show w'.frozen? ⟨w.heap.size + 1, j, none⟩ = false by simp [World.frozen?, hrow0])))))
    all_goals
      go_wp2_with fail
      go_meet
      case rel =>
        first | exact ⟨_, ao, rfl, rfl, atrow_new hT hbw cmd ps f ao hS, (heap_alloc_old _ _ hlt0).trans hho⟩ | exact ⟨_, ao, rfl, rfl, atrow_old hT hbw (by simp) (by omega) hrow0 cmd ps f ao hS, by rw [heap_setCell_other _ _ _ _ (show w.heap.size ≠ w.heap.size + 1 by omega), heap_setCell_other _ _ _ _ (show w.heap.size ≠ w.heap.size + 1 by omega), heap_setCell_other _ _ _ _ (show w.heap.size ≠ w.heap.size + 1 by omega)]; exact hho⟩
  case rest =>
    obtain ⟨r, ao, rfl, rfl, hA, hH⟩ := hcut
    obtain ⟨N, D, hT, hS⟩ := hA.table
    have hrow := hA.row
    have q0 : wc.cell? ⟨r, 0, none⟩ = some (.string (mk cmd)) := by simp [World.cell?, hrow]
    have q1 : wc.cell? ⟨r, 1, none⟩ = some (.slice ao ps.length ps.length) := by simp [World.cell?, hrow]
    obtain ⟨hko, hba, hnd, hp5⟩ := Cl.rows_at hcmd
    have hwl : w.heap.size < wc.heap.size := Holds.lt (c := { c with kind := (n : Int) + 1 }) hH
    go_wp2_with fail
    go_loopw [6, 23] (fun s i wr => ∃ k : Nat, k ≤ ps.length ∧ i = .int .i64 k ∧ s = .string (mk (lineK c cmd ps k)) ∧ Below wc.heap.size wc wr) (fun _ i _ => ps.length - (intOf i).toNat)
    case atStart => exact ⟨0, Nat.zero_le _, rfl, by simp [lineK], Below.refl _ _⟩
    case round =>
      obtain ⟨k, hk, rfl, rfl, hnx⟩ := hrel
      by_cases hlt : k < ps.length
      · have hkk : ps[k]? = some ps[k] := List.getElem?_eq_getElem hlt
        have hpk : ps[k] < 5 := hp5 _ (List.getElem_mem hlt)
        obtain ⟨g, hao, hg, hgN, hcell⟩ : ∃ g, ao = some ⟨g, 0, none⟩ ∧ g < wc.heap.size ∧ N + 1 + 1 + 1 + 1 + 1 + 1 + 1 + 1 + 1 + 1 + 1 + 1 + 1 + 1 + 1 < g ∧ ∀ j, j < 2 * ps.length → wc.cell? ⟨g, j, none⟩ = (cellsP N ps)[j]? := by
          rcases hS with ⟨h, _⟩ | ⟨g, h, h1, h2, h3⟩
          · rw [h] at hlt; cases hlt
          · exact ⟨g, by injection h, h1, h2, h3⟩
        obtain ⟨hc1, hc2⟩ := cellsP_at N ps k _ hkk
        have v0 : wr.cell? ⟨g, k * 2, none⟩ = some (rd N ps[k]) := (by rw [Nat.mul_comm]; exact (hnx.cell (p := ⟨g, 2 * k, none⟩) hg).trans ((hcell _ (by omega)).trans hc1))
        have v1 : wr.cell? ⟨g, k * 2 + 1, none⟩ = some (wt N ps[k]) := (by rw [Nat.mul_comm]; exact (hnx.cell (p := ⟨g, 2 * k + 1, none⟩) hg).trans ((hcell _ (by omega)).trans hc2))
        have hTr := tab_far hT hnx.size (fun b _ hb => hnx.block b hb)
        subst hao
        clear hS hc1 hc2 hcell
        have hbe := hA.below
        have hsz := hbe.size
        have hr : r < wc.heap.size := by
          by_cases h : r < wc.heap.size
          · exact h
          · rw [Array.getElem?_eq_none (by omega)] at hrow; cases hrow
        have hHr : Holds wr w.heap.size { c with kind := (n : Int) + 1 } := (hnx.block _ hwl).trans hH
        have k0 : wr.cell? ⟨w.heap.size, 0, none⟩ = some (.int .i64 ((n : Int) + 1)) := hHr.c0
        have k1 : wr.cell? ⟨w.heap.size, 1, none⟩ = some (.string (mk c.path)) := hHr.c1
        have k2 : wr.cell? ⟨w.heap.size, 2, none⟩ = some (.string (mk c.other)) := hHr.c2
        have k3 : wr.cell? ⟨w.heap.size, 3, none⟩ = some (.int .i64 c.off) := hHr.c3
        have k4 : wr.cell? ⟨w.heap.size, 4, none⟩ = some (.int .i64 c.size) := hHr.c4
        have k5 : wr.cell? ⟨w.heap.size, 5, none⟩ = some (.string (mk c.data)) := hHr.c5
        have hlr := hHr.lt
        have hTl := hTr.lt
        have hsn := hnx.size
        have hvr : Vars wr := (hv.below hbe hv.lt).below hnx (by have := hv.lt; omega)
        have hLK := lineK_len c cmd ps k hs hfi (Cl.rows_small hcmd).1 (Cl.rows_small hcmd).2
        have hps3 := (Cl.rows_small hcmd).2
        have hlt2 : k + 1 ≤ ps.length := hlt
        generalize hpe : ps[k] = p at hkk hpk v0 v1
        clear hT hcmd hf hko hba hnd
        obtain rfl | rfl | rfl | rfl | rfl : p = 0 ∨ p = 1 ∨ p = 2 ∨ p = 3 ∨ p = 4 := by omega
        · have v0' : wr.cell? ⟨g, k * 2, none⟩ = some (.func (Fn.func 75) #[] #[.pointer (some ⟨N, 0, none⟩)]) := v0
          have v1' : wr.cell? ⟨g, k * 2 + 1, none⟩ = some (.func (Fn.func 76) #[] #[.pointer (some ⟨N, 0, none⟩)]) := v1
          have hT1 := text_len { c with kind := (n : Int) + 1 } 0 hs hfi
          have z1 : ¬ 9223372036854775807 < 1 + (mk (Cl.text { c with kind := (n : Int) + 1 } 0)).size := by rw [mk_size]; omega
          have z2 : ¬ 9223372036854775807 < (mk (lineK c cmd ps k)).size + (1 + (mk (Cl.text { c with kind := (n : Int) + 1 } 0)).size) := by rw [mk_size, mk_size]; omega
          clear v0 v1 hT1
          go_wp2_with (first | (go_at_call 76; refine (write0 { c with kind := (n : Int) + 1 } _ _ hs (by simp; omega) ((World.cell?_alloc_past _ _ _ (by omega)).trans hTr.b0)).mono ?_; rintro e w' ⟨rfl, hb⟩))
          go_roundw
          case rel =>
            refine ⟨k + 1, by omega, by go_num, ?_, hnx.trans ((below_over hb).mono hnx.size)⟩
            rw [lineK_succ hkk, mk_app]
            rfl
          case measure => simp [intOf]; omega
        · have v0' : wr.cell? ⟨g, k * 2, none⟩ = some (.func (Fn.func 75) #[] #[.pointer (some ⟨N + 1 + 1 + 1, 0, none⟩)]) := v0
          have v1' : wr.cell? ⟨g, k * 2 + 1, none⟩ = some (.func (Fn.func 76) #[] #[.pointer (some ⟨N + 1 + 1 + 1, 0, none⟩)]) := v1
          have hT1 := text_len { c with kind := (n : Int) + 1 } 1 hs hfi
          have z1 : ¬ 9223372036854775807 < 1 + (mk (Cl.text { c with kind := (n : Int) + 1 } 1)).size := by rw [mk_size]; omega
          have z2 : ¬ 9223372036854775807 < (mk (lineK c cmd ps k)).size + (1 + (mk (Cl.text { c with kind := (n : Int) + 1 } 1)).size) := by rw [mk_size, mk_size]; omega
          clear v0 v1 hT1
          go_wp2_with (first | (go_at_call 76; refine (write1 { c with kind := (n : Int) + 1 } _ _ hs (by simp; omega) ((World.cell?_alloc_past _ _ _ (by omega)).trans hTr.b1)).mono ?_; rintro e w' ⟨rfl, hb⟩))
          go_roundw
          case rel =>
            refine ⟨k + 1, by omega, by go_num, ?_, hnx.trans ((below_over hb).mono hnx.size)⟩
            rw [lineK_succ hkk, mk_app]
            rfl
          case measure => simp [intOf]; omega
        · have v0' : wr.cell? ⟨g, k * 2, none⟩ = some (.func (Fn.func 75) #[] #[.pointer (some ⟨N + 1 + 1 + 1 + 1 + 1 + 1, 0, none⟩)]) := v0
          have v1' : wr.cell? ⟨g, k * 2 + 1, none⟩ = some (.func (Fn.func 76) #[] #[.pointer (some ⟨N + 1 + 1 + 1 + 1 + 1 + 1, 0, none⟩)]) := v1
          have hT1 := text_len { c with kind := (n : Int) + 1 } 2 hs hfi
          have z1 : ¬ 9223372036854775807 < 1 + (mk (Cl.text { c with kind := (n : Int) + 1 } 2)).size := by rw [mk_size]; omega
          have z2 : ¬ 9223372036854775807 < (mk (lineK c cmd ps k)).size + (1 + (mk (Cl.text { c with kind := (n : Int) + 1 } 2)).size) := by rw [mk_size, mk_size]; omega
          clear v0 v1 hT1
          go_wp2_with (first | (go_at_call 76; refine (write2 { c with kind := (n : Int) + 1 } _ _ hs (by simp; omega) ((World.cell?_alloc_past _ _ _ (by omega)).trans hTr.b2)).mono ?_; rintro e w' ⟨rfl, hb⟩))
          go_roundw
          case rel =>
            refine ⟨k + 1, by omega, by go_num, ?_, hnx.trans ((below_over hb).mono hnx.size)⟩
            rw [lineK_succ hkk, mk_app]
            rfl
          case measure => simp [intOf]; omega
        · have v0' : wr.cell? ⟨g, k * 2, none⟩ = some (.func (Fn.func 77) #[] #[.pointer (some ⟨N + 1 + 1 + 1 + 1 + 1 + 1 + 1 + 1 + 1, 0, none⟩)]) := v0
          have v1' : wr.cell? ⟨g, k * 2 + 1, none⟩ = some (.func (Fn.func 79) #[] #[.pointer (some ⟨N + 1 + 1 + 1 + 1 + 1 + 1 + 1 + 1 + 1, 0, none⟩)]) := v1
          have hT1 := text_len { c with kind := (n : Int) + 1 } 3 hs hfi
          have z1 : ¬ 9223372036854775807 < 1 + (mk (Cl.text { c with kind := (n : Int) + 1 } 3)).size := by rw [mk_size]; omega
          have z2 : ¬ 9223372036854775807 < (mk (lineK c cmd ps k)).size + (1 + (mk (Cl.text { c with kind := (n : Int) + 1 } 3)).size) := by rw [mk_size, mk_size]; omega
          clear v0 v1 hT1
          go_wp2_with (first | (go_at_call 79; refine (write3 { c with kind := (n : Int) + 1 } _ _ hfi (hvr.below ((Below.refl _ _).alloc (Nat.le_refl _) _) hvr.lt) (by simp; omega) ((World.cell?_alloc_past _ _ _ (by omega)).trans hTr.b3)).mono ?_; rintro e w' ⟨rfl, hb⟩))
          go_roundw
          case rel =>
            refine ⟨k + 1, by omega, by go_num, ?_, hnx.trans ((below_over hb).mono hnx.size)⟩
            rw [lineK_succ hkk, mk_app]
            rfl
          case measure => simp [intOf]; omega
        · have v0' : wr.cell? ⟨g, k * 2, none⟩ = some (.func (Fn.func 77) #[] #[.pointer (some ⟨N + 1 + 1 + 1 + 1 + 1 + 1 + 1 + 1 + 1 + 1 + 1 + 1, 0, none⟩)]) := v0
          have v1' : wr.cell? ⟨g, k * 2 + 1, none⟩ = some (.func (Fn.func 79) #[] #[.pointer (some ⟨N + 1 + 1 + 1 + 1 + 1 + 1 + 1 + 1 + 1 + 1 + 1 + 1, 0, none⟩)]) := v1
          have hT1 := text_len { c with kind := (n : Int) + 1 } 4 hs hfi
          have z1 : ¬ 9223372036854775807 < 1 + (mk (Cl.text { c with kind := (n : Int) + 1 } 4)).size := by rw [mk_size]; omega
          have z2 : ¬ 9223372036854775807 < (mk (lineK c cmd ps k)).size + (1 + (mk (Cl.text { c with kind := (n : Int) + 1 } 4)).size) := by rw [mk_size, mk_size]; omega
          clear v0 v1 hT1
          go_wp2_with (first | (go_at_call 79; refine (write4 { c with kind := (n : Int) + 1 } _ _ hfi (hvr.below ((Below.refl _ _).alloc (Nat.le_refl _) _) hvr.lt) (by simp; omega) ((World.cell?_alloc_past _ _ _ (by omega)).trans hTr.b4)).mono ?_; rintro e w' ⟨rfl, hb⟩))
          go_roundw
          case rel =>
            refine ⟨k + 1, by omega, by go_num, ?_, hnx.trans ((below_over hb).mono hnx.size)⟩
            rw [lineK_succ hkk, mk_app]
            rfl
          case measure => simp [intOf]; omega
      · have hkz : k = ps.length := by omega
        subst hkz
        go_wp2
        go_ret2
        rw [lineK_all]
        exact ⟨rfl, hA.below.trans (hnx.mono hA.below.size)⟩
end Rw
end Go.Proofs.YtjloonijnbfhhaaDoor
