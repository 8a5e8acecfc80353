/- The walk of the document's Print. -/
import Derived.Test.YtjloonijnbfhhaaDoorERefNum
import Derived.Test.YtjloonijnbfhhaaDoorERefRows
import Derived.Test.YtjloonijnbfhhaaDoorROnce
namespace Go.Proofs.YtjloonijnbfhhaaDoor
open Go.RowKit Go.Maps Go.WideShapes

namespace Er
open Qw Rw
theorem bs_mk (l : List UInt8) : bs (mk l) = l := rfl
theorem line3 (a b : List UInt8) : mk (a ++ 32 :: b) = mk a ++ ⟨#[32]⟩ ++ mk b := by
  show _ = mk a ++ mk [32] ++ mk b
  rw [← mk_app, ← mk_app]
  simp
/-- The places' letters, as text. -/
structure Lets (P : ByteArray) (ps : List Nat) : Prop where
  size : P.size = ps.length
  at_ : ∀ k p, ps[k]? = some p → ∀ h : k < P.size, (P[k].toNat : Int) = ((code p).toNat : Int)
theorem lets (ps : List Nat) : Lets (mk (ps.map code)) ps where
  size := by rw [mk_size, List.length_map]
  at_ := by
    intro k p hp h
    have e : (mk (ps.map code))[k] = (ps.map code)[k]'(by rw [mk_size] at h; exact h) := by
      show (mk (ps.map code)).data[k]'_ = _
      simp [mk]
    obtain ⟨hk, he⟩ := List.getElem?_eq_some_iff.1 hp
    rw [e, List.getElem_map, he]
set_option maxRecDepth 100000 in
set_option maxHeartbeats 2000000 in
theorem print_none (c : Cl.PCall) (w : World) (hn : ¬ (1 ≤ c.kind ∧ c.kind ≤ 15)) : Calls Tryd.prog 16 #[.agg #[.int .i64 c.kind, .string (mk c.path), .string (mk c.other), .int .i64 c.off, .int .i64 c.size, .string (mk c.data)]] w fun e w' => e = .returned (.tuple #[.string (mk []), .int .i64 1]) ∧ Below w.heap.size w w' := by
  go_enter Tryd.func16, Tryd.ntmps16
  go_wp2_with (go_at_call 35; refine (row_none _ _ hn).mono ?_; rintro e w' ⟨rfl, hb⟩)
  go_ret2
  exact ⟨rfl, (below_over hb).alloc (below_over hb).size _⟩
set_option maxRecDepth 100000 in
set_option maxHeartbeats 4000000 in
theorem print_some (c : Cl.PCall) (w : World) (n : Nat) (h1 : 1 ≤ n) (hn : n < 16) (cmd : List UInt8) (ps : List Nat) (t : UInt8) (hcmd : Cl.rowsT[n - 1]? = some (cmd, ps)) (ht : told[n - 1]? = some t) (hs : Sized c) (hfi : Cl.Fits c) : Calls Tryd.prog 16 #[.agg #[.int .i64 n, .string (mk c.path), .string (mk c.other), .int .i64 c.off, .int .i64 c.size, .string (mk c.data)]] w fun e w' => e = .returned (.tuple #[.string (mk (cmd ++ ps.flatMap fun p => 32 :: Cl.text c p)), .int .i64 0]) ∧ Below w.heap.size w w' := by
  have HL := Lib.hid (lets ps)
  have hps3 := (Cl.rows_small hcmd).2
  have hcm := (Cl.rows_small hcmd).1
  obtain ⟨-, -, -, hp5⟩ := Cl.rows_at hcmd
  go_enter Tryd.func16, Tryd.ntmps16
  go_wp2_with (go_at_call 35; refine (row_some n h1 hn cmd ps t hcmd ht _).mono ?_; rintro e w1 ⟨rfl, hb⟩; generalize mk (ps.map code) = P at HL; have hbw := below_over hb; have hsw := hb.size; simp only [World.size_alloc] at hsw; have hH0 : Holds w1 w.heap.size { c with kind := (n : Int) } := ((hb.block w.heap.size (by simp)).trans (heap_alloc_new _ _)))
  go_loopw [6, 7] (fun s i wr => ∃ k : Nat, k ≤ ps.length ∧ i = .int .i64 k ∧ s = .string (mk (lineK c cmd ps k)) ∧ Below (w1.heap.size + 1) (w1.alloc (.cells #[.string (mk cmd), .string P, .string (mk [t])] 80)) wr) (fun _ i _ => ps.length - (intOf i).toNat)
  case atStart => exact ⟨0, Nat.zero_le _, rfl, by simp [lineK], by exact Below.refl _ _⟩
  case round =>
    obtain ⟨k, hk, rfl, rfl, hnx⟩ := hrel
    have hsz := hnx.size
    rw [World.size_alloc] at hsz
    have hR : wr.heap[w1.heap.size]? = some (.cells #[.string (mk cmd), .string P, .string (mk [t])] 80 (0, 0)) := (hnx.block _ (by simp)).trans (heap_alloc_new _ _)
    have r1 : wr.cell? ⟨w1.heap.size, 1, none⟩ = some (.string P) := by simp [World.cell?, hR]
    have hHr : Holds wr w.heap.size { c with kind := (n : Int) } := (hnx.block _ (by omega)).trans ((heap_alloc_old _ _ (by omega)).trans hH0)
    have k1 : wr.cell? ⟨w.heap.size, 1, none⟩ = some (.string (mk c.path)) := hHr.c1
    have k2 : wr.cell? ⟨w.heap.size, 2, none⟩ = some (.string (mk c.other)) := hHr.c2
    have k3 : wr.cell? ⟨w.heap.size, 3, none⟩ = some (.int .i64 c.off) := hHr.c3
    have k4 : wr.cell? ⟨w.heap.size, 4, none⟩ = some (.int .i64 c.size) := hHr.c4
    have k5 : wr.cell? ⟨w.heap.size, 5, none⟩ = some (.string (mk c.data)) := hHr.c5
    have hPs := HL.out.size
    by_cases hlt : k < ps.length
    · have hkk : ps[k]? = some ps[k] := List.getElem?_eq_getElem hlt
      have hpk : ps[k] < 5 := hp5 _ (List.getElem_mem hlt)
      have hkP : k < P.size := by omega
      have hat := HL.out.at_ k _ hkk hkP
      have hLK := lineK_len c cmd ps k hs hfi hcm hps3
      have hT := text_len c ps[k] hs hfi
      have HS := Lib.hid (lineK_succ (c := c) (cmd := cmd) hkk)
      generalize ps[k] = p at hpk hat hT HS
      clear hkk HL hcmd hp5
      obtain rfl | rfl | rfl | rfl | rfl : p = 0 ∨ p = 1 ∨ p = 2 ∨ p = 3 ∨ p = 4 := by omega
      · have hcb : (P[k].toNat : Int) = 112 := hat
        have hT1 : (mk (Cl.text c 0)).size ≤ 400000000002 := by rw [mk_size]; exact hT
        have z1 : ¬ 9223372036854775807 < (mk (lineK c cmd ps k)).size + 1 := by rw [mk_size]; omega
        have z2 : ¬ 9223372036854775807 < (mk (lineK c cmd ps k)).size + 1 + (mk (Cl.text c 0)).size := by rw [mk_size]; omega
        clear hat hT
        go_wp2_with (go_at_call 12; refine (quote_any (mk c.path) _ (by rw [mk_size]; have := hs.1; omega)).mono ?_; rintro e w2 ⟨rfl, hb2⟩)
        go_roundw
        case rel =>
          refine ⟨k + 1, by omega, by go_num, ?_, hnx.trans (hb2.mono (by omega))⟩
          rw [HS.out, line3]
          rfl
        case measure => simp [intOf]; omega
      · have hcb : (P[k].toNat : Int) = 111 := hat
        have hT1 : (mk (Cl.text c 1)).size ≤ 400000000002 := by rw [mk_size]; exact hT
        have z1 : ¬ 9223372036854775807 < (mk (lineK c cmd ps k)).size + 1 := by rw [mk_size]; omega
        have z2 : ¬ 9223372036854775807 < (mk (lineK c cmd ps k)).size + 1 + (mk (Cl.text c 1)).size := by rw [mk_size]; omega
        clear hat hT
        go_wp2_with (go_at_call 12; refine (quote_any (mk c.other) _ (by rw [mk_size]; have := hs.2.1; omega)).mono ?_; rintro e w2 ⟨rfl, hb2⟩)
        go_roundw
        case rel =>
          refine ⟨k + 1, by omega, by go_num, ?_, hnx.trans (hb2.mono (by omega))⟩
          rw [HS.out, line3]
          rfl
        case measure => simp [intOf]; omega
      · have hcb : (P[k].toNat : Int) = 100 := hat
        have hT1 : (mk (Cl.text c 2)).size ≤ 400000000002 := by rw [mk_size]; exact hT
        have z1 : ¬ 9223372036854775807 < (mk (lineK c cmd ps k)).size + 1 := by rw [mk_size]; omega
        have z2 : ¬ 9223372036854775807 < (mk (lineK c cmd ps k)).size + 1 + (mk (Cl.text c 2)).size := by rw [mk_size]; omega
        clear hat hT
        go_wp2_with (go_at_call 12; refine (quote_any (mk c.data) _ (by rw [mk_size]; have := hs.2.2; omega)).mono ?_; rintro e w2 ⟨rfl, hb2⟩)
        go_roundw
        case rel =>
          refine ⟨k + 1, by omega, by go_num, ?_, hnx.trans (hb2.mono (by omega))⟩
          rw [HS.out, line3]
          rfl
        case measure => simp [intOf]; omega
      · have hcb : (P[k].toNat : Int) = 102 := hat
        have hT1 : (mk (Cl.text c 3)).size ≤ 400000000002 := by rw [mk_size]; exact hT
        have z1 : ¬ 9223372036854775807 < (mk (lineK c cmd ps k)).size + 1 := by rw [mk_size]; omega
        have z2 : ¬ 9223372036854775807 < (mk (lineK c cmd ps k)).size + 1 + (mk (Cl.text c 3)).size := by rw [mk_size]; omega
        clear hat hT
        go_wp2_with (go_at_call 37; refine (decimal_any c.off _ hfi.1).mono ?_; rintro e w2 ⟨rfl, hb2⟩)
        go_roundw
        case rel =>
          refine ⟨k + 1, by omega, by go_num, ?_, hnx.trans (hb2.mono (by omega))⟩
          rw [HS.out, line3]
          rfl
        case measure => simp [intOf]; omega
      · have hcb : (P[k].toNat : Int) = 115 := hat
        have hT1 : (mk (Cl.text c 4)).size ≤ 400000000002 := by rw [mk_size]; exact hT
        have z1 : ¬ 9223372036854775807 < (mk (lineK c cmd ps k)).size + 1 := by rw [mk_size]; omega
        have z2 : ¬ 9223372036854775807 < (mk (lineK c cmd ps k)).size + 1 + (mk (Cl.text c 4)).size := by rw [mk_size]; omega
        clear hat hT
        go_wp2_with (go_at_call 37; refine (decimal_any c.size _ hfi.2).mono ?_; rintro e w2 ⟨rfl, hb2⟩)
        go_roundw
        case rel =>
          refine ⟨k + 1, by omega, by go_num, ?_, hnx.trans (hb2.mono (by omega))⟩
          rw [HS.out, line3]
          rfl
        case measure => simp [intOf]; omega
    · have hkz : k = ps.length := by omega
      subst hkz
      go_wp2
      go_ret2
      rw [lineK_all]
      exact ⟨rfl, (hbw.alloc (by omega) _).trans (hnx.mono (by omega))⟩
end Er
end Go.Proofs.YtjloonijnbfhhaaDoor
