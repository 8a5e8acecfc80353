/- The walks of the law's comparisons, where both sides are one list: sameInts, sameItems. -/
import Derived.Test.YtnmgdlmicgbapaaDoorPInfo
import Derived.Test.YtnmgdlmicgbapaaDoorPWRight
namespace Go.Proofs.YtnmgdlmicgbapaaDoor
open Go.RowKit Go.Maps

namespace Pw
open Pk
theorem sameInts_any (ps : List Int) (a b : Value) (w : World) (ha : IntsAt w a ps) (hb : IntsAt w b ps) (hl : ps.length ≤ 100000000) :
    Calls Tryd.prog 15 #[a, b] w fun e w' => e = .returned (.bool true) ∧ Below w.heap.size w w' := by
  obtain ⟨ao, ca, rfl, _, _, _, hca⟩ := ha
  obtain ⟨bo, cb, rfl, _, _, _, hcb⟩ := hb
  go_enter Tryd.func15, Tryd.ntmps15
  go_wp2
  go_loopw [13] (fun i wr => ∃ k : Nat, k ≤ ps.length ∧ i = .int .i64 k ∧ Below w.heap.size w wr) (fun i _ => ps.length - (intOf i).toNat)
  case atStart => exact ⟨0, Nat.zero_le _, rfl, Below.refl _ _⟩
  case round =>
    obtain ⟨k, hk, rfl, hnx⟩ := hrel
    by_cases hlt : k < ps.length
    · obtain ⟨p, hp⟩ : ∃ p, ps[k]? = some p := ⟨_, List.getElem?_eq_getElem hlt⟩
      obtain ⟨g1, o1, rfl, hg1, hc1⟩ := hca k p hp
      obtain ⟨g2, o2, rfl, hg2, hc2⟩ := hcb k p hp
      have hki : (k : Int) < (ps.length : Int) := by omega
      have e1 := (hnx.cell (p := ⟨g1, o1 + k, none⟩) hg1).trans hc1
      have e2 := (hnx.cell (p := ⟨g2, o2 + k, none⟩) hg2).trans hc2
      clear hca hcb hp hc1 hc2
      go_wp2
      go_quiet (fail)
      go_wp2
      go_roundw
      case rel => exact ⟨k + 1, by omega, by go_num, below_drewN hnx _⟩
      case measure => simp [intOf]; omega
    · go_wp2
      go_ret
      exact ⟨rfl, hnx⟩
set_option maxRecDepth 100000 in
set_option maxHeartbeats 4000000 in
theorem sameItems_any (l : List PItem) (ao bo : Option Addr) (ca cb : Nat) (w : World) (hA : ItemsAt w ao l) (hB : ItemsAt w bo l) (hs : ∀ x ∈ l, Sane x) (hl : l.length ≤ 100000000) :
    Calls Tryd.prog 6 #[.slice ao l.length ca, .slice bo l.length cb] w fun e w' => e = .returned (.bool true) ∧ Below w.heap.size w w' := by
  go_enter Tryd.func6, Tryd.ntmps6
  go_wp2
  go_loopw [15] (fun i wr => ∃ k : Nat, k ≤ l.length ∧ i = .int .i64 k ∧ Below w.heap.size w wr) (fun i _ => l.length - (intOf i).toNat)
  case atStart => exact ⟨0, Nat.zero_le _, rfl, Below.refl _ _⟩
  case round =>
    obtain ⟨k, hk, rfl, hnx⟩ := hrel
    by_cases hlt : k < l.length
    · obtain ⟨x, hx⟩ : ∃ x, l[k]? = some x := ⟨_, List.getElem?_eq_getElem hlt⟩
      have hsx := hs x (List.mem_of_getElem? hx)
      have hki : (k : Int) < (l.length : Int) := by omega
      obtain ⟨g1, o1, s1, rfl, _, hp1, hc1⟩ := (hA.below hnx) k x hx
      obtain ⟨g2, o2, s2, rfl, _, hp2, hc2⟩ := (hB.below hnx) k x hx
      have d0 : wr.cell? ⟨g1, o1 + k * 6, none⟩ = some (.string (mk x.path)) := hc1 0 _ rfl
      have d1 : wr.cell? ⟨g1, o1 + k * 6 + 1, none⟩ = some (.int .i64 x.kind) := hc1 1 _ rfl
      have d2 : wr.cell? ⟨g1, o1 + k * 6 + 2, none⟩ = some (.int .i64 x.size) := hc1 2 _ rfl
      have d3 : wr.cell? ⟨g1, o1 + k * 6 + 3, none⟩ = some (.string (mk x.data)) := hc1 3 _ rfl
      have d4 : wr.cell? ⟨g1, o1 + k * 6 + 4, none⟩ = some s1 := hc1 4 _ rfl
      have d5 : wr.cell? ⟨g1, o1 + k * 6 + 5, none⟩ = some (.int .i64 x.same) := hc1 5 _ rfl
      have hq1 := hp1
      obtain ⟨sa, sc, rfl, _⟩ := hq1
      have hbW : Below wr.heap.size wr (wr.alloc (.cells #[.string (mk x.path), .int .i64 x.kind, .int .i64 x.size, .string (mk x.data), .slice sa x.pieces.length sc, .int .i64 x.same] 29)) := (Below.refl _ _).alloc (Nat.le_refl _) _
      have hp1' := hp1.below hbW
      have hp2' := hp2.below hbW
      have hc2' := fun i c hi => (hbW.cell (p := ⟨g2, o2 + (k * 6 + i), none⟩) (by assumption)).trans (hc2 i c hi)
      have e0 : (wr.alloc (.cells #[.string (mk x.path), .int .i64 x.kind, .int .i64 x.size, .string (mk x.data), .slice sa x.pieces.length sc, .int .i64 x.same] 29)).cell? ⟨g2, o2 + k * 6, none⟩ = some (.string (mk x.path)) := hc2' 0 _ rfl
      have e1 : (wr.alloc (.cells #[.string (mk x.path), .int .i64 x.kind, .int .i64 x.size, .string (mk x.data), .slice sa x.pieces.length sc, .int .i64 x.same] 29)).cell? ⟨g2, o2 + k * 6 + 1, none⟩ = some (.int .i64 x.kind) := hc2' 1 _ rfl
      have e2 : (wr.alloc (.cells #[.string (mk x.path), .int .i64 x.kind, .int .i64 x.size, .string (mk x.data), .slice sa x.pieces.length sc, .int .i64 x.same] 29)).cell? ⟨g2, o2 + k * 6 + 2, none⟩ = some (.int .i64 x.size) := hc2' 2 _ rfl
      have e3 : (wr.alloc (.cells #[.string (mk x.path), .int .i64 x.kind, .int .i64 x.size, .string (mk x.data), .slice sa x.pieces.length sc, .int .i64 x.same] 29)).cell? ⟨g2, o2 + k * 6 + 3, none⟩ = some (.string (mk x.data)) := hc2' 3 _ rfl
      have e4 : (wr.alloc (.cells #[.string (mk x.path), .int .i64 x.kind, .int .i64 x.size, .string (mk x.data), .slice sa x.pieces.length sc, .int .i64 x.same] 29)).cell? ⟨g2, o2 + k * 6 + 4, none⟩ = some s2 := hc2' 4 _ rfl
      have e5 : (wr.alloc (.cells #[.string (mk x.path), .int .i64 x.kind, .int .i64 x.size, .string (mk x.data), .slice sa x.pieces.length sc, .int .i64 x.same] 29)).cell? ⟨g2, o2 + k * 6 + 5, none⟩ = some (.int .i64 x.same) := hc2' 5 _ rfl
      have hq2 := hp2
      obtain ⟨ta, tc, rfl, _⟩ := hq2
      have hB1 := BoxAt.new wr x (.slice sa x.pieces.length sc) 29
      have HZ := Lib.hid (show (wr.alloc (.cells #[.string (mk x.path), .int .i64 x.kind, .int .i64 x.size, .string (mk x.data), .slice sa x.pieces.length sc, .int .i64 x.same] 29)).heap.size = wr.heap.size + 1 by simp)
      have hwW := hnx.trans (hbW.mono hnx.size)
      clear hc1 hc2 hc2' hx hp1 hp2 hA hB
      go_upto_region 7 with fail
      generalize (wr.alloc (.cells #[.string (mk x.path), .int .i64 x.kind, .int .i64 x.size, .string (mk x.data), .slice sa x.pieces.length sc, .int .i64 x.same] 29)) = W at *
      have hbW2 : Below W.heap.size W (W.alloc (.cells #[.string (mk x.path), .int .i64 x.kind, .int .i64 x.size, .string (mk x.data), .slice ta x.pieces.length tc, .int .i64 x.same] 29)) := (Below.refl _ _).alloc (Nat.le_refl _) _
      have hB12 := hB1.below hbW2 (by rw [HZ.out]; omega)
      have hB2 := BoxAt.new W x (.slice ta x.pieces.length tc) 29
      have hp12 := hp1'.below hbW2
      have hp22 := hp2'.below hbW2
      have hwW2 := hwW.trans (hbW2.mono hwW.size)
      clear hp1' hp2' hB1
      go_upto_region 8 with fail
      generalize (W.alloc (.cells #[.string (mk x.path), .int .i64 x.kind, .int .i64 x.size, .string (mk x.data), .slice ta x.pieces.length tc, .int .i64 x.same] 29)) = X at *
      have b0 := hB12 0 _ rfl
      have b1 := hB12 1 _ rfl
      have b2 := hB12 2 _ rfl
      have b3 := hB12 3 _ rfl
      have b4 := hB12 4 _ rfl
      have b5 := hB12 5 _ rfl
      have c0 := hB2 0 _ rfl
      have c1 := hB2 1 _ rfl
      have c2 := hB2 2 _ rfl
      have c3 := hB2 3 _ rfl
      have c4 := hB2 4 _ rfl
      have c5 := hB2 5 _ rfl
      have HC := sameInts_any x.pieces _ _ X hp12 hp22 hsx.many
      clear hp12 hp22 hB12 hB2 hs
      go_wp2_with (go_at_call 15; refine HC.mono ?_; rintro e w5 ⟨rfl, hb5⟩)
      go_roundw
      case rel => exact ⟨k + 1, by omega, by go_num, hwW2.trans (hb5.mono hwW2.size)⟩
      case measure => simp [intOf]; omega
    · go_wp2
      go_ret
      exact ⟨rfl, hnx⟩
end Pw
end Go.Proofs.YtnmgdlmicgbapaaDoor
