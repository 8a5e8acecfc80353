/- The walks of the law's comparisons, where both sides are one list: sameInts, as, kept. -/
import Derived.Test.YtjloonijnbfhhaaDoorPWLent
namespace Go.Proofs.YtjloonijnbfhhaaDoor
open Go.RowKit Go.Maps

namespace Pw
open Pk
theorem sameInts_any (ps : List Int) (a b : Value) (w : World) (ha : IntsAt w a ps) (hb : IntsAt w b ps) (hl : ps.length ≤ 2000000) :
    Calls Tryd.prog 72 #[a, b] w fun e w' => e = .returned (.bool true) ∧ Below w.heap.size w w' := by
  obtain ⟨ao, ca, rfl, _, _, _, hca⟩ := ha
  obtain ⟨bo, cb, rfl, _, _, _, hcb⟩ := hb
  go_enter Tryd.func72, Tryd.ntmps72
  go_wp2
  go_loopw [13] (fun i wr => ∃ k : Nat, k ≤ ps.length ∧ i = .int .i64 k ∧ Below w.heap.size w wr) (fun i _ => ps.length - (intOf i).toNat)
  case atStart => exact ⟨0, Nat.zero_le _, rfl, Below.refl _ _⟩
  case round =>
    obtain ⟨k, hk, rfl, hnx⟩ := hrel
    by_cases hlt : k < ps.length
    · obtain ⟨p, hp⟩ : ∃ p, ps[k]? = some p := ⟨_, List.getElem?_eq_getElem hlt⟩
      obtain ⟨g1, o1, rfl, hg1, hc1⟩ := hca k p hp
      obtain ⟨g2, o2, rfl, hg2, hc2⟩ := hcb k p hp
      have hki : (k : Int) < (ps.length : Int) := by omega
      have e1 := (hnx.cell (p := ⟨g1, o1 + k, none⟩) hg1).trans hc1
      have e2 := (hnx.cell (p := ⟨g2, o2 + k, none⟩) hg2).trans hc2
      clear hca hcb hp hc1 hc2
      go_wp2
      go_quiet (fail)
      go_wp2
      go_roundw
      case rel => exact ⟨k + 1, by omega, by go_num, below_drewN hnx _⟩
      case measure => simp [intOf]; omega
    · go_wp2
      go_ret
      exact ⟨rfl, hnx⟩
set_option maxRecDepth 100000 in
set_option maxHeartbeats 4000000 in
theorem as_any (l : List PItem) (ao bo : Option Addr) (ca cb : Nat) (w : World) (hA : ItemsAt w ao l) (hB : ItemsAt w bo l) (hs : ∀ x ∈ l, Sane x) (hl : l.length ≤ 2000000) :
    Calls Tryd.prog 45 #[.slice ao l.length ca, .slice bo l.length cb] w fun e w' => e = .returned (.bool true) ∧ Below w.heap.size w w' := by
  go_enter Tryd.func45, Tryd.ntmps45
  go_wp2
  go_loopw [15] (fun i wr => ∃ k : Nat, k ≤ l.length ∧ i = .int .i64 k ∧ Below w.heap.size w wr) (fun i _ => l.length - (intOf i).toNat)
  case atStart => exact ⟨0, Nat.zero_le _, rfl, Below.refl _ _⟩
  case round =>
    obtain ⟨k, hk, rfl, hnx⟩ := hrel
    by_cases hlt : k < l.length
    · obtain ⟨x, hx⟩ : ∃ x, l[k]? = some x := ⟨_, List.getElem?_eq_getElem hlt⟩
      have hsx := hs x (List.mem_of_getElem? hx)
      have hki : (k : Int) < (l.length : Int) := by omega
      obtain ⟨g1, o1, s1, rfl, _, hp1, hc1⟩ := (hA.below hnx) k x hx
      obtain ⟨g2, o2, s2, rfl, _, hp2, hc2⟩ := (hB.below hnx) k x hx
      have d0 : wr.cell? ⟨g1, o1 + k * 6, none⟩ = some (.string (mk x.path)) := hc1 0 _ rfl
      have d1 : wr.cell? ⟨g1, o1 + k * 6 + 1, none⟩ = some (.int .i64 x.kind) := hc1 1 _ rfl
      have d2 : wr.cell? ⟨g1, o1 + k * 6 + 2, none⟩ = some (.int .i64 x.size) := hc1 2 _ rfl
      have d3 : wr.cell? ⟨g1, o1 + k * 6 + 3, none⟩ = some (.string (mk x.data)) := hc1 3 _ rfl
      have d4 : wr.cell? ⟨g1, o1 + k * 6 + 4, none⟩ = some s1 := hc1 4 _ rfl
      have d5 : wr.cell? ⟨g1, o1 + k * 6 + 5, none⟩ = some (.int .i64 x.same) := hc1 5 _ rfl
      have hq1 := hp1
      obtain ⟨sa, sc, rfl, _⟩ := hq1
      have hbW : Below wr.heap.size wr (wr.alloc (.cells #[.string (mk x.path), .int .i64 x.kind, .int .i64 x.size, .string (mk x.data), .slice sa x.pieces.length sc, .int .i64 x.same] 57)) := (Below.refl _ _).alloc (Nat.le_refl _) _
      have hp1' := hp1.below hbW
      have hp2' := hp2.below hbW
      have hc2' := fun i c hi => (hbW.cell (p := ⟨g2, o2 + (k * 6 + i), none⟩) (by assumption)).trans (hc2 i c hi)
      have e0 : (wr.alloc (.cells #[.string (mk x.path), .int .i64 x.kind, .int .i64 x.size, .string (mk x.data), .slice sa x.pieces.length sc, .int .i64 x.same] 57)).cell? ⟨g2, o2 + k * 6, none⟩ = some (.string (mk x.path)) := hc2' 0 _ rfl
      have e1 : (wr.alloc (.cells #[.string (mk x.path), .int .i64 x.kind, .int .i64 x.size, .string (mk x.data), .slice sa x.pieces.length sc, .int .i64 x.same] 57)).cell? ⟨g2, o2 + k * 6 + 1, none⟩ = some (.int .i64 x.kind) := hc2' 1 _ rfl
      have e2 : (wr.alloc (.cells #[.string (mk x.path), .int .i64 x.kind, .int .i64 x.size, .string (mk x.data), .slice sa x.pieces.length sc, .int .i64 x.same] 57)).cell? ⟨g2, o2 + k * 6 + 2, none⟩ = some (.int .i64 x.size) := hc2' 2 _ rfl
      have e3 : (wr.alloc (.cells #[.string (mk x.path), .int .i64 x.kind, .int .i64 x.size, .string (mk x.data), .slice sa x.pieces.length sc, .int .i64 x.same] 57)).cell? ⟨g2, o2 + k * 6 + 3, none⟩ = some (.string (mk x.data)) := hc2' 3 _ rfl
      have e4 : (wr.alloc (.cells #[.string (mk x.path), .int .i64 x.kind, .int .i64 x.size, .string (mk x.data), .slice sa x.pieces.length sc, .int .i64 x.same] 57)).cell? ⟨g2, o2 + k * 6 + 4, none⟩ = some s2 := hc2' 4 _ rfl
      have e5 : (wr.alloc (.cells #[.string (mk x.path), .int .i64 x.kind, .int .i64 x.size, .string (mk x.data), .slice sa x.pieces.length sc, .int .i64 x.same] 57)).cell? ⟨g2, o2 + k * 6 + 5, none⟩ = some (.int .i64 x.same) := hc2' 5 _ rfl
      have hq2 := hp2
      obtain ⟨ta, tc, rfl, _⟩ := hq2
      have hB1 := BoxAt.new wr x (.slice sa x.pieces.length sc) 57
      have HZ := Lib.hid (show (wr.alloc (.cells #[.string (mk x.path), .int .i64 x.kind, .int .i64 x.size, .string (mk x.data), .slice sa x.pieces.length sc, .int .i64 x.same] 57)).heap.size = wr.heap.size + 1 by simp)
      have hwW := hnx.trans (hbW.mono hnx.size)
      clear hc1 hc2 hc2' hx hp1 hp2 hA hB
      go_upto_region 7 with fail
      generalize (wr.alloc (.cells #[.string (mk x.path), .int .i64 x.kind, .int .i64 x.size, .string (mk x.data), .slice sa x.pieces.length sc, .int .i64 x.same] 57)) = W at *
      have hbW2 : Below W.heap.size W (W.alloc (.cells #[.string (mk x.path), .int .i64 x.kind, .int .i64 x.size, .string (mk x.data), .slice ta x.pieces.length tc, .int .i64 x.same] 90)) := (Below.refl _ _).alloc (Nat.le_refl _) _
      have hB12 := hB1.below hbW2 (by rw [HZ.out]; omega)
      have hB2 := BoxAt.new W x (.slice ta x.pieces.length tc) 90
      have hp12 := hp1'.below hbW2
      have hp22 := hp2'.below hbW2
      have hwW2 := hwW.trans (hbW2.mono hwW.size)
      clear hp1' hp2' hB1
      go_upto_region 8 with fail
      generalize (W.alloc (.cells #[.string (mk x.path), .int .i64 x.kind, .int .i64 x.size, .string (mk x.data), .slice ta x.pieces.length tc, .int .i64 x.same] 90)) = X at *
      have b0 := hB12 0 _ rfl
      have b1 := hB12 1 _ rfl
      have b2 := hB12 2 _ rfl
      have b3 := hB12 3 _ rfl
      have b4 := hB12 4 _ rfl
      have b5 := hB12 5 _ rfl
      have c0 := hB2 0 _ rfl
      have c1 := hB2 1 _ rfl
      have c2 := hB2 2 _ rfl
      have c3 := hB2 3 _ rfl
      have c4 := hB2 4 _ rfl
      have c5 := hB2 5 _ rfl
      have HC := sameInts_any x.pieces _ _ X hp12 hp22 hsx.many
      clear hp12 hp22 hB12 hB2 hs
      go_wp2_with (go_at_call 72; refine HC.mono ?_; rintro e w5 ⟨rfl, hb5⟩)
      go_roundw
      case rel => exact ⟨k + 1, by omega, by go_num, hwW2.trans (hb5.mono hwW2.size)⟩
      case measure => simp [intOf]; omega
    · go_wp2
      go_ret
      exact ⟨rfl, hnx⟩
theorem Lent.at_ {w0 W : World} {v : Value} {l : List PItem} (h : Lent w0 W v l) : ∃ g cap, v = .slice (some ⟨g, 0, none⟩) l.length cap ∧ l.length + 1 ≤ cap ∧ cap ≤ 9223372036854775807 ∧ ItemsAt W (some ⟨g, 0, none⟩) l ∧ W.cell? ⟨g, l.length * 6, none⟩ = some (.string (mk [109, 97, 114, 107])) ∧
    ∀ (j : Nat) x, l[j]? = some x → ∃ g3 c3, W.cell? ⟨g, j * 6 + 4, none⟩ = some (.slice (some ⟨g3, 0, none⟩) x.pieces.length c3) ∧ x.pieces.length + 1 ≤ c3 ∧ c3 ≤ 9223372036854775807 ∧ g3 < W.heap.size ∧ W.cell? ⟨g3, x.pieces.length, none⟩ = some (.int .i64 (-77)) := by
  obtain ⟨g, cap, sls, rfl, hcap, hown, hlen, hints, _⟩ := h
  obtain ⟨g', cap', e, _, hgl, _, hm, hc, _⟩ := own_at hown (by omega)
  cases e
  have hrl : (rowC l sls).length = l.length * 6 := by
    have := hown.1
    rw [List.length_append, itemC_len] at this
    omega
  have hcell : ∀ (j : Nat) x, l[j]? = some x → ∃ s, sls[j]? = some s ∧ ∀ i c, (itemC x s)[i]? = some c → W.cell? ⟨g, j * 6 + i, none⟩ = some c := by
    intro j x hx
    have hjl := (List.getElem?_eq_some_iff.1 hx).1
    obtain ⟨s, hsj⟩ : ∃ s, sls[j]? = some s := ⟨_, List.getElem?_eq_getElem (by omega)⟩
    refine ⟨s, hsj, fun i c hi => ?_⟩
    have h6 : i < 6 := (List.getElem?_eq_some_iff.1 hi).1
    rw [hc (j * 6 + i) (by omega), List.getElem?_append_left (by omega)]
    exact rowC_get l sls j x s hx hsj i c hi
  refine ⟨g, cap, rfl, hcap, hm, fun j x hx => ?_, ?_, fun j x hx => ?_⟩
  · obtain ⟨s, hsj, hcs⟩ := hcell j x hx
    exact ⟨g, 0, s, rfl, hgl, (hints j x s hx hsj).at_, fun i c hi => by rw [Nat.zero_add]; exact hcs i c hi⟩
  · rw [hc (l.length * 6) (by omega), List.getElem?_append_right (by omega), hrl, Nat.sub_self]
    rfl
  · obtain ⟨s, hsj, hcs⟩ := hcell j x hx
    obtain ⟨p, rfl, hp⟩ := hints j x s hx hsj
    have hpl : (x.pieces ++ [-77]).length = x.pieces.length + 1 := by rw [List.length_append, List.length_singleton]
    obtain ⟨g3, c3, rfl, _, hg3, hn3, hm3, hcc, _⟩ := own_at hp (by omega)
    refine ⟨g3, c3, hcs 4 _ rfl, by omega, hm3, hg3, ?_⟩
    rw [hcc x.pieces.length (by omega)]
    unfold intV
    rw [List.getElem?_map, List.getElem?_append_right (Nat.le_refl _), Nat.sub_self]
    rfl
set_option maxRecDepth 100000 in
set_option maxHeartbeats 2000000 in
theorem kept_any (w0 w : World) (l : List PItem) (mv : Value) (ao : Option Addr) (cap : Nat) (hM : Lent w0 w mv l) (hI : ItemsAt w ao l) (hs : ∀ x ∈ l, Sane x) (hl : l.length ≤ 2000000) :
    Calls Tryd.prog 26 #[mv, .slice ao l.length cap] w fun e w' => e = .returned (.bool true) ∧ Below w.heap.size w w' := by
  obtain ⟨g, cm, rfl, hcm, hcm2, hMI, hmk, hp⟩ := hM.at_
  have HR := ref_any l ao cap w hI hs hl
  have hgl : g < w.heap.size := World.block_lt_of_cell? _ _ hmk
  have hni : (l.length : Int) + 1 ≤ (cm : Int) := by omega
  have emk := mk_toList [109, 97, 114, 107]
  clear hM hI
  go_enter Tryd.func26, Tryd.ntmps26
  go_wp2_with fail
  refine HR.mono ?_
  rintro e w1 ⟨v1, sls, rfl, hO⟩
  obtain ⟨ro, rc, rfl, hR⟩ := hO.at_
  have HA := as_any l (some ⟨g, 0, none⟩) ro cm rc w1 (hMI.below hO.below) hR hs hl
  go_wp2_with fail
  refine HA.mono ?_
  rintro e w2 ⟨rfl, hb2⟩
  have hb : Below w.heap.size w w2 := hO.below.trans (hb2.mono hO.below.size)
  have hmk2 := (hb.cell (p := ⟨g, l.length * 6, none⟩) hgl).trans hmk
  clear HA HR hO hR hb2 hMI hmk
  go_wp2
  go_loopw [27] (fun i wr => ∃ k : Nat, k ≤ l.length ∧ i = .int .i64 k ∧ Below w.heap.size w wr) (fun i _ => l.length - (intOf i).toNat)
  case atStart => exact ⟨0, Nat.zero_le _, rfl, hb⟩
  case round =>
    obtain ⟨k, hk, rfl, hnx⟩ := hrel
    by_cases hlt : k < l.length
    · obtain ⟨x, hx⟩ : ∃ x, l[k]? = some x := ⟨_, List.getElem?_eq_getElem hlt⟩
      have hmany := (hs x (List.mem_of_getElem? hx)).many
      obtain ⟨g3, c3, h4, hn3, hm3, hg3, hmk3⟩ := hp k x hx
      have hki : (k : Int) < (l.length : Int) := by omega
      have e4 := (hnx.cell (p := ⟨g, k * 6 + 4, none⟩) hgl).trans h4
      have e5 := (hnx.cell (p := ⟨g3, x.pieces.length, none⟩) hg3).trans hmk3
      have hn3i : (x.pieces.length : Int) + 1 ≤ (c3 : Int) := by omega
      clear hp hx h4 hmk3 hs hmk2
      go_wp2
      go_roundw
      case rel => exact ⟨k + 1, by omega, by go_num, hnx⟩
      case measure => simp [intOf]; omega
    · go_wp2
      go_ret
      exact ⟨rfl, hnx⟩
end Pw
end Go.Proofs.YtjloonijnbfhhaaDoor
