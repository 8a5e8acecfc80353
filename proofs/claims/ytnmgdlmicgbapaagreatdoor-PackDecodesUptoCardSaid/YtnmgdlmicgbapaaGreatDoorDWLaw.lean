/- The walk of the statement PackDecodes. -/
import Derived.Test.YtnmgdlmicgbapaaGreatDoorDWMark
import Derived.Test.YtnmgdlmicgbapaaGreatDoorDWPDec
import Derived.Laws.Rows
import Derived.Deep.RegionHeld3
namespace Go.Proofs.YtnmgdlmicgbapaaGreatDoor
open Go.RowKit Go.Maps

namespace Pw
open Pk
theorem Marks.lt {W : World} {B : Nat} {va : Value} {rs : List Value} {m : Int} (h : Marks W B va rs m) : ∀ g, Foot va rs g → g < W.heap.size := by
  intro g hg
  rcases hg with e | ⟨s, hs, e⟩
  · exact (h.own.lt g e).2
  · obtain ⟨n, _, hI⟩ := h.each s hs
    exact (hI.own.lt g e).2
theorem seen_own {w : World} {base g cap n : Nat} {l : List UInt8} (h : w.ownsRow base 5 1 (.slice (some ⟨g, 0, none⟩) n cap) n (bytesV l)) : BytesSeen w (some ⟨g, 0, none⟩) l := by
  intro j c hj
  have hl := (List.getElem?_eq_some_iff.1 hj).1
  have hn : (bytesV l).length = n * 1 := h.1
  rw [bytesV_len] at hn
  have hgl := (h.lt g rfl).2
  refine ⟨g, 0, rfl, hgl, ?_⟩
  rw [Nat.zero_add, h.cellAt j (by omega)]
  unfold bytesV
  rw [List.getElem?_map, hj]; rfl
theorem BytesSeen.take {w : World} {ao : Option Addr} {l r : List UInt8} (h : BytesSeen w ao (l ++ r)) : BytesSeen w ao l := by
  intro j c hj
  have hl := (List.getElem?_eq_some_iff.1 hj).1
  exact h j c (by rw [List.getElem?_append_left hl]; exact hj)
theorem add101 (c : UInt8) : IntKind.u8.wrap ((c.toNat : Int) + 101) = ((c + 101).toNat : Int) := by
  rw [IntKind.wrap_u8]
  have := c.toNat_lt
  rw [UInt8.toNat_add]
  show ((c.toNat : Int) + 101) % 256 = ((c.toNat + 101) % 256 : Nat)
  omega
/-- The bytes, the first k of them shifted. -/
def shift (l : List UInt8) (k : Nat) : List UInt8 := (l.take k).map (· + 101) ++ l.drop k
theorem shift_get (l : List UInt8) (k : Nat) (c : UInt8) (h : l[k]? = some c) : (bytesV (shift l k))[k]? = some (.int .u8 c.toNat) := by
  have hk := (List.getElem?_eq_some_iff.1 h).1
  unfold bytesV shift
  rw [List.getElem?_map, List.getElem?_append_right (by simp; omega)]
  simp only [List.length_map, List.length_take, Nat.min_eq_left (Nat.le_of_lt hk), Nat.sub_self, List.getElem?_drop, Nat.add_zero, h]
  rfl
theorem shift_next (l : List UInt8) (k : Nat) (c : UInt8) (h : l[k]? = some c) : (bytesV (shift l k)).set k (.int .u8 ((c + 101).toNat)) = bytesV (shift l (k + 1)) := by
  obtain ⟨hk, he⟩ := List.getElem?_eq_some_iff.1 h
  unfold bytesV shift
  rw [List.take_add_one, h, List.map_append, List.set_append_right _ _ (by simp; omega), List.drop_eq_getElem_cons hk, he]
  simp only [List.map_cons, List.length_map, List.length_take, Nat.min_eq_left (Nat.le_of_lt hk), Nat.sub_self, List.set_cons_zero, Option.toList_some, List.map_append, List.map_nil, List.append_assoc, List.cons_append, List.nil_append]
theorem shift_all (l : List UInt8) (k : Nat) (h : l.length ≤ k) : shift l k = l.map (· + 101) := by
  unfold shift; rw [List.take_of_length_le h, List.drop_eq_nil_of_le h, List.append_nil]
theorem shift_zero (l : List UInt8) : shift l 0 = l := by simp [shift]
set_option maxRecDepth 100000 in
set_option maxHeartbeats 8000000 in
theorem packDecodes_any (b : List UInt8) (ao : Option Addr) (ca : Nat) (w : World) (hs : BytesSeen w ao b) (hnil : ao = none → b.length = 0 ∧ ca = 0) (hca : b.length ≤ ca ∧ ca ≤ 9223372036854775807) (hbl : b.length ≤ 1900000) (ht : Tabs w) :
    Calls Tryz.prog 3 #[.slice ao b.length ca] w fun e w' => e = .returned (.bool true) ∧ Below w.heap.size w w' := by
  obtain ⟨i0, hi0, hz0, hz1, hz2⟩ := info_parts byT.info
  obtain ⟨hsn, hll⟩ := ans_some (b := b) (by omega)
  have hll2 : (ansL b).length ≤ 2000000 := by omega
  have HD1 := ddecode_any b ao ca w hs hnil hca (by omega)
  go_enter Tryz.func3, Tryz.ntmps3
  go_wp2_with fail
  refine HD1.mono ?_
  rintro e w1 ⟨v1, sls1, rfl, hD, _⟩
  have hb1 := hD.below
  have hfD := hD.foot
  have hDi := hD.its
  have hs1 := hs.below hb1
  clear HD1 hD
  -- the copy
  go_upto_region 5 with (first
    | (at_builtin; refine wpList_append_any _ rfl (.tmp 22) (.tmp 23) 22 rfl w1.heap.size 5 i0 (.int .u8 0) 1 1 Tryz.underlying22 hi0 hz0 hz1 hz2 rfl (by decide) (.slice none 0 0) 0 [] rfl (World.ownsRow_nil _ _ _ _) ao b.length ca (bytesV b) rfl hnil (by rw [bytesV_len, Nat.mul_one]) (fun ad e j u hj => by subst e; unfold bytesV at hj; rw [List.getElem?_map, Option.map_eq_some_iff] at hj; obtain ⟨c, hc, rfl⟩ := hj; obtain ⟨g, o, e2, _, h2⟩ := hs1 j c hc; cases e2; rw [Addr.add_lit]; exact h2) (bytesV_one b) (by unfold maxLen; omega) (by omega) (Nat.le_refl _) ?_; intro v2 w2 ho2 hg2 _; simp only [Nat.zero_add, List.nil_append] at ho2; obtain ⟨v2a, v2c, rfl⟩ := own_form ho2; have hbs2 := hg2.size)
    | (at_builtin; refine wpList_append_own_at _ rfl (.tmp 25) (.tmp 26) 22 rfl w1.heap.size 5 i0 (.int .u8 0) 1 1 Tryz.underlying22 hi0 hz0 hz1 hz2 rfl (by decide) _ _ _ rfl (ho2.alloc _) ⟨w2.heap.size, 0, none⟩ 1 1 (bytesV [165]) rfl rfl (news_new _ _ _) (bytesV_one [165]) (by unfold maxLen; omega) (by omega) (by rw [World.size_alloc]; omega) ?_; intro v3 w3 ho3 hg3 _ _))
  obtain ⟨fg, fc, e3, hfg1, hfg3, hfcn, hfcm, _, _⟩ := own_at ho3 (by omega)
  cases e3
  rw [← bytesV_app] at ho3
  have hg13 : w1.grownBy w3 none := by
    refine ⟨hg3.os.trans hg2.os, hg3.tape.trans hg2.tape, hg3.output.trans hg2.output, ?_, fun i hi _ => ?_⟩
    · have := hg3.size; rw [World.size_alloc] at this; omega
    · refine (hg3.block i (by rw [World.size_alloc]; omega) (fun e => ?_)).trans ((((Below.refl _ _).alloc (Nat.le_refl _) _ : Below w2.heap.size w2 (w2.alloc _)).block i (by omega)).trans (hg2.block i hi (by simp [Value.ownBlock])))
      have := (ho2.lt i e.symm).1
      omega
  have hb13 : Below w1.heap.size w1 w3 := grown_none hg13 rfl
  have hb3 : Below w.heap.size w w3 := hb1.trans (hb13.mono hb1.size)
  have hz3 := hb13.size
  clear hg2 hg3 ho2 hg13
  have hS3 := BytesSeen.take (seen_own ho3)
  have hfci : ((b.length : Nat) : Int) ≤ (fc : Int) := by omega
  -- two answers
  have HX := pdecode_any b (some ⟨fg, 0, none⟩) fc w3 hS3 (fun e => by cases e) ⟨by omega, hfcm⟩ (by omega) (ht.all hb3)
  go_wp2_with fail
  refine HX.mono ?_
  rintro e w4 ⟨vx, slsx, rfl, hX, hAx⟩
  have hb34 := hX.below
  have hb4 : Below w.heap.size w w4 := hb3.trans (hb34.mono hb3.size)
  have hz4 := hb34.size
  have hfX := hX.foot
  have hXi := hX.its
  have HY := pdecode_any b (some ⟨fg, 0, none⟩) fc w4 (hS3.below hb34) (fun e => by cases e) ⟨by omega, hfcm⟩ (by omega) (ht.all hb4)
  clear HX hX
  go_upto_region 7 with (go_at_call 5; refine HY.mono ?_; rintro e w5 ⟨vy, slsy, rfl, hY, hAy⟩)
  have hb45 := hY.below
  have hb5 : Below w.heap.size w w5 := hb4.trans (hb45.mono hb4.size)
  have hz5 := hb45.size
  have hfY := hY.foot
  have hYi := hY.its
  clear HY hY
  have hb35 : Below w3.heap.size w3 w5 := hb34.trans (hb45.mono hz4)
  have hb15 : Below w1.heap.size w1 w5 := hb13.trans (hb35.mono hz3)
  have hX5 := hXi.heap (fun g hg => hb45.block g (hfX g hg).2)
  have hD5 := hDi.heap (fun g hg => hb15.block g (hfD g hg).2)
  have ho5 := own_heap ho3 (fun g e => hb35.block g (by cases e; exact hfg3))
  obtain ⟨d1, dc, rfl, hDA⟩ := hD5.at_
  obtain ⟨x1, xc, rfl, hXA⟩ := hX5.at_
  obtain ⟨y1, yc, rfl, hYA⟩ := hYi.at_
  have HA1 := fun W (h : Below w5.heap.size w5 W) => as_any (ansL b) x1 d1 xc dc W (hXA.below h) (hDA.below h) hsn hll2
  have HA2 := fun W (h : Below w5.heap.size w5 W) => as_any (ansL b) y1 d1 yc dc W (hYA.below h) (hDA.below h) hsn hll2
  have hq : ∀ W, Below w5.heap.size w5 W → W.cell? ⟨fg, b.length, none⟩ = some (.int .u8 165) := fun W h => by
    refine (h.cell (p := ⟨fg, b.length, none⟩) (by show fg < _; omega)).trans ?_
    rw [ho5.cellAt b.length (by omega)]
    unfold bytesV
    rw [List.getElem?_map, List.getElem?_append_right (Nat.le_refl _), Nat.sub_self]
    rfl
  have hkF := fun W (h : Below w5.heap.size w5 W) => run_string_seen byT Tryz.underlying9 W (some ⟨fg, 0, none⟩) b fc ((BytesSeen.take (seen_own ho5)).below h) (fun e => by cases e)
  have hkB := fun W (h : Below w5.heap.size w5 W) => run_string_seen byT Tryz.underlying9 W ao b ca (hs.below (hb5.trans (h.mono hb5.size))) hnil
  have hb5d : Below w5.heap.size w5 w5.drew := (Below.refl _ _).drew
  have q0 := hq w5 (Below.refl _ _)
  have Hq := Lib.hid hq
  have HkF := Lib.hid hkF
  have HkB := Lib.hid hkB
  have hbi : ((b.length : Nat) : Int) < ((b.length : Nat) : Int) + 1 := by omega
  have kF0 := hkF w5.drew hb5d
  have kB0 := hkB w5.drew hb5d
  clear hq hkF hkB hDA hXA hYA
  go_region_held3 (fun w' => w'.cell? ⟨fg, b.length, none⟩ = some (.int .u8 165) ∧ (convert 22 9 (.slice (some ⟨fg, 0, none⟩) b.length fc)).run Tryz.prog w' = .ok (.string (mk b)) w' ∧ (convert 22 9 (.slice ao b.length ca)).run Tryz.prog w' = .ok (.string (mk b)) w') (exact ⟨by first | assumption | simpa using q0, by assumption, by assumption⟩) ((first | (go_at_call 6; refine (HA2 w6 hb56).mono ?_; rintro e w7 ⟨rfl, hb67⟩; have hb57 : Below w5.heap.size w5 w7 := (hb56.trans (hb67.mono hb56.size)); have q7 := Hq.out w7 hb57; have kF := HkF.out w7 hb57; have kB := HkB.out w7 hb57) | (go_at_call 6; refine (HA1 _ hb5d).mono ?_; rintro e w6 ⟨rfl, hb6⟩; have hb56 : Below w5.heap.size w5 w6 := hb5d.trans (hb6.mono (Nat.le_refl _)); have q6 := Hq.out w6 hb56; have kF6 := HkF.out w6 hb56; have kB6 := HkB.out w6 hb56)))
  have hb7 : Below w.heap.size w w7 := hb5.trans (hb57.mono hb5.size)
  have hz7 := hb57.size
  have ho7 := own_heap ho5 (fun g e => hb57.block g (by cases e; show fg < _; omega))
  clear kF kB kF0 kB0 kF6 kB6 q7 q6 q0 Hq HkF HkB HA1 HA2 hb56 hb67 hb6 hb5d ho3 hS3 hs1
  rw [← shift_zero (b ++ [165])] at ho7
  have hBl : (b ++ [165]).length = b.length + 1 := by rw [List.length_append]; rfl
  have HBl := Lib.hid hBl
  clear hBl
  go_wp2_with fail
  go_loopw [84] (fun iv wr => ∃ k : Nat, k ≤ b.length + 1 ∧ iv = .int .i64 k ∧ wr.ownsRow w1.heap.size 5 1 (.slice (some ⟨fg, 0, none⟩) (b.length + 1) fc) (b.length + 1) (bytesV (shift (b ++ [165]) k)) ∧ w7.grownBy wr (some fg)) (fun i _ => b.length + 1 - (intOf i).toNat)
  case atStart => exact ⟨0, Nat.zero_le _, rfl, ho7, World.grownBy.refl _ _⟩
  case round =>
    obtain ⟨k, hk, rfl, hO, hg78⟩ := hrel
    clear ho7
    by_cases hlt : k < b.length + 1
    · obtain ⟨c, hc⟩ : ∃ c, (b ++ [165])[k]? = some c := ⟨_, List.getElem?_eq_getElem (by rw [HBl.out]; exact hlt)⟩
      have hki : (k : Int) < ((b.length : Nat) : Int) + 1 := by omega
      obtain ⟨g6, c6, e6, _, _, _, _, hcell, hfz⟩ := own_at hO (by omega)
      cases e6
      have q := (hcell k (by omega)).trans (shift_get (b ++ [165]) k c hc)
      have f := hfz k
      have hw := add101 c
      have hO2 := own_setS (i := k) hO (.int .u8 ((c + 101).toNat))
      rw [shift_next _ _ _ hc] at hO2
      have hG2 := hg78.trans (grown_set wr fg k (.int .u8 ((c + 101).toNat)))
      clear hcell hfz hO hc
      generalize (c + 101).toNat = c2 at *
      go_wp2_with fail
      go_roundw
      case rel => exact ⟨k + 1, by omega, by go_num, hO2, hG2⟩
      case measure => simp [intOf]; omega
    · obtain rfl : k = b.length + 1 := by omega
      rw [shift_all _ _ (by rw [HBl.out]; exact Nat.le_refl _), List.map_append] at hO
      have hzr := hg78.size
      have hb8 : Below w.heap.size w wr := hb7.grown hg78 hb7.size (fun j e => by cases e; have := hb1.size; omega)
      have hX8 := hX5.heap (fun g hg => (hg78.block g (by have := (hfX g hg).2; omega) (fun e => by cases e; have := (hfX _ hg).1; omega)).trans (hb57.block g (by have := (hfX g hg).2; omega)))
      have hY8 := hYi.heap (fun g hg => (hg78.block g (by have := (hfY g hg).2; omega) (fun e => by cases e; have := (hfY _ hg).1; omega)).trans (hb57.block g (by have := (hfY g hg).2; omega)))
      have hD8 := hD5.heap (fun g hg => (hg78.block g (by have := (hfD g hg).2; omega) (fun e => by cases e; have := (hfD _ hg).2; omega)).trans (hb57.block g (by have := (hfD g hg).2; omega)))
      have hM1 := marked_any wr w3.heap.size w4.heap.size _ (ansL b) slsx (-5) hX8 hAx hfX (by omega) (by omega) hsn hll2
      clear hX8 hX5 hXi hD5 hDi hYi hg78
      go_wp2_with fail
      refine hM1.mono ?_
      rintro e w9 ⟨va1, rs1, rfl, hMa, hra, hka, hfa⟩
      have hz9 := hka.size
      have hb9 : Below w.heap.size w w9 := hka.below hb8 (by have := hb3.size; omega) hb8.size (Nat.le_refl _)
      have hY9 := hY8.heap (fun g hg => hka.block g (by have := (hfY g hg).2; omega) (.inr (hfY g hg).1))
      have hD9 := hD8.heap (fun g hg => hka.block g (by have := (hfD g hg).2; omega) (.inl (by have := (hfD g hg).2; omega)))
      have hO9 := own_heap hO (fun g e => hka.block g (by cases e; show fg < _; omega) (.inl (by cases e; show fg < _; omega)))
      obtain ⟨d9, dc9, ed, hDA⟩ := hD9.at_
      cases ed
      obtain ⟨y9, yc9, ey, hYA⟩ := hY9.at_
      cases ey
      have HA := as_any (ansL b) y1 d1 yc dc w9 hYA hDA hsn hll2
      clear hM1 hY8 hD8 hD9 hO hDA hYA
      go_wp2_with fail
      refine HA.mono ?_
      rintro e w10 ⟨rfl, hb910⟩
      have hz10 := hb910.size
      have hb10 : Below w.heap.size w w10 := hb9.trans (hb910.mono hb9.size)
      have hY10 := hY9.heap (fun g hg => hb910.block g (by have := (hfY g hg).2; omega))
      have hM2 := marked_any w10 w4.heap.size w5.heap.size _ (ansL b) slsy (-6) hY10 hAy hfY (by omega) (by omega) hsn hll2
      clear HA hY9 hY10
      go_wp2_with fail
      refine hM2.mono ?_
      rintro e w11 ⟨va2, rs2, rfl, hMb, hrb, hkb, hfb⟩
      have hz11 := hkb.size
      have hb11 : Below w.heap.size w w11 := hkb.below hb10 (by have := hb4.size; omega) hb10.size (Nat.le_refl _)
      have hO11 := own_heap hO9 (fun g e => (hkb.block g (by cases e; show fg < _; omega) (.inl (by cases e; show fg < _; omega))).trans (hb910.block g (by cases e; show fg < _; omega)))
      have hMa11 := hMa.heap (fun g hg => (hkb.block g (by have := hMa.lt g hg; omega) (by rcases hfa g hg with h | h <;> omega)).trans (hb910.block g (hMa.lt g hg)))
      have hla := hMa.lt
      have hS11 := BytesSeen.take (seen_own hO11)
      have hlb : (b.map (· + 101)).length = b.length := List.length_map _
      have HLb := Lib.hid hlb
      have hrl : b.length + 1 ≤ fc := hfcn
      clear hM2 hMa hO9 hO11 hlb
      generalize hbb : b.map (· + 101) = b2 at *
      clear hbb
      have HN := pdecode_any b2 (some ⟨fg, 0, none⟩) fc w11 hS11 (fun e => by cases e) ⟨by rw [HLb.out]; omega, hfcm⟩ (by rw [HLb.out]; omega) (ht.all hb11)
      rw [HLb.out] at HN
      obtain ⟨hsn2, hlm⟩ := ans_some (b := b2) (by rw [HLb.out]; omega)
      have hlm2 : (ansL b2).length ≤ 2000000 := by rw [HLb.out] at hlm; omega
      clear hlm
      go_wp2_with fail
      refine HN.mono ?_
      rintro e w12 ⟨vn, slsn, rfl, hN, _⟩
      have hbN := hN.below
      have hb12 : Below w.heap.size w w12 := hb11.trans (hbN.mono hb11.size)
      have hz12 := hbN.size
      have hNi := hN.its
      have hfN := hN.foot
      have HT := ddecode_any b2 (some ⟨fg, 0, none⟩) fc w12 (hS11.below hbN) (fun e => by cases e) ⟨by rw [HLb.out]; omega, hfcm⟩ (by rw [HLb.out]; omega)
      rw [HLb.out] at HT
      clear HN hN hS11
      go_wp2_with fail
      refine HT.mono ?_
      rintro e w13 ⟨vt, slst, rfl, hT, _⟩
      have hbT := hT.below
      have hb13' : Below w.heap.size w w13 := hb12.trans (hbT.mono hb12.size)
      have hz13 := hbT.size
      have hTi := hT.its
      have hN13 := hNi.heap (fun g hg => hbT.block g (hfN g hg).2)
      have hMa13 := hMa11.heap (fun g hg => (hbT.block g (by have := hla g hg; omega)).trans (hbN.block g (by have := hla g hg; omega)))
      have hMb13 := hMb.heap (fun g hg => (hbT.block g (by have := hMb.lt g hg; omega)).trans (hbN.block g (hMb.lt g hg)))
      have HB1 := bears_any w13 _ va1 rs1 (-5) hMa13 (by omega)
      have HB2 := bears_any w13 _ va2 rs2 (-6) hMb13 (by omega)
      obtain ⟨n1, nc, rfl, hNA⟩ := hN13.at_
      obtain ⟨t1, tc, rfl, hTA⟩ := hTi.at_
      have HA := as_any (ansL b2) n1 t1 nc tc w13 hNA hTA hsn2 hlm2
      clear HT hT hMa11 hMb hMa13 hMb13 hNA hTA hN13 hTi hNi
      go_wp2_with (first | (go_at_call 6; refine HA.mono ?_; rintro e w14 ⟨rfl, hb14⟩) | (go_at_call 8; ((with_reducible refine HB2.mono ?_); rintro e w' ⟨rfl, rfl⟩)) | (go_at_call 8; ((with_reducible refine HB1.mono ?_); rintro e w' ⟨rfl, rfl⟩)))
      go_ret
      exact ⟨by simp, hb13'.trans (hb14.mono hb13'.size)⟩
end Pw
end Go.Proofs.YtnmgdlmicgbapaaGreatDoor
