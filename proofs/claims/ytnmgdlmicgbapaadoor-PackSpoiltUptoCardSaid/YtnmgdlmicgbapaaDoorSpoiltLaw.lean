/- The walk of the statement PackSpoilt. -/
import Derived.Test.YtnmgdlmicgbapaaDoorPAnsE
import Derived.Test.YtnmgdlmicgbapaaDoorSame
import Derived.Test.YtnmgdlmicgbapaaDoorSpoilt
import Derived.Test.YtnmgdlmicgbapaaDoorBRow
import Derived.Test.YtnmgdlmicgbapaaDoorDWPDec
import Derived.Deep.RegionHeld3
namespace Go.Proofs.YtnmgdlmicgbapaaDoor
open Go.RowKit Go.Maps

namespace Pw
open Pk
theorem xor8 (c x : UInt8) : bits .xor .u8 (c.toNat : Int) (x.toNat : Int) = ((c ^^^ x).toNat : Int) := by
  rw [Go.u8_xor_nat _ _ c.toNat_lt x.toNat_lt, UInt8.toNat_xor]
theorem seen_own {w : World} {base g cap n : Nat} {l : List UInt8} (h : w.ownsRow base 5 1 (.slice (some ⟨g, 0, none⟩) n cap) n (bytesV l)) : BytesSeen w (some ⟨g, 0, none⟩) l := by
  intro j c hj
  have hl := (List.getElem?_eq_some_iff.1 hj).1
  have hn : (bytesV l).length = n * 1 := h.1
  rw [bytesV_len] at hn
  have hgl := (h.lt g rfl).2
  refine ⟨g, 0, rfl, hgl, ?_⟩
  rw [Nat.zero_add, h.cellAt j (by omega)]
  unfold bytesV
  rw [List.getElem?_map, hj]; rfl
theorem BytesSeen.take' {w : World} {ao : Option Addr} {l : List UInt8} (h : BytesSeen w ao l) (k : Nat) : BytesSeen w ao (l.take k) := by
  intro j c hj
  have hl := (List.getElem?_eq_some_iff.1 hj).1
  rw [List.length_take] at hl
  rw [List.getElem?_take_of_lt (by omega)] at hj
  exact h j c hj
theorem seen_src {P : Program} {S e' : TypeId} (hk : P.underlying S = some (.slice e')) {W : World} {ao : Option Addr} {k : List UInt8} {c : Nat} (h : BytesSeen W ao k) (hn : ao = none → k.length = 0 ∧ c = 0) : Src P 1 S (.slice ao k.length c) k.length (bytesV k) W := by
  cases ao with
  | none =>
    obtain ⟨h0, rfl⟩ := hn rfl
    have : k = [] := List.length_eq_zero_iff.1 h0
    subst this
    exact Src.ofNil _ hk 0
  | some a =>
    refine Src.ofSlice _ hk a k.length c (bytesV k) (by rw [bytesV_len, Nat.mul_one]) (fun j u hu => ?_) (bytesV_one k)
    unfold bytesV at hu
    rw [List.getElem?_map, Option.map_eq_some_iff] at hu
    obtain ⟨x, hx, rfl⟩ := hu
    obtain ⟨g, o, e, _, hc⟩ := h j x hx
    cases e
    rw [Addr.add_lit]
    exact hc
theorem brow_seen {base g cap : Nat} {w : World} {l : List UInt8} (h : Br.BRow base w g cap l) : BytesSeen w (some ⟨g, 0, none⟩) l := by
  intro j c hj
  refine ⟨g, 0, rfl, h.lt, ?_⟩
  rw [Nat.zero_add]
  exact h.cells j _ (by unfold bytesV; rw [List.getElem?_map, hj]; rfl)
theorem step_brow {base g cap : Nat} {w : World} {l k : List UInt8} (h : Br.BRow base w g cap l) (hbase : base ≤ w.heap.size) {ops : Array Oper} {o : Oper} {a : Act} {K : Act → World → Prop} {Q : Exit → Act → World → Prop} {E : Prop} (hgd : o.guard = none) (s x : Operand)
    (ho : o.op = .call { callee := .builtin .append, args := #[s, x], argTypes := #[23, 23] }) (vx : Value) (hx : a.eval x = vx) (m : Nat) (hkm : m = k.length) (hsrc : Src Tryd.prog 1 23 vx m (bytesV k) w) (hlen : l.length + m ≤ 140737488355328) (ll q : Nat) (hll : l.length = ll) (hq : ll + m = q) (hs : a.eval s = .slice (some ⟨g, 0, none⟩) ll cap)
    (hK : ∀ g' cap' w', Br.BRow base w' g' cap' (l ++ k) → w.grownBy w' (some g) → K (a.put o.dst (.slice (some ⟨g', 0, none⟩) q cap')) w') : if Region.wanted o (yielded ops a.tmps) = true then Oper.wp Tryd.prog o a w K Q else E := by
  subst hkm hll hq
  rw [if_pos (by simp [Region.wanted, hgd])]
  obtain ⟨g', cap', w', hr, hB, hg⟩ := Br.run_append byT 23 o.type h hbase vx hsrc hlen
  rw [List.length_append] at hr
  exact Lib.wp_append_run w s x _ _ ho _ _ hs hx _ _ hr (hK g' cap' w' hB hg)
theorem brow_none {base g : Nat} {w : World} (hb : base ≤ g) (hg : g < w.heap.size) : Br.BRow base w g 0 [] :=
  ⟨hb, hg, Nat.le_refl _, Nat.zero_le _, fun j u h => by simp [bytesV] at h, fun j h => absurd h (Nat.not_lt_zero _)⟩
theorem enc_ge {l : List PItem} (hr : right lt l = true) : 35 ≤ (enc l).length := by
  unfold right at hr
  cases l with
  | nil => cases hr
  | cons x l =>
    unfold enc body
    simp only [List.length_append, low_len, List.flatMap_cons, itemB_len]
    have : magic.length = 8 := rfl
    omega
theorem rem_nat (a : Int) (n : Nat) : a.tmod (n : Int) = ((a.natAbs % n : Nat) : Int) ∨ (a.tmod (n : Int) = -((a.natAbs % n : Nat) : Int) ∧ a.tmod (n : Int) < 0) := by
  rcases Int.lt_or_le a 0 with h | h
  rotate_left
  · obtain ⟨m, rfl⟩ := Int.eq_ofNat_of_zero_le h
    exact .inl (by rw [Int.natAbs_natCast, Int.tmod_eq_emod_of_nonneg h]; exact (Int.natCast_emod m n).symm)
  · obtain ⟨m, hm⟩ := Int.eq_ofNat_of_zero_le (show 0 ≤ -a by omega)
    have e : a = -(m : Int) := by omega
    subst e
    have e2 : (-(m : Int)).tmod (n : Int) = -((m % n : Nat) : Int) := by
      rw [Int.neg_tmod, Int.tmod_eq_emod_of_nonneg (by omega), Int.natCast_emod]
    rw [Int.natAbs_neg, Int.natAbs_natCast, e2]
    rcases Nat.eq_zero_or_pos (m % n) with h0 | h0
    · rw [h0]; exact .inl (by simp)
    · exact .inr ⟨rfl, by omega⟩
set_option maxRecDepth 100000 in
set_option maxHeartbeats 1600000 in
theorem packSpoilt_any (l : List PItem) (ao : Option Addr) (cap : Nat) (at' : Int) (x : UInt8) (more : List UInt8) (mo : Option Addr) (mc : Nat) (w : World) (hI : ItemsAt w ao l) (hs : ∀ x ∈ l, Sane x) (hl : l.length ≤ 100000000) (hel : (enc l).length ≤ 50000000)
    (hm : BytesSeen w mo more) (hmn : mo = none → more.length = 0 ∧ mc = 0) (hmc : more.length ≤ mc ∧ mc ≤ 9223372036854775807) (hml : more.length ≤ 20000000) (ht : Tabs w) :
    Calls Tryd.prog 3 #[.slice ao l.length cap, .int .i64 at', .int .u8 x.toNat, .slice mo more.length mc] w fun e w' => e = .returned (.bool true) ∧ Below w.heap.size w w' := by
  obtain ⟨i0, hi0, hz0', hz1', hz2'⟩ := info_parts byT.info
  have hwa : Below w.heap.size w (w.alloc (.cells (itemC oneI (.slice none 0 0)).toArray 29)) := (Below.refl _ _).alloc (Nat.le_refl _) _
  have hlen35 := one_len.1
  have hcode := one_len.2
  have HE0 : Calls Tryd.prog 4 #[.slice (some ⟨w.heap.size, 0, none⟩) 1 1] (w.alloc (.cells (itemC oneI (.slice none 0 0)).toArray 29)) fun e w' => ∃ a c, e = .returned (.tuple #[.slice a 35 c, .int .i64 0]) ∧ Below w.heap.size w w' :=
    (encode_ans [oneI] (some ⟨w.heap.size, 0, none⟩) 1 _ (one_at w) one_sane (by simp) one_bytes (ht.all hwa)).mono fun e w' ⟨a, c, he, ho⟩ => ⟨a, c, by rw [he, hlen35, hcode], hwa.trans (ho.below.mono hwa.size)⟩
  have HE1 := fun W (h : Below w.heap.size w W) => encode_ans l ao cap W (hI.below h) hs hl (fun _ => by omega) (ht.all h)
  clear hlen35 hcode hwa
  go_enter Tryd.func3, Tryd.ntmps3
  go_upto_region 4 with (first | (refine wpList_slice_item rfl 24 rfl rfl ?_) | (go_at_call 4; refine HE0.mono ?_; rintro e w1 ⟨oa, oc, rfl, hb1⟩))
  have HE := HE1 w1 hb1
  cases hr : right lt l with
  | false =>
    have ha : ansB l = [] ∧ ansC l = 240 := by unfold ansB ansC; rw [hr]; exact ⟨rfl, rfl⟩
    rw [ha.1, ha.2] at HE
    clear ha hr HE1 HE0
    go_wp2_with (go_at_call 4; refine HE.mono ?_; rintro e w2 ⟨ba, bc, rfl, hb2⟩)
    go_ret
    exact ⟨rfl, hb1.trans (hb2.below.mono hb1.size)⟩
  | true =>
    have ha : ansB l = enc l ∧ ansC l = 0 := by unfold ansB ansC; rw [hr]; exact ⟨rfl, rfl⟩
    rw [ha.1, ha.2] at HE
    have hge := enc_ge hr
    have HR := Lib.hid hr
    clear ha hr HE1 HE0
    have hgei : ¬ (((enc l).length : Nat) : Int) < 35 := by omega
    have hgi2 : (35 : Int) ≤ (((enc l).length : Nat) : Int) := by omega
    generalize hbl : (enc l).length = n at *
    have HBl := Lib.hid hbl
    clear hbl
    go_upto_region 9 with (go_at_call 4; refine HE.mono ?_; rintro e w2 ⟨ba, bc, rfl, hB⟩)
    have hO := hB.own
    rw [HBl.out] at hO
    obtain ⟨bg, bc', e2, hbg, hbgl, hbcn, hbcm, _, _⟩ := own_at hO (by omega)
    cases e2
    have hb2 : Below w.heap.size w w2 := hb1.trans (hB.below.mono hb1.size)
    have hn0 : 0 < n := by omega
    have hz1 := hb1.size
    have hz2 := hB.below.size
    obtain ⟨k, hkn, hrem⟩ : ∃ k, k < n ∧ (at'.tmod (n : Int) = (k : Int) ∨ (at'.tmod (n : Int) = -(k : Int) ∧ 0 < k)) := ⟨at'.natAbs % n, Nat.mod_lt _ hn0, by
      rcases rem_nat at' n with h | ⟨h1, h2⟩
      · exact .inl h
      · exact .inr ⟨h1, by omega⟩⟩
    clear HE
    obtain ⟨c, hc⟩ : ∃ c, (enc l)[k]? = some c := ⟨_, List.getElem?_eq_getElem (by rw [HBl.out]; exact hkn)⟩
    have hln : l.length < 4294967295 := by omega
    have hbn : (enc l).length ≤ 100000000 := by rw [HBl.out]; omega
    -- what the four calls come to
    obtain ⟨bx, hbx1, hbx2⟩ : ∃ bx : Bool, ((ansE ((enc l).set k (c ^^^ x)) == 0) = bx) ∧ (((x.toNat : Int) == 0) = bx) := by
      refine ⟨_, rfl, ?_⟩
      have h1 := spoilt_byte (i := k) (d := c ^^^ x) HR.out hln (by rw [HBl.out]; exact hkn)
      rw [ansE_iff, h1, hc]
      by_cases hx : x = 0
      · subst hx; simp
      · have h2 : ¬ c = c ^^^ x := fun e => hx (by
          have := congrArg (c ^^^ ·) e
          simpa [← UInt8.xor_assoc] using this.symm)
        have h3 : x.toNat ≠ 0 := fun e => hx (UInt8.toNat_inj.1 e)
        simp [h2, h3]
    obtain ⟨bm, hbm1, hbm2⟩ : ∃ bm : Bool, ((ansE (enc l ++ more) == 0) = bm) ∧ (((more.length : Nat) : Int) == 0) = bm := by
      refine ⟨_, rfl, ?_⟩
      rw [ansE_iff, spoilt_more HR.out hln (by rw [List.length_append, HBl.out]; omega)]
      cases more with
      | nil => rfl
      | cons _ _ => simp; omega
    have ha2 : ansL (enc l) = l ∧ ansE (enc l) = 0 := by unfold ansL ansE; rw [decode_enc HR.out hln]; exact ⟨rfl, rfl⟩
    have ha3 : ansE ((enc l).take k) = 240 := by unfold ansE; rw [spoilt_cut HR.out hln hbn (by rw [HBl.out]; exact hkn)]; rfl
    have hxr := xor8 c x
    generalize c ^^^ x = d at *
    have Hx1 := Lib.hid hbx1
    have Hm1 := Lib.hid hbm1
    have Ha2 := Lib.hid ha2
    have Ha3 := Lib.hid ha3
    have hbcells := fun j u h => hO.cells (g := bg) rfl j u h
    clear hbx1 hbm1 ha2 ha3 hbn hgei
    have hki : (k : Int) < (n : Int) := by omega
    have hkl : (k : Int) ≤ (bc : Int) := by omega
    rcases hrem with hrem | ⟨hrem, hk0⟩
    all_goals
      first | (have hki2 : -(k : Int) < 0 := by omega) | skip
      go_upto_region 14 with (at_builtin; refine wpList_append_own_at _ rfl (.tmp 61) (.tmp 62) 23 rfl w2.heap.size 5 i0 (.int .u8 0) 1 1 Tryd.underlying23 hi0 hz0' hz1' hz2' rfl (by decide) (.slice none 0 0) 0 [] rfl (World.ownsRow_nil _ _ _ _) ⟨bg, 0, none⟩ n bc (bytesV (enc l)) rfl (by rw [bytesV_len, HBl.out, Nat.mul_one]) hbcells (bytesV_one _) (by unfold maxLen; omega) (by omega) (Nat.le_refl _) ?_; intro v3 w3 ho3 hg3 _ _; simp only [Nat.zero_add, List.nil_append] at ho3; obtain ⟨v3a, v3c, rfl⟩ := own_form ho3)
      have hb23 := grown_none hg3 rfl
      obtain ⟨dg, dc, e3, hdg, hdgl, hdcn, hdcm, hcell3, hfz3⟩ := own_at ho3 (by omega)
      cases e3
      have q3 : w3.cell? ⟨dg, k, none⟩ = some (.int .u8 c.toNat) := by
        rw [hcell3 k (by omega)]
        unfold bytesV
        rw [List.getElem?_map, hc]; rfl
      have f3 := hfz3 k
      have ho4 := own_setS (i := k) ho3 (.int .u8 (d.toNat))
      have hset : (bytesV (enc l)).set k (.int .u8 (d.toNat)) = bytesV ((enc l).set k d) := by unfold bytesV; rw [List.map_set]
      rw [hset] at ho4
      have hb24 : Below w2.heap.size w2 (w3.setCell ⟨dg, k, none⟩ (.int .u8 (d.toNat))) := hb23.setCell (p := ⟨dg, k, none⟩) hdg _
      have hdg4 : dg < (w3.setCell ⟨dg, k, none⟩ (.int .u8 (d.toNat))).heap.size := by simpa using hdgl
      clear hcell3 hfz3 hset ho3 hg3
      go_upto_region 15 with fail
      generalize (w3.setCell ⟨dg, k, none⟩ (.int .u8 (d.toNat))) = w4 at *
      have hb4 : Below w.heap.size w w4 := hb2.trans (hb24.mono hb2.size)
      have hls : ((enc l).set k d).length = n := by rw [List.length_set, HBl.out]
      have HD1 := pdecode_any ((enc l).set k d) (some ⟨dg, 0, none⟩) v3c w4 (seen_own ho4) (fun e => by cases e) ⟨by rw [hls]; omega, hdcm⟩ (by rw [hls]; omega) (ht.all hb4)
      rw [hls] at HD1
      have Hc := Lib.hid hc
      clear q3 f3 hxr hls hb23 hc
      generalize hE1 : ansE ((enc l).set k d) = E1 at *
      have HD1' := HD1.mono (R' := fun e w' => ∃ v, e = .returned (.tuple #[v, .int .i64 E1]) ∧ Below w4.heap.size w4 w') (fun e w' ⟨v, sls, he, hI, _⟩ => ⟨v, by rw [he, hE1], hI.below⟩)
      clear HD1 hE1
      go_upto_region 16 with (go_at_call 5; refine HD1'.mono ?_; rintro e w5 ⟨vd, rfl, hb45⟩)
      have hb25 : Below w2.heap.size w2 w5 := hb24.trans (hb45.mono hb24.size)
      have hb5 : Below w.heap.size w w5 := hb4.trans (hb45.mono hb4.size)
      have hS2 : BytesSeen w2 (some ⟨bg, 0, none⟩) (enc l) := seen_own hO
      have HD2 := pdecode_any (enc l) (some ⟨bg, 0, none⟩) bc w5 (hS2.below hb25) (fun e => by cases e) ⟨by rw [HBl.out]; omega, hbcm⟩ (by rw [HBl.out]; omega) (ht.all hb5)
      rw [HBl.out] at HD2
      have HD2' := HD2.mono (R' := fun e w' => ∃ v sls, e = .returned (.tuple #[v, .int .i64 0]) ∧ ItemsOwn w5 w' 29 [] v l sls) (fun e w' ⟨v, sls, he, hI, _⟩ => ⟨v, sls, by rw [he, Ha2.out.2], by rw [← Ha2.out.1]; exact hI⟩)
      clear HD1' HD2
      go_upto_region 17 with (go_at_call 5; refine HD2'.mono ?_; rintro e w6 ⟨vm, slsm, rfl, hI6⟩)
      have hb26 : Below w2.heap.size w2 w6 := hb25.trans (hI6.below.mono hb25.size)
      have hb6 : Below w.heap.size w w6 := hb5.trans (hI6.below.mono hb5.size)
      obtain ⟨ma, mcp, rfl, hMA⟩ := hI6.at_
      have hlt3 : ((enc l).take k).length = k := by rw [List.length_take, HBl.out]; omega
      have HD3 := pdecode_any ((enc l).take k) (some ⟨bg, 0, none⟩) bc w6 (BytesSeen.take' (hS2.below hb26) k) (fun e => by cases e) ⟨by rw [hlt3]; omega, hbcm⟩ (by rw [hlt3]; omega) (ht.all hb6)
      rw [hlt3] at HD3
      have HD3' := HD3.mono (R' := fun e w' => ∃ v, e = .returned (.tuple #[v, .int .i64 240]) ∧ Below w6.heap.size w6 w') (fun e w' ⟨v, sls, he, hI, _⟩ => ⟨v, by rw [he, Ha3.out], hI.below⟩)
      clear HD2' HD3 hlt3
      go_upto_region 18 with (go_at_call 5; refine HD3'.mono ?_; rintro e w7 ⟨vk, rfl, hb67⟩)
      have hb27 : Below w2.heap.size w2 w7 := hb26.trans (hb67.mono hb26.size)
      have hb7 : Below w.heap.size w w7 := hb6.trans (hb67.mono hb6.size)
      have hz27 := hb27.size
      have hdg7 : dg < w7.heap.size := by have := hb45.size; have := hI6.below.size; have := hb67.size; omega
      have hzd : (w7.alloc (.cells #[] 5)).drew.heap.size = w7.heap.size + 1 := by simp
      have hb7a : Below w7.heap.size w7 (w7.alloc (.cells #[] 5)).drew := ((Below.refl _ _).alloc (Nat.le_refl _) _).drew
      have hB0 : Br.BRow w7.heap.size (w7.alloc (.cells #[] 5)).drew w7.heap.size 0 [] := brow_none (Nat.le_refl _) (by rw [hzd]; omega)
      have hsb := fun W (h : Below w7.heap.size w7 W) => seen_src Tryd.underlying23 (c := bc) (hS2.below (hb27.trans (h.mono hz27))) (fun e => by cases e)
      have hsm := fun W (h : Below w7.heap.size w7 W) => seen_src Tryd.underlying23 (c := mc) (hm.below (hb7.trans (h.mono hb7.size))) hmn
      rw [HBl.out] at hsb
      have hv0 : (0 : Int) ≤ (v3c : Int) := by omega
      have hlm : (enc l ++ more).length = n + more.length := by rw [List.length_append, HBl.out]
      have HLm := Lib.hid hlm
      clear hlm
      generalize hE4 : ansE (enc l ++ more) = E4 at *
      have HD4 : ∀ (W : World) (g c : Nat), Below w.heap.size w W → Br.BRow w2.heap.size W g c (enc l ++ more) → Calls Tryd.prog 5 #[.slice (some ⟨g, 0, none⟩) ((n + more.length : Nat)) c] W fun e w' => ∃ v, e = .returned (.tuple #[v, .int .i64 E4]) ∧ Below W.heap.size W w' := fun W g c h1 h2 => by
        rw [← HLm.out]
        exact (pdecode_any (enc l ++ more) (some ⟨g, 0, none⟩) c W (brow_seen h2) (fun e => by cases e) ⟨h2.le, h2.max⟩ (by rw [HLm.out]; omega) (ht.all h1)).mono fun e w' ⟨v, sls, he, hI, _⟩ => ⟨v, by rw [he, hE4], hI.below⟩
      have HD4' := Lib.hid HD4
      clear HD4 hE4
      go_region_held3 (fun _ => True) (trivial) ((first
        | (go_at_call 5; (with_reducible refine (HD4'.out w10 _ _ hb10 hB10).mono ?_); rintro e w11 ⟨vn, rfl, hb1011⟩)
        | (refine step_brow (brow_none (base := w2.heap.size) (w := w9) hdg (by omega)) (by omega) rfl (.tmp 92) (.tmp 97) rfl _ rfl (n + more.length) HLm.out.symm (by rw [← HLm.out]; exact seen_src Tryd.underlying23 (brow_seen hB9) (fun e => by cases e)) (by simp only [List.length_nil]; omega) 0 (n + more.length) rfl (by omega) rfl ?_; intro g10 c10 w10 hB10 hg10; simp only [List.nil_append] at hB10; have hb10 : Below w.heap.size w w10 := (hb7.trans (hb79.mono hb7.size)).grown hg10 (by have := hb7.size; omega) (fun j e => by cases e; omega))
        | (refine step_brow hB8 (by omega) rfl (.tmp 95) (.tmp 96) rfl _ rfl more.length rfl (hsm w8 hb78) (by simp only [HBl.out]; omega) n (n + more.length) HBl.out rfl rfl ?_; intro g9 c9 w9 hB9 hg9; have hb79 : Below w7.heap.size w7 w9 := hb78.grown hg9 hz8 (fun j e => by cases e; exact hB8.new); have hz9 := hb79.size)
        | (refine step_brow hB0 (by omega) rfl (.tmp 93) (.tmp 94) rfl _ rfl n HBl.out.symm (hsb _ hb7a) (by simp only [List.length_nil]; omega) 0 n rfl (by omega) rfl ?_; intro g8 c8 w8 hB8 hg8; simp only [List.nil_append] at hB8; have hb78 : Below w7.heap.size w7 w8 := hb7a.grown hg8 (by rw [hzd]; omega) (fun j e => by cases e; exact Nat.le_refl _); have hz8 := hb78.size)))
      have hL10 := hI.below hb10
      have hM10 : Its w5.heap.size w10 29 (.slice ma l.length mcp) l slsm := hI6.its.heap (fun g hg => by
        have h1 := hI6.foot g hg
        have h2 := hb45.size
        have h3 := hb67.size
        refine (hg10.block g (by omega) (fun e => by cases e; omega)).trans ((hb79.block g (by omega)).trans (hb67.block g (by omega))))
      obtain ⟨m1, m2, em, hM11⟩ := hM10.at_
      cases em
      have HS := sameItems_any l ma ao mcp cap w11 (hM11.below hb1011) (hL10.below hb1011) hs hl
      have hb11 : Below w.heap.size w w11 := hb10.trans (hb1011.mono hb10.size)
      have hx1 := Hx1.out
      have hm1 := Hm1.out
      clear HD4' HD3' Hx1 Hm1 hM10 hM11 hL10
      go_wp2_with (go_at_call 6; refine HS.mono ?_; rintro e w12 ⟨rfl, hb12⟩)
      go_ret
      exact ⟨by simp, hb11.trans (hb12.mono hb11.size)⟩
end Pw
end Go.Proofs.YtnmgdlmicgbapaaDoor
