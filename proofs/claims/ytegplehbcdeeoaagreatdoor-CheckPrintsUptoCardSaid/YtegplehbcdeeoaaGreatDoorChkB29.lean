/- Findings as lines: the reference's numbers and names. -/
import Derived.Test.YtegplehbcdeeoaaGreatDoorChkB28
import Derived.Lib.ItoaLen
import Derived.Deep.DeepMust
import Derived.Test.YtegplehbcdeeoaaGreatDoorChkB27
namespace Go.Proofs.YtegplehbcdeeoaaGreatDoor
open Go.RowKit

namespace Ck
open Pk Pw
theorem dec_small {v : Nat} (h : v < 10) : Lib.decDigits v = [UInt8.ofNat (48 + v)] := by rw [Lib.decDigits, dif_pos h]
theorem dec_big {v : Nat} (h : ¬ v < 10) : Lib.decDigits v = Lib.decDigits (v / 10) ++ [UInt8.ofNat (48 + v % 10)] := by rw [Lib.decDigits, dif_neg h]
theorem byte_seen (w : World) (c : UInt8) (z : Int) (hz : z = c.toNat) : SeenAt (w.alloc (.cells #[.int .u8 z] 5)) w.heap.size 0 [c] := by
  subst hz
  exact SeenAt.of_blk (Blk.new w (bytesC [c]) 5)
set_option maxRecDepth 100000 in
set_option maxHeartbeats 1000000 in
theorem decPos_any (n : Nat) (hn : n ≤ 9223372036854775807) (w : World) : Calls Tryz.prog 24 #[.int .i64 n] w fun e w' => e = .returned (.string (mk (Lib.decDigits n))) ∧ Below w.heap.size w w' := by
  have h0 : ¬ (n : Int) < 0 := by omega
  go_enter Tryz.func24, Tryz.ntmps24
  go_wp2_with fail
  go_loopw [0, 5] (fun nv sv wr => ∃ (v : Nat) (s : B), nv = .int .i64 v ∧ sv = .string (mk s) ∧ v ≤ n ∧ Hid (Lib.decDigits n = Lib.decDigits v ++ s ∧ Below w.heap.size w wr)) (fun nv _ _ => (intOf nv).toNat)
  case atStart => exact ⟨n, [], rfl, rfl, Nat.le_refl _, Lib.hid ⟨by simp, Below.refl _ _⟩⟩
  case round =>
    obtain ⟨v, s, rfl, rfl, hvn, hH⟩ := hrel
    have hsl : s.length ≤ 20 := by
      have h1 := congrArg List.length hH.out.1
      rw [List.length_append, Lib.decDigits_length] at h1
      have := Lib.nDigits_le20 n (by omega)
      omega
    have hms := mk_size s
    have hg : ¬ (9223372036854775807 < 1 + s.length) := by omega
    by_cases c : 9 < v
    · have hci : (9 : Int) < (v : Int) := by omega
      have hcv : (convert 24 9 (.slice (some ⟨wr.heap.size, 0, none⟩) 1 1)).run Tryz.prog (wr.alloc (.cells #[.int .u8 (48 + (v : Int) % 10)] 5)) = .ok (.string (mk [UInt8.ofNat (48 + v % 10)])) _ :=
        string_at (byte_seen wr (UInt8.ofNat (48 + v % 10)) (48 + (v : Int) % 10) (by rw [UInt8.toNat_ofNat']; omega))
      have hm1 : (mk [UInt8.ofNat (48 + v % 10)]).size = 1 := rfl
      have hadd : mk [UInt8.ofNat (48 + v % 10)] ++ mk s = mk (UInt8.ofNat (48 + v % 10) :: s) := mk_add _ _
      have hnx := Lib.hid (show Lib.decDigits n = Lib.decDigits (v / 10) ++ (UInt8.ofNat (48 + v % 10) :: s) by rw [hH.out.1, dec_big (by omega)]; simp)
      have hbx := Lib.hid (hH.out.2.alloc hH.out.2.size (.cells #[.int .u8 (48 + (v : Int) % 10)] 5))
      generalize UInt8.ofNat (48 + v % 10) = d at *
      clear hH
      go_wp2_with fail
      go_roundw
      case rel => exact ⟨v / 10, _, by go_num, rfl, by omega, Lib.hid ⟨hnx.out, hbx.out⟩⟩
      case measure => simp only [intOf]; omega
    · have hci : ¬ (9 : Int) < (v : Int) := by omega
      have hvv : 48 + (v : Int) < 256 := by omega
      have hcv : (convert 24 9 (.slice (some ⟨wr.heap.size, 0, none⟩) 1 1)).run Tryz.prog (wr.alloc (.cells #[.int .u8 (48 + (v : Int))] 5)) = .ok (.string (mk [UInt8.ofNat (48 + v)])) _ :=
        string_at (byte_seen wr (UInt8.ofNat (48 + v)) (48 + (v : Int)) (by rw [UInt8.toNat_ofNat']; omega))
      have hm1 : (mk [UInt8.ofNat (48 + v)]).size = 1 := rfl
      have hadd : mk [UInt8.ofNat (48 + v)] ++ mk s = mk (UInt8.ofNat (48 + v) :: s) := mk_add _ _
      have hnx := Lib.hid (show Lib.decDigits n = UInt8.ofNat (48 + v) :: s by rw [hH.out.1, dec_small (by omega)]; rfl)
      have hbx := Lib.hid (hH.out.2.alloc hH.out.2.size (.cells #[.int .u8 (48 + (v : Int))] 5))
      generalize UInt8.ofNat (48 + v) = d at *
      clear hH
      go_wp2_with fail
      go_ret
      exact ⟨by rw [hnx.out]; rfl, hbx.out⟩
/-- A number's numeral: its opposite's, with a sign ahead. -/
theorem itoa_neg2 (n : Int) (h : n < 0) : Lib.itoa n = 45 :: Lib.decDigits n.natAbs := by unfold Lib.itoa; rw [if_pos h]
theorem itoa_pos2 (n : Nat) : Lib.itoa n = Lib.decDigits n := by unfold Lib.itoa; rw [if_neg (by omega), Int.toNat_natCast]
set_option maxRecDepth 100000 in
set_option maxHeartbeats 1000000 in
theorem decimal_any (n : Int) (h0 : -9223372036854775808 ≤ n) (h1 : n ≤ 9223372036854775807) (w : World) : Calls Tryz.prog 24 #[.int .i64 n] w fun e w' => e = .returned (.string (mk (Lib.itoa n))) ∧ Below w.heap.size w w' := by
  by_cases hn : n < 0
  · obtain ⟨m, hm⟩ : ∃ m : Nat, n = -(m : Int) := ⟨n.natAbs, by omega⟩
    subst hm
    have hnat : (-(m : Int)).natAbs = m := by omega
    have hit := Lib.hid (itoa_neg2 _ hn)
    rw [hnat] at hit
    have hR := fun (h : m / 10 ≤ 9223372036854775807) W => decPos_any (m / 10) h W
    have d1 : (-(m : Int)).tmod 10 = -((m % 10 : Nat) : Int) := by rw [Int.neg_tmod, Int.tmod_eq_emod_of_nonneg (by omega)]; rfl
    have d2 : (-(m : Int)).tdiv 10 = -((m / 10 : Nat) : Int) := by rw [Int.neg_tdiv, Int.tdiv_eq_ediv_of_nonneg (by omega)]; rfl
    have hcv : ∀ W : World, (convert 24 9 (.slice (some ⟨W.heap.size, 0, none⟩) 1 1)).run Tryz.prog (W.alloc (.cells #[.int .u8 (48 + ((m % 10 : Nat) : Int))] 5)) = .ok (.string (mk [UInt8.ofNat (48 + m % 10)])) (W.alloc (.cells #[.int .u8 (48 + ((m % 10 : Nat) : Int))] 5)) := fun W =>
      string_at (byte_seen W (UInt8.ofNat (48 + m % 10)) (48 + ((m % 10 : Nat) : Int)) (by rw [UInt8.toNat_ofNat']; omega))
    have hdl := Lib.nDigits_le20 (m / 10) (by omega)
    rw [← Lib.decDigits_length] at hdl
    have h48 : IntKind.u8.wrap (48 + ((m % 10 : Nat) : Int)) = 48 + ((m % 10 : Nat) : Int) := u8_fit _ (by omega) (by omega)
    have w1 : IntKind.i64.wrap (((m % 10 : Nat) : Int)) = ((m % 10 : Nat) : Int) := IntWalk.i64_in _ (by omega)
    have w2 : IntKind.i64.wrap (((m / 10 : Nat) : Int)) = ((m / 10 : Nat) : Int) := IntWalk.i64_in _ (by omega)
    have w3 : IntKind.i64.wrap (48 + ((m % 10 : Nat) : Int)) = 48 + ((m % 10 : Nat) : Int) := IntWalk.i64_in _ (by omega)
    have hlast : m % 10 < 10 := by omega
    have hm1 : ∀ d : UInt8, (mk [d]).size = 1 := fun _ => rfl
    by_cases hs : m / 10 = 0
    · have hfin := Lib.hid (show Lib.decDigits m = [UInt8.ofNat (48 + m % 10)] by rw [dec_small (by omega)]; congr 2; omega)
      have hadd : ∀ d : UInt8, (⟨#[45]⟩ : ByteArray) ++ mk [d] = mk [45, d] := fun d => mk_add [45] [d]
      have d3 : (-(m : Int)).tdiv 10 = 0 := by rw [d2, hs]; rfl
      clear d2
      generalize UInt8.ofNat (48 + m % 10) = d at *
      generalize m % 10 = r at *
      go_enter Tryz.func24, Tryz.ntmps24
      go_wp2_with fail
      go_ret
      refine ⟨?_, (Below.refl _ _).alloc (Nat.le_refl _) _⟩
      rw [hit.out, hfin.out]
      exact ret_str (show mk [45] ++ mk [] ++ mk [d] = mk [45, d] by rw [mk_add, mk_add]; rfl)
    · have hfin := Lib.hid (show Lib.decDigits m = Lib.decDigits (m / 10) ++ [UInt8.ofNat (48 + m % 10)] by rw [dec_big (by omega)])
      have hRR := hR (by omega)
      have d3 : ¬ (-((m / 10 : Nat) : Int) = 0) := by omega
      have d4 : - -((m / 10 : Nat) : Int) = ((m / 10 : Nat) : Int) := by omega
      have hmr := Lib.hid (show m % 10 < 10 from hlast)
      clear hR hs
      generalize UInt8.ofNat (48 + m % 10) = d at *
      generalize m % 10 = r at *
      generalize Lib.decDigits (m / 10) = D at *
      generalize hq : m / 10 = q at *
      replace hq := Lib.hid hq
      have hmD := mk_size D
      have hadd : (⟨#[45]⟩ : ByteArray) ++ mk D = mk (45 :: D) := mk_add [45] D
      have hadd2 : mk (45 :: D) ++ mk [d] = mk (45 :: D ++ [d]) := mk_add _ _
      obtain ⟨L, hms2⟩ : ∃ L, (mk (45 :: D)).size = L := ⟨_, rfl⟩
      have hL : L ≤ 30 := by rw [← hms2, mk_size, List.length_cons]; omega
      have g1 : ¬ (9223372036854775807 < 1 + D.length) := by omega
      have g2 : ¬ (9223372036854775807 < L + 1) := by omega
      have hq9 : q ≤ 922337203685477580 := by have := hq.out; omega
      have w5 := Lib.hid (show RowKit.wrap64 (-RowKit.wrap64 (-(q : Int))) = (q : Int) by rw [IntWalk.wrap64_in (-(q : Int)) (by omega), Int.neg_neg, IntWalk.wrap64_in _ (by omega)])
      have hnz : (RowKit.wrap64 (-(q : Int)) != 0) = true := by rw [IntWalk.wrap64_in (-(q : Int)) (by omega)]; simp; omega
      replace hq9 := Lib.hid hq9
      have hA := Lib.hid (And.intro hadd (And.intro hadd2 (And.intro hms2 (And.intro hL (And.intro g1 g2)))))
      clear w2 d4 hadd hadd2 hms2 hL g1 g2
      go_enter Tryz.func24, Tryz.ntmps24
      go_wp2_with fail
      rw [w5.out]
      refine (hRR _).mono ?_
      rintro e w1 ⟨rfl, hb1⟩
      have hcv1 := hcv w1
      obtain ⟨hadd, hadd2, hms2, hL, g1, g2⟩ := hA.out
      clear hcv d1 d2 d3 hRR h0 h1 hn hnat
      go_wp2_with fail
      go_ret
      refine ⟨?_, hb1.alloc hb1.size _⟩
      rw [hit.out, hfin.out]
      rfl
  · obtain ⟨m, rfl⟩ : ∃ m : Nat, n = m := ⟨n.toNat, by omega⟩
    rw [itoa_pos2]
    exact decPos_any m (by omega) w
set_option maxRecDepth 100000 in
theorem dig_get (n : Nat) (h : n < 16) : (⟨#[48, 49, 50, 51, 52, 53, 54, 55, 56, 57, 97, 98, 99, 100, 101, 102]⟩ : ByteArray)[n]'h = hexD n := by
  have : ∀ n : Fin 16, (⟨#[48, 49, 50, 51, 52, 53, 54, 55, 56, 57, 97, 98, 99, 100, 101, 102]⟩ : ByteArray)[n.val]'n.isLt = hexD n.val := by decide +kernel
  exact this ⟨n, h⟩
set_option maxRecDepth 100000 in
theorem two_seen (w : World) (c d : UInt8) : SeenAt ((w.alloc (.cells #[.int .u8 c.toNat, .int .u8 d.toNat] 5)).drew) w.heap.size 0 [c, d] :=
  SeenAt.of_blk (Blk.new w (bytesC [c, d]) 5)
set_option maxRecDepth 100000 in
theorem two_conv (W : World) (q r : Nat) (hq : q < 16) (hr : r < 16) : (convert 24 9 (.slice (some ⟨W.heap.size, 0, none⟩) 2 2)).run Tryz.prog ((W.alloc (.cells #[.int .u8 ((⟨#[48, 49, 50, 51, 52, 53, 54, 55, 56, 57, 97, 98, 99, 100, 101, 102]⟩ : ByteArray)[q]'hq).toNat, .int .u8 ((⟨#[48, 49, 50, 51, 52, 53, 54, 55, 56, 57, 97, 98, 99, 100, 101, 102]⟩ : ByteArray)[r]'hr).toNat] 5)).drew) = .ok (.string (mk [hexD q, hexD r])) ((W.alloc (.cells #[.int .u8 ((⟨#[48, 49, 50, 51, 52, 53, 54, 55, 56, 57, 97, 98, 99, 100, 101, 102]⟩ : ByteArray)[q]'hq).toNat, .int .u8 ((⟨#[48, 49, 50, 51, 52, 53, 54, 55, 56, 57, 97, 98, 99, 100, 101, 102]⟩ : ByteArray)[r]'hr).toNat] 5)).drew) := by
  rw [dig_get q hq, dig_get r hr]
  exact string_at (two_seen W (hexD q) (hexD r))
set_option maxRecDepth 100000 in
set_option maxHeartbeats 1000000 in
theorem told_any (s : B) (hs : s.length ≤ 100000000000) (w : World) : Calls Tryz.prog 25 #[.string (mk s)] w fun e w' => e = .returned (.string (mk (shownP s))) ∧ Below w.heap.size w w' := by
  have hms := mk_size s
  have hbm : bs (mk s) = s := bs_mk s
  go_enter Tryz.func25, Tryz.ntmps25
  go_wp2_with fail
  go_loopw [3, 4] (fun sv iv wr => ∃ k : Nat, sv = .string (mk (shownP (s.take k))) ∧ iv = .int .i64 k ∧ k ≤ (mk s).size ∧ Hid (Below w.heap.size w wr)) (fun _ iv _ => (mk s).size - (intOf iv).toNat)
  case atStart => exact ⟨0, rfl, rfl, Nat.zero_le _, Lib.hid (Below.refl _ _)⟩
  case round =>
    obtain ⟨k, rfl, rfl, hk, hH⟩ := hrel
    have hbl2 : (shownP (s.take k)).length ≤ 400000000000 := by have := shownP_len (s.take k); rw [List.length_take] at this; omega
    by_cases c : k < (mk s).size
    · have hci : (k : Int) < ((mk s).size : Int) := by omega
      have hci2 : (k : Int) < (s.length : Int) := by omega
      have hget := bs_get (mk s) k c
      rw [hbm] at hget
      have hst := Lib.hid (shown_take hget)
      obtain ⟨ch, hch⟩ : ∃ ch, (mk s)[k]'c = ch := ⟨_, rfl⟩
      have hch2 : ((mk s)[k]'c).toNat = ch.toNat := by rw [hch]
      rw [hch] at hst hget
      have hcn : k < s.length := by omega
      have h256 := ch.toNat_lt
      have hsb := Lib.hid (show shownB ch = if 33 ≤ ch.toNat ∧ ch.toNat ≤ 126 ∧ ch.toNat ≠ 92 then [ch] else [92, 120, hexD (ch.toNat / 16), hexD (ch.toNat % 16)] from rfl)
      have hmX := mk_size (shownP (s.take k))
      clear hget
      by_cases hp : 33 ≤ ch.toNat ∧ ch.toNat ≤ 126 ∧ ch.toNat ≠ 92
      · have hst2 := Lib.hid (show shownP (s.take (k + 1)) = shownP (s.take k) ++ [ch] by rw [hst.out, hsb.out, if_pos hp])
        have p1 : (33 : Int) ≤ (ch.toNat : Int) := by omega
        have p2 : (ch.toNat : Int) ≤ 126 := by omega
        have p3 : ((ch.toNat : Int) != 92) = true := by simp; omega
        have hcv : (convert 24 9 (.slice (some ⟨wr.heap.size, 0, none⟩) 1 1)).run Tryz.prog (wr.alloc (.cells #[.int .u8 (ch.toNat : Int)] 5)) = .ok (.string (mk [ch])) _ :=
          string_at (byte_seen wr ch _ rfl)
        have hm1 : (mk [ch]).size = 1 := rfl
        have hbx := Lib.hid (hH.out.alloc hH.out.size (.cells #[.int .u8 (ch.toNat : Int)] 5))
        have hadd : mk (shownP (s.take k)) ++ mk [ch] = mk (shownP (s.take k) ++ [ch]) := mk_add _ _
        generalize shownP (s.take k) = X at *
        have g1 : ¬ (9223372036854775807 < X.length + 1) := by omega
        clear hsb hst hp hH
        go_wp2_with fail
        go_roundw
        case rel => exact ⟨k + 1, by rw [hst2.out], by go_num, by omega, hbx⟩
        case measure => simp only [intOf]; omega
      · have hst2 := Lib.hid (show shownP (s.take (k + 1)) = shownP (s.take k) ++ [92, 120, hexD (ch.toNat / 16), hexD (ch.toNat % 16)] by rw [hst.out, hsb.out, if_neg hp])
        have hcs2 : ¬ (33 : Int) ≤ (ch.toNat : Int) ∨ ((33 : Int) ≤ (ch.toNat : Int) ∧ ¬ (ch.toNat : Int) ≤ 126) ∨ ((33 : Int) ≤ (ch.toNat : Int) ∧ (ch.toNat : Int) ≤ 126 ∧ ((ch.toNat : Int) != 92) = false) := by
          rcases (show ¬ (33 : Int) ≤ (ch.toNat : Int) ∨ ((33 : Int) ≤ (ch.toNat : Int) ∧ ¬ (ch.toNat : Int) ≤ 126) ∨ ((33 : Int) ≤ (ch.toNat : Int) ∧ (ch.toNat : Int) ≤ 126 ∧ (ch.toNat : Int) = 92) by omega) with h | h | ⟨h1, h2, h3⟩
          · exact .inl h
          · exact .inr (.inl h)
          · exact .inr (.inr ⟨h1, h2, by rw [h3]; rfl⟩)
        have q1 : IntKind.u8.wrap ((ch.toNat : Int).tdiv 16) = ((ch.toNat / 16 : Nat) : Int) := by rw [Int.tdiv_eq_ediv_of_nonneg (by omega), u8_fit _ (by omega) (by omega)]; omega
        have q2 : IntKind.u8.wrap ((ch.toNat : Int).tmod 16) = ((ch.toNat % 16 : Nat) : Int) := by rw [Int.tmod_eq_emod_of_nonneg (by omega), u8_fit _ (by omega) (by omega)]; omega
        have q3 : IntKind.u8.wrap ((ch.toNat : Int) / 16) = ((ch.toNat / 16 : Nat) : Int) := by rw [u8_fit _ (by omega) (by omega)]; omega
        have q4 : IntKind.u8.wrap ((ch.toNat : Int) % 16) = ((ch.toNat % 16 : Nat) : Int) := by rw [u8_fit _ (by omega) (by omega)]; omega
        have q5 : (ch.toNat : Int).tmod 16 = ((ch.toNat % 16 : Nat) : Int) := by rw [Int.tmod_eq_emod_of_nonneg (by omega)]; omega
        have hq16 : ch.toNat / 16 < 16 := by omega
        have hr16 : ch.toNat % 16 < 16 := by omega
        clear hp hsb hst
        generalize hQ : ch.toNat / 16 = q at *
        generalize hR : ch.toNat % 16 = r at *
        replace hQ := Lib.hid hQ
        replace hR := Lib.hid hR
        have b1 : (q : Int) < 16 := by omega
        have b2 : (r : Int) < 16 := by omega
        have hcv := two_conv wr q r hq16 hr16
        have hbx := Lib.hid ((hH.out.alloc hH.out.size (.cells #[.int .u8 ((⟨#[48, 49, 50, 51, 52, 53, 54, 55, 56, 57, 97, 98, 99, 100, 101, 102]⟩ : ByteArray)[q]'hq16).toNat, .int .u8 ((⟨#[48, 49, 50, 51, 52, 53, 54, 55, 56, 57, 97, 98, 99, 100, 101, 102]⟩ : ByteArray)[r]'hr16).toNat] 5)).drew)
        have hm1 : (mk [hexD q, hexD r]).size = 2 := rfl
        generalize shownP (s.take k) = X at *
        have hadd : mk X ++ (⟨#[92, 120]⟩ : ByteArray) = mk (X ++ [92, 120]) := mk_add X [92, 120]
        have hadd2 : mk (X ++ [92, 120]) ++ mk [hexD q, hexD r] = mk (X ++ [92, 120] ++ [hexD q, hexD r]) := mk_add _ _
        obtain ⟨L, hms2⟩ : ∃ L, (mk (X ++ [92, 120])).size = L := ⟨_, rfl⟩
        have hL : L ≤ 400000000010 := by rw [← hms2, mk_size, List.length_append]; simp; omega
        have g1 : ¬ (9223372036854775807 < X.length + 2) := by omega
        have g2 : ¬ (9223372036854775807 < L + 2) := by omega
        clear hH
        rcases hcs2 with p2 | ⟨p3, p2⟩ | ⟨p3, p4, p2⟩
        all_goals
          go_wp2_with fail
          go_region
          go_wp2_with fail
          go_roundw
          case rel => exact ⟨k + 1, by rw [hst2.out], by go_num, by omega, hbx⟩
          case measure => simp only [intOf]; omega
    · obtain rfl : k = (mk s).size := by omega
      have hci : ¬ ((mk s).size : Int) < ((mk s).size : Int) := by omega
      have hci2 : ¬ (s.length : Int) < (s.length : Int) := by omega
      have htk : s.take (mk s).size = s := List.take_of_length_le (by rw [hms]; exact Nat.le_refl _)
      rw [htk]
      clear htk
      go_wp2_with fail
      go_ret
      exact ⟨rfl, hH.out⟩
end Ck
end Go.Proofs.YtegplehbcdeeoaaGreatDoor
/- The laws' fixed examples. -/
namespace Go.Proofs.YtegplehbcdeeoaaGreatDoor
open Go.RowKit

namespace Ck
open Pk Pw
theorem baseP_len (n : Nat) (h : 1 ≤ n) : (baseP n).length = 512 * n := by
  unfold baseP
  rw [List.length_set, List.length_set, bitsOn_len n h]
def po2 : List Po := [⟨98, 0, [254]⟩, ⟨99, 128, [1]⟩]
theorem base128 (w : World) : Calls Tryz.prog 7 #[.int .i64 128] w fun e w' => ∃ b, e = .returned (.slice (some ⟨b, 0, none⟩) 65536 65536) ∧ Hid (Blk w' b (bytesC (baseP 128)) 5) ∧ Hid (w.heap.size ≤ b) ∧ Hid (Below w.heap.size w w') := by
  refine (base_any 128 (by omega) (by omega) w).mono ?_
  rintro e w' ⟨b, rfl, h1, h2, h3⟩
  exact ⟨b, rfl, Lib.hid h1, Lib.hid h2, Lib.hid h3⟩
/-- The world in which the two bytes lie. -/
def W2 (w : World) : World := ((w.alloc (.cells #[.int .u8 254] 5)).alloc (.cells #[.int .u8 1] 5)).alloc (.cells #[.int .i64 98, .int .i64 0, .slice (some ⟨w.heap.size, 0, none⟩) 1 1, .int .i64 99, .int .i64 128, .slice (some ⟨w.heap.size + 1, 0, none⟩) 1 1] 28)
theorem W2_below (w : World) : Below w.heap.size w (W2 w) := by
  have a1 := (Below.refl w.heap.size w).alloc (Nat.le_refl _) (.cells #[.int .u8 254] 5)
  have a2 := a1.alloc a1.size (.cells #[.int .u8 1] 5)
  exact a2.alloc a2.size _
theorem po2_at (w : World) : PoAt (W2 w) (some ⟨w.heap.size + 1 + 1, 0, none⟩) po2 := by
  have b0 : Blk (w.alloc (.cells #[.int .u8 254] 5)) w.heap.size #[.int .u8 254] 5 := Blk.new _ _ _
  have b1 : Blk ((w.alloc (.cells #[.int .u8 254] 5)).alloc (.cells #[.int .u8 1] 5)) (w.heap.size + 1) #[.int .u8 1] 5 := Blk.newAt _ _ (by show _ = (w.heap.push _).size; rw [Array.size_push])
  have b0' := b0.same (((Below.refl _ _).alloc (Nat.le_refl _) (.cells #[.int .u8 1] 5)).block _ b0.lt)
  have c2 : Blk (W2 w) (w.heap.size + 1 + 1) #[.int .i64 98, .int .i64 0, .slice (some ⟨w.heap.size, 0, none⟩) 1 1, .int .i64 99, .int .i64 128, .slice (some ⟨w.heap.size + 1, 0, none⟩) 1 1] 28 := Blk.newAt _ _ (by show _ = ((w.heap.push _).push _).size; rw [Array.size_push, Array.size_push])
  have c0 : Blk (W2 w) w.heap.size #[.int .u8 254] 5 := b0'.same (((Below.refl _ _).alloc (Nat.le_refl _) _).block _ b0'.lt)
  have c1 : Blk (W2 w) (w.heap.size + 1) #[.int .u8 1] 5 := b1.same (((Below.refl _ _).alloc (Nat.le_refl _) _).block _ b1.lt)
  intro i p hp
  rcases i with _ | _ | i
  · obtain rfl : (⟨98, 0, [254]⟩ : Po) = p := by simpa [po2] using hp
    refine ⟨_, 0, some ⟨w.heap.size, 0, none⟩, 1, rfl, c2.lt, c2.cell 0, c2.cell 1, c2.cell 2, fun j c hj => ?_⟩
    rcases j with _ | j
    · obtain rfl : (254 : UInt8) = c := by simpa using hj
      exact ⟨_, _, rfl, c0.lt, c0.cell 0⟩
    · simp at hj
  · obtain rfl : (⟨99, 128, [1]⟩ : Po) = p := by simpa [po2] using hp
    refine ⟨_, 0, some ⟨w.heap.size + 1, 0, none⟩, 1, rfl, c2.lt, c2.cell 3, c2.cell 4, c2.cell 5, fun j c hj => ?_⟩
    rcases j with _ | j
    · obtain rfl : (1 : UInt8) = c := by simpa using hj
      exact ⟨_, _, rfl, c1.lt, c1.cell 0⟩
    · simp at hj
  · simp [po2] at hp
/-- poked, at the example. -/
theorem poked128 {z : B} (hz : z.length = 65536) {b : Nat} {w : World} (hB : Blk w b (bytesC z) 5) : Calls Tryz.prog 9 #[.slice (some ⟨b, 0, none⟩) 65536 65536, .slice (some ⟨w.heap.size + 1 + 1, 0, none⟩) 2 2] (W2 w) fun e w' => ∃ b2 cp, e = .returned (.slice (some ⟨b2, 0, none⟩) 65536 cp) ∧ Hid (SeenAt w' b2 0 (pokedP z po2) ∧ b2 < w'.heap.size ∧ Below w.heap.size w w' ∧ 65536 ≤ cp ∧ cp ≤ 9223372036854775807) := by
  have hb := W2_below w
  have hB2 := hB.same (hb.block _ hB.lt)
  have h := poked_any z po2 b 0 65536 (some ⟨w.heap.size + 1 + 1, 0, none⟩) 2 (W2 w) (by omega) (by omega) (SeenAt.of_blk hB2) hB2.lt (po2_at w) (by decide) (by decide)
  rw [hz] at h
  refine h.mono ?_
  rintro e w' ⟨b2, cp, ext, rfl, h1, _, h3, h4, h5⟩
  exact ⟨b2, cp, rfl, Lib.hid ⟨SeenAt.of_front h1, h1.lt, hb.trans (h3.mono hb.size), h4, h5⟩⟩
/-- An image's findings, some. -/
theorem image_ne {l : B} {fs : List Fnd} (hf : imageP l = fs) (n : Nat) (hn : fs.length = n) (h0 : 0 < n) (ll g o cap : Nat) (hll : l.length = ll) (hcap : ll ≤ cap ∧ cap ≤ 9223372036854775807) (w : World) (hg : g < w.heap.size) (hs : SeenAt w g o l) (hw : KVars w) :
    Calls Tryz.prog 16 #[.slice (some ⟨g, o, none⟩) ll cap] w fun e W' => ∃ q cap2, e = .returned (.slice (some ⟨q, 0, none⟩) n cap2) ∧ Hid (Below w.heap.size w W' ∧ FAt W' (some ⟨q, 0, none⟩) (fs.map Fnd.fi) ∧ w.heap.size ≤ q ∧ q < W'.heap.size) ∧ n ≤ cap2 ∧ cap2 ≤ 9223372036854775807 := by
  refine (image_fi hf ll g o cap hll hcap w hg hs hw).mono ?_
  rintro e W' ⟨hb, ao, cap2, rfl, hF, hlt, h1, h2, hz⟩
  subst hn
  obtain ⟨x, hx⟩ : ∃ x, (fs.map Fnd.fi)[0]? = some x := ⟨_, List.getElem?_eq_getElem (by rw [List.length_map]; exact h0)⟩
  obtain ⟨q, o2, rfl, _⟩ := hF 0 x hx
  obtain ⟨q2, e2⟩ := hz _ rfl
  cases e2
  exact ⟨q, cap2, rfl, Lib.hid ⟨hb, hF, (hlt _ _ rfl).1, (hlt _ _ rfl).2⟩, h1, h2⟩
/-- An image without a finding. -/
theorem image_no {l : B} (hf : imageP l = []) (ll g o cap : Nat) (hll : l.length = ll) (hcap : ll ≤ cap ∧ cap ≤ 9223372036854775807) (w : World) (hg : g < w.heap.size) (hs : SeenAt w g o l) (hw : KVars w) :
    Calls Tryz.prog 16 #[.slice (some ⟨g, o, none⟩) ll cap] w fun e W' => ∃ ao cap2, e = .returned (.slice ao 0 cap2) ∧ Hid (Below w.heap.size w W') := by
  refine (image_fi hf ll g o cap hll hcap w hg hs hw).mono ?_
  rintro e W' ⟨hb, ao, cap2, rfl, _⟩
  exact ⟨ao, cap2, rfl, Lib.hid hb⟩
def fi1 : List Fi := [⟨1, 0, 0, []⟩]
def fi2 : List Fi := [⟨3, 0, 0, []⟩, ⟨18, 2, 0, []⟩]
theorem same1 {W : World} {g : Nat} (cap : Nat) (hg : g < W.heap.size) (hF : FAt W (some ⟨g, 0, none⟩) fi1) : Calls Tryz.prog 15 #[.slice (some ⟨g, 0, none⟩) 1 cap, .slice (some ⟨W.heap.size, 0, none⟩) 1 1] (W.alloc (.cells #[.int .i64 1, .int .i64 0, .int .i64 0, .string ⟨#[]⟩] 34)) fun e w' => e = .returned (.bool true) ∧ Hid (Below W.heap.size W w') := by
  have hb := (Below.refl W.heap.size W).alloc (Nat.le_refl _) (.cells #[.int .i64 1, .int .i64 0, .int .i64 0, .string ⟨#[]⟩] 34)
  have c : Blk (W.alloc (.cells #[.int .i64 1, .int .i64 0, .int .i64 0, .string ⟨#[]⟩] 34)) W.heap.size #[.int .i64 1, .int .i64 0, .int .i64 0, .string ⟨#[]⟩] 34 := Blk.new _ _ _
  have hN : FAt (W.alloc (.cells #[.int .i64 1, .int .i64 0, .int .i64 0, .string ⟨#[]⟩] 34)) (some ⟨W.heap.size, 0, none⟩) fi1 := by
    intro i f hf
    rcases i with _ | i
    · obtain rfl : (⟨1, 0, 0, []⟩ : Fi) = f := by simpa [fi1] using hf
      exact ⟨_, 0, rfl, c.cell 0, c.cell 1, c.cell 2, c.cell 3⟩
    · simp [fi1] at hf
  refine (sameF_any fi1 fi1 _ _ cap 1 _ (by decide) (hF.below (fun g o e => by cases e; exact hg) hb) hN).mono ?_
  rintro e w' ⟨rfl, h⟩
  exact ⟨by rw [decide_eq_true rfl], Lib.hid (hb.trans (h.mono hb.size))⟩
theorem same2 {W : World} {g : Nat} (cap : Nat) (hg : g < W.heap.size) (hF : FAt W (some ⟨g, 0, none⟩) fi2) : Calls Tryz.prog 15 #[.slice (some ⟨g, 0, none⟩) 2 cap, .slice (some ⟨W.heap.size, 0, none⟩) 2 2] (W.alloc (.cells #[.int .i64 3, .int .i64 0, .int .i64 0, .string ⟨#[]⟩, .int .i64 18, .int .i64 2, .int .i64 0, .string ⟨#[]⟩] 34)) fun e w' => e = .returned (.bool true) ∧ Hid (Below W.heap.size W w') := by
  have hb := (Below.refl W.heap.size W).alloc (Nat.le_refl _) (.cells #[.int .i64 3, .int .i64 0, .int .i64 0, .string ⟨#[]⟩, .int .i64 18, .int .i64 2, .int .i64 0, .string ⟨#[]⟩] 34)
  have c : Blk (W.alloc (.cells #[.int .i64 3, .int .i64 0, .int .i64 0, .string ⟨#[]⟩, .int .i64 18, .int .i64 2, .int .i64 0, .string ⟨#[]⟩] 34)) W.heap.size #[.int .i64 3, .int .i64 0, .int .i64 0, .string ⟨#[]⟩, .int .i64 18, .int .i64 2, .int .i64 0, .string ⟨#[]⟩] 34 := Blk.new _ _ _
  have hN : FAt (W.alloc (.cells #[.int .i64 3, .int .i64 0, .int .i64 0, .string ⟨#[]⟩, .int .i64 18, .int .i64 2, .int .i64 0, .string ⟨#[]⟩] 34)) (some ⟨W.heap.size, 0, none⟩) fi2 := by
    intro i f hf
    rcases i with _ | _ | i
    · obtain rfl : (⟨3, 0, 0, []⟩ : Fi) = f := by simpa [fi2] using hf
      exact ⟨_, 0, rfl, c.cell 0, c.cell 1, c.cell 2, c.cell 3⟩
    · obtain rfl : (⟨18, 2, 0, []⟩ : Fi) = f := by simpa [fi2] using hf
      exact ⟨_, 0, rfl, c.cell 4, c.cell 5, c.cell 6, c.cell 7⟩
    · simp [fi2] at hf
  refine (sameF_any fi2 fi2 _ _ cap 2 _ (by decide) (hF.below (fun g o e => by cases e; exact hg) hb) hN).mono ?_
  rintro e w' ⟨rfl, h⟩
  exact ⟨by rw [decide_eq_true rfl], Lib.hid (hb.trans (h.mono hb.size))⟩
theorem clean2 {W : World} {g : Nat} (cap : Nat) (hF : FAt W (some ⟨g, 0, none⟩) fi2) : Calls Tryz.prog 12 #[.slice (some ⟨g, 0, none⟩) 2 cap] W fun e w' => e = .returned (.bool false) ∧ Hid (Below W.heap.size W w') := by
  refine (clean_any fi2 _ cap W (by decide) hF).mono ?_
  rintro e w' ⟨rfl, h⟩
  exact ⟨by rw [show cleanP fi2 = false by decide], Lib.hid h⟩
theorem clean1 {W : World} {g : Nat} (cap : Nat) (hF : FAt W (some ⟨g, 0, none⟩) fi2) : Calls Tryz.prog 12 #[.slice (some ⟨g, 4, none⟩) 1 cap] W fun e w' => e = .returned (.bool true) ∧ Hid (Below W.heap.size W w') := by
  have h1 : FAt W (some ⟨g, 4, none⟩) [⟨18, 2, 0, []⟩] := by
    intro i f hf
    rcases i with _ | i
    · obtain rfl : (⟨18, 2, 0, []⟩ : Fi) = f := by simpa using hf
      obtain ⟨_, _, e, e0, e1, e2, e3⟩ := hF 1 ⟨18, 2, 0, []⟩ rfl
      cases e
      exact ⟨_, _, rfl, e0, e1, e2, e3⟩
    · simp at hf
  refine (clean_any [⟨18, 2, 0, []⟩] _ cap W (by decide) h1).mono ?_
  rintro e w' ⟨rfl, h⟩
  exact ⟨by rw [show cleanP [⟨18, 2, 0, []⟩] = true by decide], Lib.hid h⟩
theorem print2 {W : World} {g : Nat} (cap : Nat) (hF : FAt W (some ⟨g, 0, none⟩) fi2) (hv : CVars W) : Calls Tryz.prog 11 #[.slice (some ⟨g, 0, none⟩) 2 cap] W fun e w' => e = .returned (.string ⟨#[109, 101, 116, 97, 32, 48, 10, 111, 114, 112, 104, 97, 110, 32, 50, 10]⟩) ∧ Hid (Below W.heap.size W w') := by
  have hp : printP fi2 = [109, 101, 116, 97, 32, 48, 10, 111, 114, 112, 104, 97, 110, 32, 50, 10] := by
    have i0 : Lib.itoa 0 = [48] := by unfold Lib.itoa; rw [if_neg (by omega)]; exact dec_small (by decide)
    have i2 : Lib.itoa 2 = [50] := by unfold Lib.itoa; rw [if_neg (by omega)]; exact dec_small (by decide)
    simp only [printP, fi2, List.flatMap_cons, List.flatMap_nil, lineP]
    simp [kindP, kindsP, i0, i2]
  refine (print_any fi2 _ cap W (by decide) (by intro f hf; simp [fi2] at hf; rcases hf with rfl | rfl <;> (unfold Fi.In; simp)) hF hv (fun k => ?_) (by intro f hf; simp [fi2] at hf; rcases hf with rfl | rfl <;> simp)).mono ?_
  · rcases k with _ | _ | k
    · simp [printP]
    · have := lineP_len ⟨3, 0, 0, []⟩ (by unfold Fi.In; simp)
      simp [printP, fi2] at this ⊢
      omega
    · rw [List.take_of_length_le (by simp [fi2]), hp]
      simp
  · rintro e w' ⟨rfl, h⟩
    rw [hp]
    exact ⟨rfl, Lib.hid h⟩
set_option maxRecDepth 100000 in
set_option maxHeartbeats 2000000 in
theorem fixed_any (h1 : imageP (baseP 128) = []) (h2 : imageP (pokedP (baseP 128) po2) = [⟨3, 0, 0, []⟩, ⟨18, 2, 0, []⟩]) (h3 : imageP ((baseP 128).drop 1) = [⟨1, 0, 0, []⟩]) (w : World) (hk : KVars w) (hc : CVars w) :
    Calls Tryz.prog 6 #[] w fun e w' => e = .returned (.bool true) ∧ Below w.heap.size w w' := by
  have hz := Lib.hid (baseP_len 128 (by omega))
  have hbase := base128
  have hK := Lib.hid hk
  have hC := Lib.hid hc
  replace h1 := Lib.hid h1
  replace h2 := Lib.hid h2
  replace h3 := Lib.hid h3
  clear hk hc
  generalize baseP 128 = z at *
  go_enter Tryz.func6, Tryz.ntmps6
  go_wp2_with (first | (go_at_call 7; (with_reducible refine (hbase _).mono ?_); rintro e V1 ⟨b, rfl, hB1, hge1, hb1⟩) | (go_at_call 9; refine (poked128 hz.out hB1.out).mono ?_; rintro e V2 ⟨b2, cp, rfl, hP2⟩; have hb2 := Lib.hid (hb1.out.trans (hP2.out.2.2.1.mono hb1.out.size)); have hK2 := Lib.hid (hK.out.below hb2.out); have hlen2 := Lib.hid ((pokedP_len z po2).trans hz.out); have hI2 := image_ne h2.out 2 rfl (by decide) 65536 b2 0 cp hlen2.out hP2.out.2.2.2 V2 hP2.out.2.1 hP2.out.1 hK2.out) | (go_at_call 16; refine hI2.mono ?_; rintro e V3 ⟨g3, c3, rfl, hP3, h32, h33⟩; clear hI2; have hb3 := Lib.hid (hb2.out.trans (hP3.out.1.mono hb2.out.size)); have hK3 := Lib.hid (hK.out.below hb3.out); have hB3 := Lib.hid (hB1.out.same ((hP2.out.2.2.1.trans (hP3.out.1.mono hP2.out.2.2.1.size)).block _ hB1.out.lt)); have hI3 := image_no h1.out 65536 b 0 65536 hz.out (by omega) V3 hB3.out.lt (SeenAt.of_blk hB3.out) hK3.out) | (go_at_call 16; refine hI3.mono ?_; rintro e V4 ⟨a4, c4, rfl, hP4⟩; clear hI3; have hb4 := Lib.hid (hb3.out.trans (hP4.out.mono hb3.out.size)); have hK4 := Lib.hid (hK.out.below hb4.out); have hB4 := Lib.hid (hB3.out.same (hP4.out.block _ hB3.out.lt)); have hI4 := image_ne h3.out 1 rfl (by decide) 65535 b 1 65535 (by rw [List.length_drop, hz.out]) (by omega) V4 hB4.out.lt ((SeenAt.of_blk hB4.out).tail 1) hK4.out) | (go_at_call 16; refine hI4.mono ?_; rintro e V5 ⟨g5, c5, rfl, hP5, h52, h53⟩; clear hI4; have hb5 := Lib.hid (hb4.out.trans (hP5.out.1.mono hb4.out.size)); have hS5 := same1 c5 hP5.out.2.2.2 hP5.out.2.1) | (go_at_call 15; refine hS5.mono ?_; rintro e V6 ⟨rfl, hP6⟩; clear hS5; have hb6 := Lib.hid (hb5.out.trans (hP6.out.mono hb5.out.size)); have hF6 := Lib.hid (hP3.out.2.1.below (fun g o e => by cases e; exact hP3.out.2.2.2) (hP4.out.trans ((hP5.out.1.trans (hP6.out.mono hP5.out.1.size)).mono hP4.out.size))); have hl6 := Lib.hid (Nat.lt_of_lt_of_le hP3.out.2.2.2 (hP4.out.trans ((hP5.out.1.trans (hP6.out.mono hP5.out.1.size)).mono hP4.out.size)).size); have hS6 := same2 c3 hl6.out hF6.out) | (go_at_call 15; refine hS6.mono ?_; rintro e V7 ⟨rfl, hP7⟩; clear hS6; have hb7 := Lib.hid (hb6.out.trans (hP7.out.mono hb6.out.size)); have hF7 := Lib.hid (hF6.out.below (fun g o e => by cases e; exact hl6.out) hP7.out); have hl7 := Lib.hid (Nat.lt_of_lt_of_le hl6.out hP7.out.size); have hS7 := clean2 c3 hF7.out) | (go_at_call 12; refine hS7.mono ?_; rintro e V8 ⟨rfl, hP8⟩; clear hS7; have hb8 := Lib.hid (hb7.out.trans (hP8.out.mono hb7.out.size)); have hF8 := Lib.hid (hF7.out.below (fun g o e => by cases e; exact hl7.out) hP8.out); have hl8 := Lib.hid (Nat.lt_of_lt_of_le hl7.out hP8.out.size); have hS8 := clean1 (c3 - 1) hF8.out) | (go_at_call 12; refine hS8.mono ?_; rintro e V9 ⟨rfl, hP9⟩; clear hS8; have hb9 := Lib.hid (hb8.out.trans (hP9.out.mono hb8.out.size)); have hF9 := Lib.hid (hF8.out.below (fun g o e => by cases e; exact hl8.out) hP9.out); have hS9 := print2 c3 hF9.out (hC.out.below hb9.out)) | (go_at_call 11; refine hS9.mono ?_; rintro e V10 ⟨rfl, hP10⟩; clear hS9; have hb10 := Lib.hid (hb9.out.trans (hP10.out.mono hb9.out.size))))
  go_ret
  exact ⟨rfl, hb10.out⟩
end Ck
end Go.Proofs.YtegplehbcdeeoaaGreatDoor
/- The image without a thing, in parts; what the checker says of it without its first byte. -/
namespace Go.Proofs.YtegplehbcdeeoaaGreatDoor
open Go.RowKit

namespace Ck
open Pk Pw
theorem image_short {l : B} (hl : l.length % 512 ≠ 0) : imageP l = [⟨1, 0, 0, []⟩] := by
  unfold imageP openP
  rw [if_neg (fun h => hl h.1.2.2)]
  rfl
theorem image_tail : imageP ((baseP 128).drop 1) = [⟨1, 0, 0, []⟩] := by
  have hz := baseP_len 128 (by omega)
  generalize baseP 128 = z at *
  refine image_short ?_
  rw [List.length_drop]
  omega
/-- A bit set, in the bitmap alone. -/
def bitIn (n : Nat) (M : B) (i : Nat) : B := if i < dataN n ∨ n ≤ i then M.set (i / 8) (UInt8.ofNat ((M.getD (i / 8) 0).toNat ||| 2 ^ (i % 8))) else M
theorem bitIn_len (n : Nat) (M : B) (i : Nat) : (bitIn n M i).length = M.length := by unfold bitIn; split <;> simp
theorem bitsIn_len (n : Nat) (M : B) : ∀ k, ((List.range k).foldl (bitIn n) M).length = M.length
  | 0 => rfl
  | k + 1 => by
    rw [List.range_succ, List.foldl_append]
    show (bitIn n _ k).length = _
    rw [bitIn_len, bitsIn_len n M k]
theorem bitOn_form (n : Nat) (A M C : B) (hA : A.length = 50176) (hM : M.length = 512) (i : Nat) (hi : i < 4096) : bitOn n (A ++ (M ++ C)) i = A ++ (bitIn n M i ++ C) := by
  have hg : (A ++ (M ++ C)).getD (50176 + i / 8) 0 = M.getD (i / 8) 0 := by
    rw [List.getD_eq_getElem?_getD, List.getElem?_append_right (by omega), hA, Nat.add_sub_cancel_left, List.getElem?_append_left (by omega), List.getD_eq_getElem?_getD]
  unfold bitOn bitIn
  rw [hg]
  split
  · rw [List.set_append_right _ _ (by omega), hA, Nat.add_sub_cancel_left, List.set_append_left _ _ (by omega)]
  · rfl
theorem bitsOn_form (n : Nat) (A M C : B) (hA : A.length = 50176) (hM : M.length = 512) : ∀ k, k ≤ 4096 → (List.range k).foldl (bitOn n) (A ++ (M ++ C)) = A ++ ((List.range k).foldl (bitIn n) M ++ C)
  | 0, _ => rfl
  | k + 1, hk => by
    rw [List.range_succ, List.foldl_append, List.foldl_append, bitsOn_form n A M C hA hM k (by omega)]
    exact bitOn_form n A _ C hA (by rw [bitsIn_len, hM]) k (by omega)
end Ck
end Go.Proofs.YtegplehbcdeeoaaGreatDoor
/- The image without a thing, written out. -/
namespace Go.Proofs.YtegplehbcdeeoaaGreatDoor
open Go.RowKit

namespace Ck
open Pk Pw
theorem zs_add (a b : Nat) : zs (a + b) = zs a ++ zs b := by unfold zs; rw [List.replicate_append_replicate]
theorem set_off (A X : B) (i j : Nat) (c : UInt8) (h : i = A.length + j) : (A ++ X).set i c = A ++ X.set j c := by
  subst h
  rw [List.set_append_right _ _ (by omega), Nat.add_sub_cancel_left]
def mapA : B := superP 128 ++ zs 49664
def mapM : B := (List.range 4096).foldl (bitIn 128) (zs 512)
def mapC : B := ((zs 14848).set 64 2).set 66 2
theorem mapA_len : mapA.length = 50176 := by
  unfold mapA zs
  rw [List.length_append, super_len, List.length_replicate]
theorem mapM_len : mapM.length = 512 := by
  unfold mapM
  rw [bitsIn_len]
  unfold zs
  rw [List.length_replicate]
theorem base_form : baseP 128 = mapA ++ (mapM ++ mapC) := by
  have h0 : lay (zs (512 * 128)) 0 (superP 128) = mapA ++ (zs 512 ++ zs 14848) := by
    have h := lay_app [] (superP 128) 65024
    rw [List.nil_append, super_len, List.length_nil, List.nil_append] at h
    rw [show 512 * 128 = 512 + 65024 by omega, h, show (65024 : Nat) = 49664 + (512 + 14848) by omega, zs_add, zs_add, mapA, List.append_assoc]
  unfold baseP bitsOn
  rw [h0, show 4096 * ((128 + 4095) / 4096) = 4096 by omega, bitsOn_form 128 mapA (zs 512) (zs 14848) mapA_len (by unfold zs; rw [List.length_replicate]) 4096 (Nat.le_refl _)]
  have hM := mapM_len
  have hA := mapA_len
  rw [show (List.range 4096).foldl (bitIn 128) (zs 512) = mapM from rfl, show 512 * inodesN 128 + 64 = 50752 by decide, show 512 * inodesN 128 + 66 = 50754 by decide]
  rw [set_off mapA _ 50752 576 _ (by omega), set_off mapM _ 576 64 _ (by omega), set_off mapA _ 50754 578 _ (by omega), set_off mapM _ 578 66 _ (by omega)]
  rfl
end Ck
end Go.Proofs.YtegplehbcdeeoaaGreatDoor
/- The bitmap of the image without a thing: what each bit says. -/
namespace Go.Proofs.YtegplehbcdeeoaaGreatDoor
open Go.RowKit

namespace Ck
open Pk Pw
theorem byte_bit : ∀ (v : Fin 256) (a b : Fin 8), ((UInt8.ofNat (v.val ||| 2 ^ a.val)).toNat / 2 ^ b.val) % 2 = if a = b then 1 else (v.val / 2 ^ b.val) % 2 := by decide +kernel
theorem bitIn_at (n : Nat) (M : B) (i j : Nat) (hi : i < 8 * M.length) : bitAt (bitIn n M i) j = if j = i ∧ (i < dataN n ∨ n ≤ i) then true else bitAt M j := by
  unfold bitIn
  by_cases c : i < dataN n ∨ n ≤ i
  · rw [if_pos c]
    unfold bitAt
    by_cases hb : i / 8 = j / 8
    · have hlt : j / 8 < M.length := by omega
      have hz : M.getD (j / 8) 0 = M[j / 8] := by rw [List.getD_eq_getElem?_getD, List.getElem?_eq_getElem hlt]; rfl
      have hy : (M.set (i / 8) (UInt8.ofNat ((M.getD (i / 8) 0).toNat ||| 2 ^ (i % 8)))).getD (j / 8) 0 = UInt8.ofNat (M[j / 8].toNat ||| 2 ^ (i % 8)) := by
        rw [List.getD_eq_getElem?_getD, hb, List.getElem?_set_self hlt, hz]; rfl
      have := byte_bit ⟨M[j / 8].toNat, UInt8.toNat_lt _⟩ ⟨i % 8, by omega⟩ ⟨j % 8, by omega⟩
      rw [hy, hz]
      simp only at this
      rw [this]
      by_cases e : j = i
      · subst e; simp [c]
      · have hne : ¬ i % 8 = j % 8 := by omega
        simp [e, hne]
    · have e : ¬ j = i := by intro h; subst h; exact hb rfl
      rw [List.getD_eq_getElem?_getD, List.getElem?_set_ne hb, ← List.getD_eq_getElem?_getD]
      simp [e]
  · rw [if_neg c, if_neg (fun h => c h.2)]
theorem bitsIn_at (n : Nat) (M : B) (j : Nat) (hj : j < 8 * M.length) : ∀ k, k ≤ 8 * M.length → bitAt ((List.range k).foldl (bitIn n) M) j = if j < k ∧ (j < dataN n ∨ n ≤ j) then true else bitAt M j
  | 0, _ => by rw [if_neg (by omega)]; rfl
  | k + 1, hk => by
    rw [List.range_succ, List.foldl_append]
    show bitAt (bitIn n _ k) j = _
    rw [bitIn_at n _ k j (by rw [bitsIn_len]; omega), bitsIn_at n M j hj k (by omega)]
    by_cases e : j = k
    · subst e
      by_cases c : j < dataN n ∨ n ≤ j
      · rw [if_pos ⟨rfl, c⟩, if_pos ⟨by omega, c⟩]
      · rw [if_neg (fun h => c h.2), if_neg (fun h => c h.2), if_neg (fun h => c h.2)]
    · rw [if_neg (fun h => e h.1)]
      by_cases c : j < k ∧ (j < dataN n ∨ n ≤ j)
      · rw [if_pos c, if_pos ⟨by omega, c.2⟩]
      · rw [if_neg c, if_neg (fun h => c ⟨by omega, h.2⟩)]
/-- A block of the bitmap without a thing: the metadata's bits and those beyond the disk are set, no other. -/
theorem mapM_at (j : Nat) (hj : j < 4096) : bitAt mapM j = decide (j < 101 ∨ 128 ≤ j) := by
  have hl : (zs 512).length = 512 := by unfold zs; rw [List.length_replicate]
  have hz : bitAt (zs 512) j = false := by
    have : (zs 512).getD (j / 8) 0 = 0 := by
      rw [List.getD_eq_getElem?_getD]
      unfold zs
      rw [List.getElem?_replicate]
      split <;> rfl
    unfold bitAt
    rw [this]
    simp
  unfold mapM
  rw [bitsIn_at 128 (zs 512) j (by rw [hl]; omega) 4096 (by rw [hl]; omega), show dataN 128 = 101 by decide, hz]
  by_cases c : j < 101 ∨ 128 ≤ j
  · rw [if_pos ⟨by omega, c⟩, decide_eq_true c]
  · rw [if_neg (fun h => c h.2), decide_eq_false c]
end Ck
end Go.Proofs.YtegplehbcdeeoaaGreatDoor
