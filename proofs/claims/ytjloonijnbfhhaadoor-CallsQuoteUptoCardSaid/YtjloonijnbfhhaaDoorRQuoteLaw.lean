/- The walk of CallsQuote: quoted words say their texts, unlike ones unlike; cut or grown they are none. -/
import Derived.Test.YtjloonijnbfhhaaDoorRKnown
import Derived.IntWalk
namespace Go.Proofs.YtjloonijnbfhhaaDoor
open Go.RowKit Go.Maps Go.WideShapes Qw

namespace Rw
set_option maxRecDepth 100000 in
set_option maxHeartbeats 2000000 in
theorem bareO_any (s : ByteArray) (w : World) (hs : s.size ≤ 1000000000000000) : Calls Tryd.prog 20 #[.string s] w fun e w' => e = .returned (.bool (Cl.bare (bs s))) ∧ w = w' := by
  go_enter Tryd.func20, Tryd.ntmps20
  go_wp2
  go_loop [3] (fun i => ∃ k : Nat, k ≤ s.size ∧ i = .int .i64 k ∧ ((bs s).take k).all Cl.isBare = true) (fun i => s.size - (intOf i).toNat)
  case atStart => exact ⟨0, Nat.zero_le _, rfl, rfl⟩
  case round =>
    obtain ⟨k, hk, rfl, ha⟩ := hrel
    have HA := Lib.hid ha
    clear ha
    by_cases hlt : k < s.size
    · have hb := isBare_nat s[k]
      have HB := Lib.hid hb
      have HN := Lib.hid (fun h => bare_no s k hlt h)
      have HY := Lib.hid (fun (h : Cl.isBare s[k] = true) => (show ((bs s).take (k + 1)).all Cl.isBare = true by rw [bs_take_succ s k hlt, List.all_append, HA.out]; simp [h]))
      clear hb
      rcases (show s[k].toNat < 45 ∨ s[k].toNat = 45 ∨ s[k].toNat = 46 ∨ s[k].toNat = 47 ∨ (48 ≤ s[k].toNat ∧ s[k].toNat ≤ 57) ∨ (58 ≤ s[k].toNat ∧ s[k].toNat ≤ 64) ∨ (65 ≤ s[k].toNat ∧ s[k].toNat ≤ 90) ∨ (91 ≤ s[k].toNat ∧ s[k].toNat ≤ 94) ∨ s[k].toNat = 95 ∨ s[k].toNat = 96 ∨ (97 ≤ s[k].toNat ∧ s[k].toNat ≤ 122) ∨ 123 ≤ s[k].toNat by omega) with h | h | h | h | ⟨h, h'⟩ | ⟨h, h'⟩ | ⟨h, h'⟩ | ⟨h, h'⟩ | h | h | ⟨h, h'⟩ | h
      all_goals
        try have n45 : ((s[k].toNat : Int) == 45) = false := (by rw [beq_eq_false_iff_ne]; omega)
        try have n46 : ((s[k].toNat : Int) == 46) = false := (by rw [beq_eq_false_iff_ne]; omega)
        try have n47 : ((s[k].toNat : Int) == 47) = false := (by rw [beq_eq_false_iff_ne]; omega)
        try have n95 : ((s[k].toNat : Int) == 95) = false := (by rw [beq_eq_false_iff_ne]; omega)
        try have g57 : decide ((s[k].toNat : Int) ≤ 57) = false := (by rw [decide_eq_false_iff_not]; omega)
        try have g90 : decide ((s[k].toNat : Int) ≤ 90) = false := (by rw [decide_eq_false_iff_not]; omega)
        try have g122 : decide ((s[k].toNat : Int) ≤ 122) = false := (by rw [decide_eq_false_iff_not]; omega)
        go_wp2
      all_goals
        first
          | (go_round
             case rel => exact ⟨k + 1, by omega, by go_num, HY.out (by rw [HB.out]; simp only [Bool.or_eq_true, decide_eq_true_eq]; omega)⟩
             case measure => simp [intOf]; omega)
          | (go_ret
             exact ⟨ret_bool (HN.out (by rw [HB.out]; simp only [Bool.or_eq_false_iff, decide_eq_false_iff_not]; omega)).symm, rfl⟩)
    · have hkz : k = s.size := by omega
      subst hkz
      have HE := Lib.hid (bare_end s (by have := HA.out; rwa [List.take_of_length_le (by rw [bs_len]; exact Nat.le_refl _)] at this))
      go_wp2
      go_ret
      exact ⟨ret_bool (by rw [HE.out]), rfl⟩
theorem unquote_is (s : ByteArray) (w : World) (hs : s.size ≤ 1000000000000) (x : List UInt8) (h : Cl.unquote (bs s) = some x) : Calls Tryd.prog 9 #[.string s] w fun e w' => e = .returned (.tuple #[.string (mk x), .int .i64 0]) ∧ Below w.heap.size w w' := by
  refine (unquote_any s w hs).mono ?_
  rintro e w' ⟨rfl, hb⟩
  rw [ux, ue, h]
  exact ⟨rfl, hb⟩
theorem unquote_none (s : ByteArray) (w : World) (hs : s.size ≤ 1000000000000) (h : Cl.unquote (bs s) = none) : Calls Tryd.prog 9 #[.string s] w fun e w' => e = .returned (.tuple #[.string ⟨#[]⟩, .int .i64 250]) ∧ Below w.heap.size w w' := by
  refine (unquote_any s w hs).mono ?_
  rintro e w' ⟨rfl, hb⟩
  rw [ux, ue, h]
  exact ⟨rfl, hb⟩
theorem eq_quote {s t q r : ByteArray} (hq : Cl.quote (bs s) = bs q) (hr : Cl.quote (bs t) = bs r) : (q.toList == r.toList) = (s.toList == t.toList) := by
  rw [toList_bs, toList_bs, toList_bs, toList_bs, ← hq, ← hr, Bool.eq_iff_iff, beq_iff_eq, beq_iff_eq]
  exact ⟨Cl.quote_inj, fun e => by rw [e]⟩
theorem quote_is (s : ByteArray) (w : World) (hs : s.size ≤ 1000000000000) (q : ByteArray) (h : Cl.quote (bs s) = bs q) : Calls Tryd.prog 11 #[.string s] w fun e w' => e = .returned (.string q) ∧ Below w.heap.size w w' := by
  refine (quote_any s w hs).mono ?_
  rintro e w' ⟨rfl, hb⟩
  rw [h]
  exact ⟨rfl, hb⟩
theorem unquote_back (s : ByteArray) (w : World) (q : ByteArray) (hq : q.size ≤ 1000000000000) (h : Cl.quote (bs s) = bs q) : Calls Tryd.prog 9 #[.string q] w fun e w' => e = .returned (.tuple #[.string s, .int .i64 0]) ∧ Below w.heap.size w w' :=
  unquote_is q w hq (bs s) (by rw [← h]; exact Cl.unquote_quote (bs s))
theorem quote_byte {s q : ByteArray} (h : Cl.quote (bs s) = bs q) (k : Nat) (hk : k < q.size) : 32 ≤ q[k].toNat ∧ q[k].toNat ≤ 126 := by
  have := Cl.quote_chars (bs s) q[k] (by rw [h]; exact List.mem_of_getElem? (bs_get q k hk))
  exact ⟨UInt8.le_iff_toNat_le.1 this.1, UInt8.le_iff_toNat_le.1 this.2⟩
theorem quote_size {s q : ByteArray} (h : Cl.quote (bs s) = bs q) : (q.size : Int) ≤ 4 * (s.size : Int) + 2 := by
  have := Cl.quote_len (bs s)
  rw [h, bs_len, bs_len] at this
  omega
theorem quote_long {s q : ByteArray} (h : Cl.quote (bs s) = bs q) (hb : Cl.bare (bs s) = false) : s.size + 2 ≤ q.size ∧ (bs q)[0]? = some 34 ∧ (bs q)[q.size - 1]? = some 34 := by
  have e : Cl.quote (bs s) = 34 :: ((bs s).flatMap Cl.esc ++ [34]) := by unfold Cl.quote; rw [hb]; rfl
  have h1 := (Cl.flat_len (bs s)).2
  rw [h] at e
  have hl := bs_len q
  rw [e] at hl
  simp only [List.length_cons, List.length_append, List.length_nil] at hl
  rw [bs_len] at h1
  refine ⟨by omega, by rw [e]; rfl, ?_⟩
  rw [e, show q.size - 1 = ((bs s).flatMap Cl.esc).length + 1 by omega, List.getElem?_cons_succ, List.getElem?_append_right (Nat.le_refl _)]
  simp

set_option maxRecDepth 100000 in
set_option maxHeartbeats 4000000 in
theorem quote_yes (s t q r : ByteArray) (w : World) (hs : s.size ≤ 1048576) (ht : t.size ≤ 1048576) (hv : Vars w) (hq : Cl.quote (bs s) = bs q) (hr : Cl.quote (bs t) = bs r) (hb : Cl.bare (bs s) = true) : Calls Tryd.prog 4 #[.string s, .string t] w fun e w' => e = .returned (.bool true) ∧ Below w.heap.size w w' := by
  obtain rfl : s = q := by
    refine bs_inj (Eq.trans ?_ hq)
    unfold Cl.quote; rw [if_pos hb]
  have HQ := Lib.hid hq
  have HR := Lib.hid hr
  have HE := Lib.hid (eq_quote hq hr)
  have hz := quote_size hq
  have hne : s.toList.isEmpty = false := by
    rw [toList_bs]
    have h2 : ((bs s).all Cl.isBare && !(bs s).isEmpty) = true := hb
    simp only [Bool.and_eq_true, Bool.not_eq_true'] at h2
    exact h2.2
  have hs2 : s.size ≤ 1000000000000 := by omega
  have hs3 : s.size ≤ 1000000000000000 := by omega
  have ht2 : t.size ≤ 1000000000000 := by omega
  have HB := Lib.hid hb
  clear hq hr hb
  cases hst : (s.toList == t.toList)
  all_goals
    have hqr := HE.out
    rw [hst] at hqr
    go_enter Tryd.func4, Tryd.ntmps4
    go_wp2_with fail
    refine (known_any _ hv).mono ?_
    rintro e w1 ⟨rfl, hb1⟩
    have hs1 := hb1.size
    go_wp2_with fail
    refine (quote_is s _ hs2 s HQ.out).mono ?_
    rintro e w2 ⟨rfl, hb2⟩
    have hz2 := hb2.size
    go_wp2_with fail
    refine (quote_is t _ ht2 r HR.out).mono ?_
    rintro e w3 ⟨rfl, hb3⟩
    have hz3 := hb3.size
    go_wp2_with fail
    refine (unquote_back s _ s hs2 HQ.out).mono ?_
    rintro e w4 ⟨rfl, hb4⟩
    have hz4 := hb4.size
    go_wp2_with (first | (go_at_call 19; refine (num_any _ _).mono ?_; rintro e w' ⟨rfl, rfl⟩) | (go_at_call 20; refine (bareO_any s _ hs3).mono ?_; rw [HB.out]; rintro e w' ⟨rfl, rfl⟩))
    go_loop [9] (fun i => ∃ k : Nat, k ≤ s.size ∧ i = .int .i64 k) (fun i => s.size - (intOf i).toNat)
    case atStart => exact ⟨0, Nat.zero_le _, rfl⟩
    case round =>
      obtain ⟨k, hk, rfl⟩ := hrel
      by_cases hlt : k < s.size
      · obtain ⟨h1, h2⟩ := quote_byte HQ.out k hlt
        go_wp2
        go_round
        case rel => exact ⟨k + 1, by omega, by go_num⟩
        case measure => simp [intOf]; omega
      · obtain rfl : k = s.size := by omega
        go_wp2_with (go_at_call 20; refine (bareO_any s _ hs3).mono ?_; rw [HB.out]; rintro e w' ⟨rfl, rfl⟩)
        go_ret
        exact ⟨rfl, (hb1.trans (hb2.mono hs1)).trans ((hb3.mono (by omega)).trans (hb4.mono (by omega)))⟩

set_option maxRecDepth 100000 in
set_option maxHeartbeats 4000000 in
theorem quote_no (s t q r : ByteArray) (w : World) (hs : s.size ≤ 1048576) (ht : t.size ≤ 1048576) (hv : Vars w) (hq : Cl.quote (bs s) = bs q) (hr : Cl.quote (bs t) = bs r) (hb : Cl.bare (bs s) = false) : Calls Tryd.prog 4 #[.string s, .string t] w fun e w' => e = .returned (.bool true) ∧ Below w.heap.size w w' := by
  obtain ⟨hlong, hq0, hq1⟩ := quote_long hq hb
  have hz := quote_size hq
  have hqs : (q.toList == s.toList) = false := by
    rw [toList_bs, toList_bs, beq_eq_false_iff_ne]
    intro e
    have := congrArg List.length e
    rw [bs_len, bs_len] at this
    omega
  have k0 : q[0].toNat = 34 := by
    have := bs_get q 0 (by omega)
    rw [hq0] at this
    injection this with this
    rw [← this]; rfl
  have k1 : ∀ h : q.size - 1 < q.size, q[q.size - 1].toNat = 34 := by
    intro h
    have := bs_get q (q.size - 1) h
    rw [hq1] at this
    injection this with this
    rw [← this]; rfl
  have HX : Hid (Cl.unquote (bs (q ++ ⟨#[120]⟩)) = none) := by
    have e : bs (q ++ ⟨#[120]⟩) = bs q ++ [120] := by simp [bs]
    show Cl.unquote _ = none
    rw [e, ← hq]; exact Cl.unquote_more _ _ hb (by simp)
  have HY : Hid (Cl.unquote (bs (q ++ ⟨#[32]⟩)) = none) := by
    have e : bs (q ++ ⟨#[32]⟩) = bs q ++ [32] := by simp [bs]
    show Cl.unquote _ = none
    rw [e, ← hq]; exact Cl.unquote_more _ _ hb (by simp)
  have HC := Lib.hid (fun (i : Nat) (hi : i < q.size) => (show Cl.unquote (bs (q.extract 0 i)) = none by
    have e : bs (q.extract 0 i) = (bs q).take i := by rw [extract_part]; simp
    rw [e, ← hq]; exact Cl.unquote_cut _ hb i (by rw [hq, bs_len]; exact hi)))
  have HQ := Lib.hid hq
  have HR := Lib.hid hr
  have HE := Lib.hid (eq_quote hq hr)
  have hs2 : s.size ≤ 1000000000000 := by omega
  have hs3 : s.size ≤ 1000000000000000 := by omega
  have ht2 : t.size ≤ 1000000000000 := by omega
  have hqz : q.size ≤ 5000000 := by omega
  have hq2 : q.size ≤ 1000000000000 := by omega
  have hq3 : (q ++ ⟨#[120]⟩ : ByteArray).size ≤ 1000000000000 := by rw [ByteArray.size_append]; show q.size + 1 ≤ _; omega
  have hq4 : (q ++ ⟨#[32]⟩ : ByteArray).size ≤ 1000000000000 := by rw [ByteArray.size_append]; show q.size + 1 ≤ _; omega
  have HB := Lib.hid hb
  have K0 := Lib.hid k0
  have K1 := Lib.hid k1
  clear hq hr hb hq0 hq1 k0 k1
  cases hst : (s.toList == t.toList)
  all_goals
    have hqr := HE.out
    rw [hst] at hqr
    go_enter Tryd.func4, Tryd.ntmps4
    go_wp2_with fail
    refine (known_any _ hv).mono ?_
    rintro e w1 ⟨rfl, hb1⟩
    have hs1 := hb1.size
    go_wp2_with fail
    refine (quote_is s _ hs2 q HQ.out).mono ?_
    rintro e w2 ⟨rfl, hb2⟩
    have hz2 := hb2.size
    go_wp2_with fail
    refine (quote_is t _ ht2 r HR.out).mono ?_
    rintro e w3 ⟨rfl, hb3⟩
    have hz3 := hb3.size
    go_wp2_with fail
    refine (unquote_back s _ q hq2 HQ.out).mono ?_
    rintro e w4 ⟨rfl, hb4⟩
    have hz4 := hb4.size
    go_wp2_with (first | (go_at_call 19; refine (num_any _ _).mono ?_; rintro e w' ⟨rfl, rfl⟩) | (go_at_call 20; refine (bareO_any s _ hs3).mono ?_; rw [HB.out]; rintro e w' ⟨rfl, rfl⟩))
    go_loop [9] (fun i => ∃ k : Nat, k ≤ q.size ∧ i = .int .i64 k) (fun i => q.size - (intOf i).toNat)
    case atStart => exact ⟨0, Nat.zero_le _, rfl⟩
    case round =>
      obtain ⟨k, hk, rfl⟩ := hrel
      by_cases hlt : k < q.size
      · obtain ⟨h1, h2⟩ := quote_byte HQ.out k hlt
        go_wp2
        go_round
        case rel => exact ⟨k + 1, by omega, by go_num⟩
        case measure => simp [intOf]; omega
      · obtain rfl : k = q.size := by omega
        have k0 := K0.out
        have k1 := K1.out (by omega)
        have hq2i : (2 : Int) ≤ (q.size : Int) := by omega
        go_wp2_with (go_at_call 20; refine (bareO_any s _ hs3).mono ?_; rw [HB.out]; rintro e w' ⟨rfl, rfl⟩)
        go_loopw [10] (fun v wr => ∃ k : Nat, k ≤ q.size ∧ v = .int .i64 k ∧ Below w4.heap.size w4 wr) (fun v _ => q.size - (intOf v).toNat)
        case atStart => exact ⟨0, Nat.zero_le _, rfl, Below.refl _ _⟩
        case round =>
          obtain ⟨k, hk, rfl, hnx⟩ := hrel
          have hsz := hnx.size
          by_cases hlt : k < q.size
          · have HK := Lib.hid (HC.out k hlt)
            have hks : (q.extract 0 k).size ≤ 1000000000000 := by rw [ByteArray.size_extract]; omega
            have h20 : (k : Int) < 600 ∨ (600 ≤ (k : Int) ∧ (k : Int) < (q.size : Int) - 20) ∨ (600 ≤ (k : Int) ∧ (q.size : Int) - 20 ≤ (k : Int)) := by omega
            rcases h20 with h20 | ⟨h20, h21⟩ | ⟨h20, h21⟩
            · go_wp2_with (first | (go_at_call 9; refine (unquote_none _ _ hks HK.out).mono ?_; rintro e w5 ⟨rfl, hb5⟩) | (go_at_call 19; refine (num_any _ _).mono ?_; rintro e w' ⟨rfl, rfl⟩))
              go_roundw
              case rel => exact ⟨k + 1, by omega, by go_num, hnx.trans (hb5.mono hsz)⟩
              case measure => simp [intOf]; omega
            · go_wp2
              go_roundw
              case rel => exact ⟨k + 1, by omega, by go_num, hnx⟩
              case measure => simp [intOf]; omega
            · go_wp2_with (first | (go_at_call 9; refine (unquote_none _ _ hks HK.out).mono ?_; rintro e w5 ⟨rfl, hb5⟩) | (go_at_call 19; refine (num_any _ _).mono ?_; rintro e w' ⟨rfl, rfl⟩))
              go_roundw
              case rel => exact ⟨k + 1, by omega, by go_num, hnx.trans (hb5.mono hsz)⟩
              case measure => simp [intOf]; omega
          · go_wp2_with fail
            refine (unquote_none _ _ hq3 HX.out).mono ?_
            rintro e w5 ⟨rfl, hb5⟩
            have hz5 := hb5.size
            go_wp2_with fail
            refine (unquote_none _ _ hq4 HY.out).mono ?_
            rintro e w6 ⟨rfl, hb6⟩
            go_wp2_with (go_at_call 19; refine (num_any _ _).mono ?_; rintro e w' ⟨rfl, rfl⟩)
            go_ret
            exact ⟨rfl, ((hb1.trans (hb2.mono hs1)).trans ((hb3.mono (by omega)).trans (hb4.mono (by omega)))).trans ((hnx.mono (by omega)).trans ((hb5.mono (by omega)).trans (hb6.mono (by omega))))⟩
theorem quoteLaw_any (s t : ByteArray) (w : World) (hs : s.size ≤ 1048576) (ht : t.size ≤ 1048576) (hv : Vars w) : Calls Tryd.prog 4 #[.string s, .string t] w fun e w' => e = .returned (.bool true) ∧ Below w.heap.size w w' := by
  cases hb : Cl.bare (bs s) with
  | true => exact quote_yes s t (mk (Cl.quote (bs s))) (mk (Cl.quote (bs t))) w hs ht hv rfl rfl hb
  | false => exact quote_no s t (mk (Cl.quote (bs s))) (mk (Cl.quote (bs t))) w hs ht hv rfl rfl hb
end Rw
end Go.Proofs.YtjloonijnbfhhaaDoor
