/- The walks of digits in base sixteen, of marks, of quoted words and of Unquote: the program's. -/
import Derived.Test.YtjloonijnbfhhaaDoorQBare
namespace Go.Proofs.YtjloonijnbfhhaaDoor
open Go.RowKit

theorem bytesT : BytesT Tryd.prog 45 5 := ⟨Tryd.underlying45, Tryd.underlying5, by kernel_rfl⟩

namespace Qw
theorem digit_nat (c : UInt8) : (Cl.digit c).toNat = if 48 ≤ c.toNat ∧ c.toNat ≤ 57 then c.toNat - 48 else if 97 ≤ c.toNat ∧ c.toNat ≤ 102 then c.toNat - 87 else if 65 ≤ c.toNat ∧ c.toNat ≤ 70 then c.toNat - 55 else 16 :=
  Cl.all_u8 (P := fun c => (Cl.digit c).toNat = if 48 ≤ c.toNat ∧ c.toNat ≤ 57 then c.toNat - 48 else if 97 ≤ c.toNat ∧ c.toNat ≤ 102 then c.toNat - 87 else if 65 ≤ c.toNat ∧ c.toNat ≤ 70 then c.toNat - 55 else 16) (by decide +kernel) c
theorem digit_le (c : UInt8) : (Cl.digit c).toNat ≤ 16 := by rw [digit_nat]; repeat' split
                                                             all_goals omega

set_option maxRecDepth 100000 in
theorem digit_any (c : UInt8) (w : World) : Calls Tryd.prog 74 #[.int .u8 c.toNat] w fun e w' => e = .returned (.int .u8 (Cl.digit c).toNat) ∧ w = w' := by
  have hlt := u8_lt c
  have hb := digit_nat c
  generalize (Cl.digit c).toNat = r at *
  generalize c.toNat = n at *
  have HB := Lib.hid hb
  clear hb
  rcases (show n < 48 ∨ (48 ≤ n ∧ n ≤ 57) ∨ (58 ≤ n ∧ n ≤ 64) ∨ (65 ≤ n ∧ n ≤ 70) ∨ (71 ≤ n ∧ n ≤ 96) ∨ (97 ≤ n ∧ n ≤ 102) ∨ 103 ≤ n by omega) with h | ⟨h, h'⟩ | ⟨h, h'⟩ | ⟨h, h'⟩ | ⟨h, h'⟩ | ⟨h, h'⟩ | h
  all_goals
    go_enter Tryd.func74, Tryd.ntmps74
    go_wp2
    go_ret
    refine ⟨ret_int ?_, rfl⟩
    rw [HB.out]
    repeat' split
    all_goals omega

/-- What mark answers. -/
def mx (l : List UInt8) : UInt8 := ((Cl.mark l).map (·.1)).getD 0
def mn (l : List UInt8) : Nat := ((Cl.mark l).map (·.2)).getD 0
theorem bs1 (s : ByteArray) (h : 0 < s.size) : bs s = s[0] :: (bs s).drop 1 := bs_drop s 0 h
theorem bs2 (s : ByteArray) (h : 1 < s.size) : bs s = s[0] :: s[1] :: (bs s).drop 2 := by
  have h1 := bs1 s (by omega)
  rw [bs_drop s 1 h] at h1; exact h1
theorem bs4 (s : ByteArray) (h : 3 < s.size) : bs s = s[0] :: s[1] :: s[2] :: s[3] :: (bs s).drop 4 := by
  have h1 := bs2 s (by omega)
  rw [bs_drop s 2 (by omega), bs_drop s 3 h] at h1; exact h1
theorem u8_eq {c : UInt8} {n : Nat} (hn : n < 256) : c = UInt8.ofNat n ↔ c.toNat = n := by
  constructor
  · rintro rfl; simp; omega
  · intro h; rw [← h]; simp
theorem u8_lt_iff {c d : UInt8} : c < d ↔ c.toNat < d.toNat := UInt8.lt_iff_toNat_lt

theorem mark_bad (s : ByteArray) (h : 0 < s.size) (hc : s[0].toNat < 32 ∨ 126 < s[0].toNat ∨ s[0].toNat = 34) : Cl.mark (bs s) = none := by
  rw [bs1 s h]
  unfold Cl.mark
  simp only
  rw [if_pos]
  rcases hc with hc | hc | hc
  · left; rw [u8_lt_iff]; exact hc
  · right; left; rw [u8_lt_iff]; exact hc
  · right; right; exact (u8_eq (n := 34) (by omega)).2 hc
theorem mark_ok {s : ByteArray} (h : 0 < s.size) (hc : ¬ (s[0].toNat < 32 ∨ 126 < s[0].toNat ∨ s[0].toNat = 34)) : ¬ (s[0] < 32 ∨ (126 : UInt8) < s[0] ∨ s[0] = 34) := by
  rintro (h1 | h1 | h1)
  · rw [u8_lt_iff] at h1; exact hc (.inl h1)
  · rw [u8_lt_iff] at h1; exact hc (.inr (.inl h1))
  · exact hc (.inr (.inr (by rw [h1]; rfl)))
theorem mark_self (s : ByteArray) (h : 0 < s.size) (hc : ¬ (s[0].toNat < 32 ∨ 126 < s[0].toNat ∨ s[0].toNat = 34)) (h92 : s[0].toNat ≠ 92) : Cl.mark (bs s) = some (s[0], 1) := by
  have h1 := mark_ok h hc
  rw [bs1 s h]
  unfold Cl.mark
  simp only
  rw [if_neg h1, if_pos (fun e => h92 (by rw [e]; rfl))]
theorem mark_back1 (s : ByteArray) (h : s.size = 1) (h92 : s[0].toNat = 92) : Cl.mark (bs s) = none := by
  have e : s[0] = 92 := (u8_eq (n := 92) (by omega)).2 h92
  have e2 : (bs s).drop 1 = [] := List.drop_eq_nil_of_le (by rw [bs_len]; omega)
  rw [bs1 s (by omega), e, e2]
  rfl
theorem mark_pair (s : ByteArray) (h : 1 < s.size) (h92 : s[0].toNat = 92) (h2 : s[1].toNat = 34 ∨ s[1].toNat = 92) : Cl.mark (bs s) = some (s[1], 2) := by
  have e : s[0] = 92 := (u8_eq (n := 92) (by omega)).2 h92
  rw [bs2 s h, e]
  unfold Cl.mark
  simp only
  rw [if_neg (by decide), if_neg (by decide), if_pos]
  rcases h2 with h2 | h2
  · exact .inl ((u8_eq (n := 34) (by omega)).2 h2)
  · exact .inr ((u8_eq (n := 92) (by omega)).2 h2)
theorem mark_hex (s : ByteArray) (h : 3 < s.size) (h92 : s[0].toNat = 92) (h2 : s[1].toNat = 120) (h3 : (Cl.digit s[2]).toNat < 16) (h4 : (Cl.digit s[3]).toNat < 16) : Cl.mark (bs s) = some ((16 : UInt8) * Cl.digit s[2] + Cl.digit s[3], 4) := by
  have e : s[0] = 92 := (u8_eq (n := 92) (by omega)).2 h92
  have e2 : s[1] = 120 := (u8_eq (n := 120) (by omega)).2 h2
  rw [bs4 s h, e, e2]
  unfold Cl.mark
  simp only
  rw [if_neg (by decide), if_neg (by decide), if_neg (by decide), if_pos ⟨trivial, u8_lt_iff.2 h3, u8_lt_iff.2 h4⟩]
theorem mark_no (s : ByteArray) (h : 1 < s.size) (h92 : s[0].toNat = 92) (h2 : ¬ (s[1].toNat = 34 ∨ s[1].toNat = 92)) (h4 : ∀ h : 3 < s.size, ¬ (s[1].toNat = 120 ∧ (Cl.digit s[2]).toNat < 16 ∧ (Cl.digit s[3]).toNat < 16)) : Cl.mark (bs s) = none := by
  have e : s[0] = 92 := (u8_eq (n := 92) (by omega)).2 h92
  have e2 : ¬ (s[1] = 34 ∨ s[1] = 92) := by
    rintro (h1 | h1)
    · exact h2 (.inl (by rw [h1]; rfl))
    · exact h2 (.inr (by rw [h1]; rfl))
  by_cases hl : 3 < s.size
  · rw [bs4 s hl, e]
    unfold Cl.mark
    simp only
    rw [if_neg (by decide), if_neg (by decide), if_neg e2, if_neg]
    rintro ⟨a1, a2, a3⟩
    exact h4 hl ⟨by rw [a1]; rfl, u8_lt_iff.1 a2, u8_lt_iff.1 a3⟩
  · rw [bs2 s h, e]
    have hlen : ((bs s).drop 2).length ≤ 1 := by rw [List.length_drop, bs_len]; omega
    cases hr : (bs s).drop 2 with
    | nil => unfold Cl.mark; simp only; rw [if_neg (by decide), if_neg (by decide), if_neg e2]
    | cons a r =>
      rw [hr] at hlen
      have : r = [] := List.length_eq_zero_iff.1 (by simp only [List.length_cons] at hlen; omega)
      subst this
      unfold Cl.mark; simp only; rw [if_neg (by decide), if_neg (by decide), if_neg e2]
theorem hex_or : ∀ a b : Fin 16, (16 * UInt8.ofNat a.val + UInt8.ofNat b.val).toNat = 16 * a.val + b.val := by decide +kernel
theorem bits_or_fin : ∀ a b : Fin 16, bits BinOp.or .u8 ((a.val : Int) * 16) (b.val : Int) = 16 * (a.val : Int) + (b.val : Int) := by decide +kernel
theorem bits_or (a b : Nat) (ha : a < 16) (hb : b < 16) : bits BinOp.or .u8 ((a : Int) * 16) (b : Int) = ((16 * a + b : Nat) : Int) := by
  have := bits_or_fin ⟨a, ha⟩ ⟨b, hb⟩
  simp only at this
  rw [this]; omega
theorem hex_sum (c d : UInt8) (h : (Cl.digit c).toNat < 16) (h' : (Cl.digit d).toNat < 16) : (16 * Cl.digit c + Cl.digit d).toNat = 16 * (Cl.digit c).toNat + (Cl.digit d).toNat := by
  have := hex_or ⟨_, h⟩ ⟨_, h'⟩
  simpa using this

set_option maxRecDepth 100000 in
set_option maxHeartbeats 2000000 in
theorem mark_any (s : ByteArray) (w : World) (hs : s.size ≤ 1000000000000000) : Calls Tryd.prog 47 #[.string s] w fun e w' => e = .returned (.tuple #[.int .u8 (mx (bs s)).toNat, .int .i64 (mn (bs s))]) ∧ ∃ n, w' = w.drewN n := by
  by_cases h0 : s.size = 0
  · obtain ⟨hd, hl⟩ := empty_of h0
    have HL := Lib.hid hl
    clear hl
    go_enter Tryd.func47, Tryd.ntmps47
    go_wp2
    go_ret2
    exact ⟨by rw [HL.out]; rfl, 0, rfl⟩
  · have hd := nonempty_of (s := s) (by omega)
    have hp : 0 < s.size := by omega
    have b0 := u8_lt s[0]
    by_cases hb : s[0].toNat < 32 ∨ 126 < s[0].toNat ∨ s[0].toNat = 34
    · have HM := Lib.hid (mark_bad s hp hb)
      rcases (show s[0].toNat < 32 ∨ 126 < s[0].toNat ∨ (32 ≤ s[0].toNat ∧ s[0].toNat ≤ 126 ∧ s[0].toNat = 34) by omega) with h | h | ⟨h, h', h''⟩
      all_goals
        clear hb
        go_enter Tryd.func47, Tryd.ntmps47
        go_wp2
        go_ret2
        exact ⟨by rw [mx, mn, HM.out]; rfl, 0, rfl⟩
    · by_cases h92 : s[0].toNat = 92
      · clear hb
        by_cases h2 : s.size = 1
        · have HM := Lib.hid (mark_back1 s h2 h92)
          have h2' : s.size < 2 := by omega
          clear h2
          go_enter Tryd.func47, Tryd.ntmps47
          go_wp2_with (go_at_call 74; refine (digit_any _ _).mono ?_; rintro e w' ⟨rfl, rfl⟩)
          go_ret2
          exact ⟨by rw [mx, mn, HM.out]; rfl, 0, rfl⟩
        · have h2' : 1 < s.size := by omega
          have h2i : (2 : Int) ≤ (s.size : Int) := by omega
          clear h2
          by_cases h3 : s[1].toNat = 34 ∨ s[1].toNat = 92
          · have HM := Lib.hid (mark_pair s h2' h92 h3)
            rcases (show s[1].toNat = 34 ∨ s[1].toNat = 92 by omega) with h | h
            all_goals
              clear h3
              go_enter Tryd.func47, Tryd.ntmps47
              go_wp2_with (go_at_call 74; refine (digit_any _ _).mono ?_; rintro e w' ⟨rfl, rfl⟩)
              go_ret2
              exact ⟨by rw [mx, mn, HM.out]; show _ = Ending.returned (.tuple #[.int .u8 (s[1].toNat : Int), .int .i64 2]); rw [h]; rfl, 0, rfl⟩
          · have k1 : ((s[1].toNat : Int) == 34) = false := by rw [beq_eq_false_iff_ne]; omega
            have k2 : ((s[1].toNat : Int) == 92) = false := by rw [beq_eq_false_iff_ne]; omega
            by_cases h4 : 3 < s.size
            · have h4i : (4 : Int) ≤ (s.size : Int) := by omega
              by_cases h5 : s[1].toNat = 120
              · clear k1 k2
                by_cases h6 : (Cl.digit s[2]).toNat < 16
                · have k6 : decide (((Cl.digit s[2]).toNat : Int) < 16) = true := by rw [decide_eq_true_eq]; omega
                  by_cases h7 : (Cl.digit s[3]).toNat < 16
                  · have k7 : decide (((Cl.digit s[3]).toNat : Int) < 16) = true := by rw [decide_eq_true_eq]; omega
                    have HM := Lib.hid (mark_hex s h4 h92 h5 h6 h7)
                    have HX := Lib.hid (hex_sum s[2] s[3] h6 h7)
                    clear h3
                    go_enter Tryd.func47, Tryd.ntmps47
                    go_wp2_with (go_at_call 74; refine (digit_any _ _).mono ?_; rintro e w' ⟨rfl, rfl⟩)
                    go_quiet ((go_at_call 74; exact quiet_left (digit_any _ _)))
                    go_wp2
                    go_ret2
                    refine ⟨?_, nq, rfl⟩
                    rw [mx, mn, HM.out]
                    refine ret_two ?_ rfl
                    show Value.int .u8 (bits BinOp.or .u8 (((Cl.digit s[2]).toNat : Int) * 16) ((Cl.digit s[3]).toNat : Int)) = Value.int .u8 (((16 : UInt8) * Cl.digit s[2] + Cl.digit s[3]).toNat : Int)
                    rw [bits_or _ _ h6 h7, HX.out]
                  · have k7 : decide (((Cl.digit s[3]).toNat : Int) < 16) = false := by rw [decide_eq_false_iff_not]; omega
                    have HM := Lib.hid (mark_no s h2' h92 h3 (fun _ h => h7 h.2.2))
                    clear h3
                    go_enter Tryd.func47, Tryd.ntmps47
                    go_wp2_with (go_at_call 74; refine (digit_any _ _).mono ?_; rintro e w' ⟨rfl, rfl⟩)
                    go_ret2
                    exact ⟨by rw [mx, mn, HM.out]; rfl, 0, rfl⟩
                · have k6 : decide (((Cl.digit s[2]).toNat : Int) < 16) = false := by rw [decide_eq_false_iff_not]; omega
                  have HM := Lib.hid (mark_no s h2' h92 h3 (fun _ h => h6 h.2.1))
                  clear h3
                  go_enter Tryd.func47, Tryd.ntmps47
                  go_wp2_with (go_at_call 74; refine (digit_any _ _).mono ?_; rintro e w' ⟨rfl, rfl⟩)
                  go_ret2
                  exact ⟨by rw [mx, mn, HM.out]; rfl, 0, rfl⟩
              · have k3 : ((s[1].toNat : Int) == 120) = false := by rw [beq_eq_false_iff_ne]; omega
                have HM := Lib.hid (mark_no s h2' h92 h3 (fun _ h => h5 h.1))
                clear h3 h5
                go_enter Tryd.func47, Tryd.ntmps47
                go_wp2_with (go_at_call 74; refine (digit_any _ _).mono ?_; rintro e w' ⟨rfl, rfl⟩)
                go_ret2
                exact ⟨by rw [mx, mn, HM.out]; rfl, 0, rfl⟩
            · have h4i : (s.size : Int) < 4 := by omega
              have HM := Lib.hid (mark_no s h2' h92 h3 (fun h => absurd h h4))
              clear h3 h4
              go_enter Tryd.func47, Tryd.ntmps47
              go_wp2_with (go_at_call 74; refine (digit_any _ _).mono ?_; rintro e w' ⟨rfl, rfl⟩)
              go_ret2
              exact ⟨by rw [mx, mn, HM.out]; rfl, 0, rfl⟩
      · have HM := Lib.hid (mark_self s hp hb h92)
        have f1 : decide ((s[0].toNat : Int) < 32) = false := by rw [decide_eq_false_iff_not]; omega
        have f2 : decide ((126 : Int) < (s[0].toNat : Int)) = false := by rw [decide_eq_false_iff_not]; omega
        have f3 : ((s[0].toNat : Int) == 34) = false := by rw [beq_eq_false_iff_ne]; omega
        have f4 : ((s[0].toNat : Int) != 92) = true := by rw [bne_iff_ne]; omega
        clear hb h92
        go_enter Tryd.func47, Tryd.ntmps47
        go_wp2_with (go_at_call 74; refine (digit_any _ _).mono ?_; rintro e w' ⟨rfl, rfl⟩)
        go_ret2
        exact ⟨by rw [mx, mn, HM.out]; rfl, 0, rfl⟩
end Qw
end Go.Proofs.YtjloonijnbfhhaaDoor
