/- The walks of the bytes of a bare word and of bare words, the program's and the document's. -/
import Derived.Test.YtjloonijnbfhhaaDoorShelf
import Derived.Test.YtjloonijnbfhhaaDoorCallsLaw
import Derived.Test.YtjloonijnbfhhaaDoorBytes
import Derived.WalkSpells
import Derived.WalkLawsBesides
namespace Go.Proofs.YtjloonijnbfhhaaDoor
open Go.RowKit

namespace Qw
theorem isBare_nat (c : UInt8) : Cl.isBare c = (decide (65 ≤ c.toNat ∧ c.toNat ≤ 90) || decide (97 ≤ c.toNat ∧ c.toNat ≤ 122) || decide (48 ≤ c.toNat ∧ c.toNat ≤ 57) || decide (c.toNat = 47 ∨ c.toNat = 46 ∨ c.toNat = 95 ∨ c.toNat = 45)) :=
  Cl.all_u8 (P := fun c => Cl.isBare c = (decide (65 ≤ c.toNat ∧ c.toNat ≤ 90) || decide (97 ≤ c.toNat ∧ c.toNat ≤ 122) || decide (48 ≤ c.toNat ∧ c.toNat ≤ 57) || decide (c.toNat = 47 ∨ c.toNat = 46 ∨ c.toNat = 95 ∨ c.toNat = 45))) (by decide +kernel) c
theorem idx_punct : ∀ n : Fin 256, decide (0 ≤ Lib.indexByte [47, 46, 95, 45] (UInt8.ofNat n.val)) = decide (n.val = 47 ∨ n.val = 46 ∨ n.val = 95 ∨ n.val = 45) := by decide +kernel
theorem idx_punct' (n : Nat) (h : n < 256) : decide (0 ≤ Lib.indexByte [47, 46, 95, 45] (UInt8.ofNat n)) = decide (n = 47 ∨ n = 46 ∨ n = 95 ∨ n = 45) := idx_punct ⟨n, h⟩

set_option maxRecDepth 100000 in
theorem isBare_any (c : UInt8) (w : World) : Calls Tryd.prog 46 #[.int .u8 c.toNat] w fun e w' => e = .returned (.bool (Cl.isBare c)) ∧ w = w' := by
  have hlt := u8_lt c
  have hb := isBare_nat c
  have hp := idx_punct' c.toNat hlt
  generalize Cl.isBare c = r at *
  generalize c.toNat = n at *
  have HB := Lib.hid hb
  clear hb
  have HP := Lib.hid hp
  clear hp
  rcases (show n < 48 ∨ (48 ≤ n ∧ n ≤ 57) ∨ (58 ≤ n ∧ n ≤ 64) ∨ (65 ≤ n ∧ n ≤ 90) ∨ (91 ≤ n ∧ n ≤ 96) ∨ (97 ≤ n ∧ n ≤ 122) ∨ 123 ≤ n by omega) with h | ⟨h, h'⟩ | ⟨h, h'⟩ | ⟨h, h'⟩ | ⟨h, h'⟩ | ⟨h, h'⟩ | h
  all_goals
    go_enter Tryd.func46, Tryd.ntmps46
    go_wp2_with (go_at_call 73; refine (Tryd.strings_IndexByte _ _ _).mono ?_; rintro e w' ⟨rfl, rfl⟩)
    go_ret
    refine ⟨ret_bool ?_, rfl⟩
    rw [HB.out]
    first | (simp; omega) | (rw [HP.out, Bool.eq_iff_iff]; simp only [Bool.or_eq_true, decide_eq_true_eq]; omega)

set_option maxRecDepth 100000 in
theorem bareB_any (c : UInt8) (w : World) : Calls Tryd.prog 48 #[.int .u8 c.toNat] w fun e w' => e = .returned (.bool (Cl.isBare c)) ∧ w = w' := by
  have hlt := u8_lt c
  have hb := isBare_nat c
  generalize Cl.isBare c = r at *
  generalize c.toNat = n at *
  have HB := Lib.hid hb
  clear hb
  rcases (show n < 45 ∨ n = 45 ∨ n = 46 ∨ n = 47 ∨ (48 ≤ n ∧ n ≤ 57) ∨ (58 ≤ n ∧ n ≤ 64) ∨ (65 ≤ n ∧ n ≤ 90) ∨ (91 ≤ n ∧ n ≤ 94) ∨ n = 95 ∨ n = 96 ∨ (97 ≤ n ∧ n ≤ 122) ∨ 123 ≤ n by omega) with h | h | h | h | ⟨h, h'⟩ | ⟨h, h'⟩ | ⟨h, h'⟩ | ⟨h, h'⟩ | h | h | ⟨h, h'⟩ | h
  all_goals
    try subst h
    go_enter Tryd.func48, Tryd.ntmps48
    go_wp2
    all_goals
      go_ret
      refine ⟨ret_bool ?_, rfl⟩
      rw [HB.out]
      first | (simp; done) | (simp; omega) | (rw [Bool.eq_iff_iff]; simp only [Bool.or_eq_true, decide_eq_true_eq, beq_iff_eq]; omega)

theorem bare_end (s : ByteArray) (h : (bs s).all Cl.isBare = true) : Cl.bare (bs s) = !s.toList.isEmpty := by rw [toList_bs, Cl.bare, h]; rfl
theorem bare_no (s : ByteArray) (k : Nat) (hk : k < s.size) (h : Cl.isBare s[k] = false) : Cl.bare (bs s) = false := by
  have hm : s[k] ∈ bs s := List.mem_of_getElem? (bs_get s k hk)
  have : (bs s).all Cl.isBare = false := by
    rw [List.all_eq_false]; exact ⟨_, hm, by simp [h]⟩
  rw [Cl.bare, this]; rfl

set_option maxRecDepth 100000 in
theorem bare_any (s : ByteArray) (w : World) (hs : s.size ≤ 1000000000000000) : Calls Tryd.prog 27 #[.string s] w fun e w' => e = .returned (.bool (Cl.bare (bs s))) ∧ w = w' := by
  go_enter Tryd.func27, Tryd.ntmps27
  go_wp2
  go_loop [6] (fun i => ∃ k : Nat, k ≤ s.size ∧ i = .int .i64 k ∧ ((bs s).take k).all Cl.isBare = true) (fun i => s.size - (intOf i).toNat)
  case atStart => exact ⟨0, Nat.zero_le _, rfl, rfl⟩
  case round =>
    obtain ⟨k, hk, rfl, ha⟩ := hrel
    have HA := Lib.hid ha
    clear ha
    by_cases hlt : k < s.size
    · cases hb : Cl.isBare s[k] with
      | true =>
        go_wp2_with (go_at_call 46; refine (isBare_any _ _).mono ?_; rintro e w' ⟨rfl, rfl⟩)
        go_round
        case rel => exact ⟨k + 1, by omega, by go_num, by rw [bs_take_succ s k hlt, List.all_append, HA.out]; simp [hb]⟩
        case measure => simp [intOf]; omega
      | false =>
        have HN := Lib.hid (bare_no s k hlt hb)
        go_wp2_with (go_at_call 46; refine (isBare_any _ _).mono ?_; rintro e w' ⟨rfl, rfl⟩)
        go_ret
        exact ⟨ret_bool HN.out.symm, rfl⟩
    · have hkz : k = s.size := by omega
      subst hkz
      have HE := Lib.hid (bare_end s (by have := HA.out; rwa [List.take_of_length_le (by rw [bs_len]; exact Nat.le_refl _)] at this))
      go_wp2
      go_ret
      exact ⟨ret_bool (by rw [HE.out]), rfl⟩

set_option maxRecDepth 100000 in
theorem bareR_any (s : ByteArray) (w : World) (hs : s.size ≤ 1000000000000000) : Calls Tryd.prog 29 #[.string s] w fun e w' => e = .returned (.bool (Cl.bare (bs s))) ∧ w = w' := by
  go_enter Tryd.func29, Tryd.ntmps29
  go_wp2
  go_loop [3] (fun i => ∃ k : Nat, k ≤ s.size ∧ i = .int .i64 k ∧ ((bs s).take k).all Cl.isBare = true) (fun i => s.size - (intOf i).toNat)
  case atStart => exact ⟨0, Nat.zero_le _, rfl, rfl⟩
  case round =>
    obtain ⟨k, hk, rfl, ha⟩ := hrel
    have HA := Lib.hid ha
    clear ha
    by_cases hlt : k < s.size
    · cases hb : Cl.isBare s[k] with
      | true =>
        go_wp2_with (go_at_call 48; refine (bareB_any _ _).mono ?_; rintro e w' ⟨rfl, rfl⟩)
        go_round
        case rel => exact ⟨k + 1, by omega, by go_num, by rw [bs_take_succ s k hlt, List.all_append, HA.out]; simp [hb]⟩
        case measure => simp [intOf]; omega
      | false =>
        have HN := Lib.hid (bare_no s k hlt hb)
        go_wp2_with (go_at_call 48; refine (bareB_any _ _).mono ?_; rintro e w' ⟨rfl, rfl⟩)
        go_ret
        exact ⟨ret_bool HN.out.symm, rfl⟩
    · have hkz : k = s.size := by omega
      subst hkz
      have HE := Lib.hid (bare_end s (by have := HA.out; rwa [List.take_of_length_le (by rw [bs_len]; exact Nat.le_refl _)] at this))
      go_wp2
      go_ret
      exact ⟨ret_bool (by rw [HE.out]), rfl⟩
end Qw
end Go.Proofs.YtjloonijnbfhhaaDoor
