/- The walks of the document's words: digits, quoted words, Unquote, Quote. -/
import Derived.Test.YtjloonijnbfhhaaDoorQQuote
import Derived.IntWalk
namespace Go.Proofs.YtjloonijnbfhhaaDoor
open Go.RowKit

namespace Er
open Qw
set_option maxRecDepth 100000 in
theorem digit_any (c : UInt8) (w : World) : Calls Tryd.prog 49 #[.int .u8 c.toNat] w fun e w' => e = .returned (.int .i64 (Cl.digit c).toNat) ∧ w = w' := by
  have hlt := u8_lt c
  have hb := digit_nat c
  generalize (Cl.digit c).toNat = r at *
  generalize c.toNat = n at *
  have HB := Lib.hid hb
  clear hb
  rcases (show n < 48 ∨ (48 ≤ n ∧ n ≤ 57) ∨ (58 ≤ n ∧ n ≤ 64) ∨ (65 ≤ n ∧ n ≤ 70) ∨ (71 ≤ n ∧ n ≤ 96) ∨ (97 ≤ n ∧ n ≤ 102) ∨ 103 ≤ n by omega) with h | ⟨h, h'⟩ | ⟨h, h'⟩ | ⟨h, h'⟩ | ⟨h, h'⟩ | ⟨h, h'⟩ | h
  all_goals
    go_enter Tryd.func49, Tryd.ntmps49
    go_wp2
    go_ret
    refine ⟨ret_int ?_, rfl⟩
    rw [HB.out]
    repeat' split
    all_goals omega

theorem ex_get (s : ByteArray) (k j : Nat) (h : j < (s.extract k s.size).size) (h' : k + j < s.size) : (s.extract k s.size)[j] = s[k + j] := by
  have h1 := bs_get (s.extract k s.size) j h
  rw [extract_drop, List.getElem?_drop, bs_get s (k + j) h'] at h1
  exact (Option.some.inj h1).symm
theorem ex_size (s : ByteArray) (k : Nat) : (s.extract k s.size).size = s.size - k := by rw [← bs_len, extract_drop, List.length_drop, bs_len]
theorem at_bad (s : ByteArray) (k : Nat) (hk : k < s.size) (hc : s[k].toNat < 32 ∨ 126 < s[k].toNat ∨ s[k].toNat = 34) : Cl.mark ((bs s).drop k) = none := by
  rw [← extract_drop]
  have h0 : 0 < (s.extract k s.size).size := by rw [ex_size]; omega
  refine mark_bad _ h0 ?_
  rw [ex_get s k 0 h0 hk]; exact hc
theorem at_self (s : ByteArray) (k : Nat) (hk : k < s.size) (hc : ¬ (s[k].toNat < 32 ∨ 126 < s[k].toNat ∨ s[k].toNat = 34)) (h92 : s[k].toNat ≠ 92) : Cl.mark ((bs s).drop k) = some (s[k], 1) := by
  rw [← extract_drop]
  have h0 : 0 < (s.extract k s.size).size := by rw [ex_size]; omega
  have e := ex_get s k 0 h0 hk
  have := mark_self (s.extract k s.size) h0 (by rw [e]; exact hc) (by rw [e]; exact h92)
  rw [e] at this; exact this
theorem at_end (s : ByteArray) (k : Nat) (hk : k + 1 = s.size) (h92 : s[k].toNat = 92) : Cl.mark ((bs s).drop k) = none := by
  rw [← extract_drop]
  have h0 : 0 < (s.extract k s.size).size := by rw [ex_size]; omega
  have e := ex_get s k 0 h0 (by omega)
  exact mark_back1 _ (by rw [ex_size]; omega) (by rw [e]; exact h92)
theorem at_pair (s : ByteArray) (k : Nat) (hk : k + 1 < s.size) (h92 : s[k].toNat = 92) (h2 : s[k + 1].toNat = 34 ∨ s[k + 1].toNat = 92) : Cl.mark ((bs s).drop k) = some (s[k + 1], 2) := by
  rw [← extract_drop]
  have h0 : 1 < (s.extract k s.size).size := by rw [ex_size]; omega
  have e := ex_get s k 0 (by omega) (by omega)
  have e1 := ex_get s k 1 h0 hk
  have := mark_pair (s.extract k s.size) h0 (by rw [e]; exact h92) (by rw [e1]; exact h2)
  rw [e1] at this; exact this
theorem at_hex (s : ByteArray) (k : Nat) (hk : k + 3 < s.size) (h92 : s[k].toNat = 92) (h2 : s[k + 1].toNat = 120) (h3 : (Cl.digit s[k + 2]).toNat < 16) (h4 : (Cl.digit s[k + 3]).toNat < 16) : Cl.mark ((bs s).drop k) = some ((16 : UInt8) * Cl.digit s[k + 2] + Cl.digit s[k + 3], 4) := by
  rw [← extract_drop]
  have h0 : 3 < (s.extract k s.size).size := by rw [ex_size]; omega
  have e := ex_get s k 0 (by omega) (by omega)
  have e1 := ex_get s k 1 (by omega) (by omega)
  have e2 := ex_get s k 2 (by omega) (by omega)
  have e3 := ex_get s k 3 h0 hk
  have := mark_hex (s.extract k s.size) h0 (by rw [e]; exact h92) (by rw [e1]; exact h2) (by rw [e2]; exact h3) (by rw [e3]; exact h4)
  rw [e2, e3] at this; exact this
theorem at_no (s : ByteArray) (k : Nat) (hk : k + 1 < s.size) (h92 : s[k].toNat = 92) (h2 : ¬ (s[k + 1].toNat = 34 ∨ s[k + 1].toNat = 92)) (h4 : ∀ h : k + 3 < s.size, ¬ (s[k + 1].toNat = 120 ∧ (Cl.digit s[k + 2]).toNat < 16 ∧ (Cl.digit s[k + 3]).toNat < 16)) : Cl.mark ((bs s).drop k) = none := by
  rw [← extract_drop]
  have h0 : 1 < (s.extract k s.size).size := by rw [ex_size]; omega
  have e := ex_get s k 0 (by omega) (by omega)
  have e1 := ex_get s k 1 (by omega) (by omega)
  refine mark_no _ h0 (by rw [e]; exact h92) (by rw [e1]; exact h2) (fun h => ?_)
  have hl : k + 3 < s.size := by rw [ex_size] at h; omega
  rw [e1, ex_get s k 2 (by omega) (by omega), ex_get s k 3 h hl]
  exact h4 hl

/-- The words that have been read ahead of a place. -/
theorem step_end {L r : List UInt8} {j : Nat} {acc : List UInt8} (h : Ahead L j acc) (hd : L.drop j = 34 :: r) : qx L = acc ∧ qn L = j + 1 := by
  unfold Ahead at h
  rw [hd, Cl.dq_end] at h
  simp [qx, qn, h]
theorem step_bad {L r : List UInt8} {c : UInt8} {j : Nat} {acc : List UInt8} (h : Ahead L j acc) (hd : L.drop j = c :: r) (hc : c ≠ 34) (hm : Cl.mark (L.drop j) = none) : qx L = [] ∧ qn L = 0 := by
  unfold Ahead at h
  rw [hd] at h hm
  rw [Cl.dq_none_of_mark hc hm] at h
  simp [qx, qn, h]
theorem step_out {L : List UInt8} {j : Nat} {acc : List UInt8} (h : Ahead L j acc) (hd : L.drop j = []) : qx L = [] ∧ qn L = 0 := by
  unfold Ahead at h
  rw [hd, Cl.dq_nil] at h
  simp [qx, qn, h]
theorem step_on {L r : List UInt8} {c x : UInt8} {j n : Nat} {acc : List UInt8} (h : Ahead L j acc) (hd : L.drop j = c :: r) (hc : c ≠ 34) (hm : Cl.mark (L.drop j) = some (x, n)) : Ahead L (j + n) (acc ++ [x]) := by
  unfold Ahead at *
  rw [h]
  have hm' := hm
  rw [hd] at hm'
  rw [hd, Cl.dq_some_of_mark hc hm', ← hd, List.drop_drop]
  cases Cl.dq (L.drop (j + n)) with
  | none => rfl
  | some p => simp [Nat.add_assoc]
end Er
end Go.Proofs.YtjloonijnbfhhaaDoor
