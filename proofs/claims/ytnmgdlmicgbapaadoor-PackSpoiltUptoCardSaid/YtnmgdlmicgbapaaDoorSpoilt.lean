/- The plain law of spoilt bytes: a byte changed, a cut, bytes behind: those of no list. No program in sight. -/
import Derived.Test.YtnmgdlmicgbapaaDoorDSane
namespace Go.Proofs.YtnmgdlmicgbapaaDoor
namespace Pw
open Pk
theorem sh_zero {n : Nat} (h : n < 4294967296) (h0 : sh n = 0) : n = 0 := by
  unfold sh at h0
  split at h0
  · exfalso
    have e : n / 2 = 3988292384 := by
      have := congrArg (· ^^^ 3988292384) h0
      simpa [Nat.xor_assoc] using this
    omega
  · omega
theorem sh4_zero {n : Nat} (h : n < 4294967296) (h0 : sh4 n = 0) : n = 0 :=
  sh_zero h (sh_zero (sh_lt h) (sh_zero (sh_lt (sh_lt h)) (sh_zero (sh_lt (sh_lt (sh_lt h))) h0)))
theorem xor_zero_eq {a b : Nat} (h : a ^^^ b = 0) : a = b := by
  have := congrArg (· ^^^ b) h
  simpa [Nat.xor_assoc] using this
theorem sh8_inj {a b : Nat} (ha : a < 4294967296) (hb : b < 4294967296) (h : sh4 (sh4 a) = sh4 (sh4 b)) : a = b := by
  have h1 : sh4 (sh4 (a ^^^ b)) = 0 := by rw [sh4_xor, sh4_xor, h, Nat.xor_self]
  have hl := Nat.xor_lt_two_pow (n := 32) ha hb
  exact xor_zero_eq (sh4_zero hl (sh4_zero (sh4_lt hl) h1))
theorem byte32 (c : UInt8) : c.toNat < 2 ^ 32 := by have := c.toNat_lt; omega
theorem xor_cancel_right {a b c : Nat} (h : a ^^^ c = b ^^^ c) : a = b := by
  have := congrArg (· ^^^ c) h
  simpa [Nat.xor_assoc] using this
theorem xor_cancel_left {a b c : Nat} (h : c ^^^ a = c ^^^ b) : a = b := by
  rw [Nat.xor_comm c, Nat.xor_comm c] at h; exact xor_cancel_right h
theorem step_state {v w : Nat} (c : UInt8) (hv : v < 4294967296) (hw : w < 4294967296) (h : stepB v c = stepB w c) : v = w :=
  xor_cancel_right (sh8_inj (Nat.xor_lt_two_pow (n := 32) hv (byte32 c)) (Nat.xor_lt_two_pow (n := 32) hw (byte32 c)) h)
theorem step_byte {v : Nat} {c d : UInt8} (hv : v < 4294967296) (h : stepB v c = stepB v d) : c = d :=
  UInt8.toNat_inj.1 (xor_cancel_left (sh8_inj (Nat.xor_lt_two_pow (n := 32) hv (byte32 c)) (Nat.xor_lt_two_pow (n := 32) hv (byte32 d)) h))
theorem sum_state : ∀ (l : List UInt8) {v w : Nat}, v < 4294967296 → w < 4294967296 → sumFrom v l = sumFrom w l → v = w
  | [], _, _, _, _, h => h
  | c :: l, _, _, hv, hw, h => step_state c hv hw (sum_state l (stepB_lt c hv) (stepB_lt c hw) h)
/-- One byte changed changes the sum. -/
theorem sum_byte : ∀ (l : List UInt8) (i : Nat) (d : UInt8) {v : Nat}, v < 4294967296 → i < l.length → sumFrom v (l.set i d) = sumFrom v l → l[i]? = some d
  | [], i, d, v, _, hi, _ => by simp at hi
  | c :: l, 0, d, v, hv, _, h => by
    rw [List.set_cons_zero] at h
    have := step_byte hv (sum_state l (stepB_lt d hv) (stepB_lt c hv) h)
    rw [this]; rfl
  | c :: l, i + 1, d, v, hv, hi, h => by
    rw [List.set_cons_succ] at h
    have := sum_byte l i d (stepB_lt c hv) (by simpa using hi) h
    simpa using this
theorem crc_byte {l : List UInt8} {i : Nat} {d : UInt8} (hi : i < l.length) (h : crc (l.set i d) = crc l) : l[i]? = some d :=
  sum_byte l i d (by decide) hi (xor_cancel_left h)
theorem low4_inj {a b : Nat} (ha : a < 4294967296) (hb : b < 4294967296) (h : low 4 a = low 4 b) : a = b := by
  have h1 := val_low 4 a (by omega)
  have h2 := val_low 4 b (by omega)
  rw [← h1, ← h2, h]
theorem set_eq {l : List UInt8} {i : Nat} {d : UInt8} (h : l[i]? = some d) : l.set i d = l := by
  obtain ⟨hi, rfl⟩ := List.getElem?_eq_some_iff.1 h
  exact List.set_getElem_self hi
/-- The answer is a right list whose bytes these are. -/
theorem decode_some {b : B} {l : List PItem} (h : Pk.decode lt b = some l) : readB b = some l ∧ right lt l = true ∧ enc l = b := by
  unfold Pk.decode at h
  obtain ⟨l2, h1, h2⟩ := Option.bind_eq_some_iff.1 h
  split at h2
  · rename_i hc
    cases h2
    exact ⟨h1, hc.1, hc.2⟩
  · cases h2
theorem decode_enc {l : List PItem} (hr : right lt l = true) (hl : l.length < 4294967295) : Pk.decode lt (enc l) = some l := by
  unfold Pk.decode
  have := readB_enc l [] (right_fits hl hr) (by omega)
  rw [List.append_nil] at this
  rw [this, Option.bind_some, if_pos ⟨hr, rfl⟩]
/-- Two right lists, the bytes of one ahead of the other's: they are one. -/
theorem enc_ahead {l m : List PItem} {r : B} (hl : right lt l = true) (hm : right lt m = true) (h1 : l.length < 4294967295) (h2 : m.length < 4294967295) (h : enc l ++ r = enc m) : r = [] := by
  have e1 := readB_enc l r (right_fits h1 hl) (by omega)
  have e2 := readB_enc m [] (right_fits h2 hm) (by omega)
  rw [List.append_nil] at e2
  rw [h, e2] at e1
  have : m = l := Option.some.inj e1
  subst this
  have := congrArg List.length h
  rw [List.length_append] at this
  exact List.eq_nil_of_length_eq_zero (by omega)
theorem read_len {b : B} {l : List PItem} (h : readB b = some l) (hb : b.length ≤ 100000000) : l.length < 4294967295 := by
  have := (readB_some h hb).2
  omega
theorem spoilt_cut {l : List PItem} {i : Nat} (hr : right lt l = true) (hl : l.length < 4294967295) (hb : (enc l).length ≤ 100000000) (hi : i < (enc l).length) : Pk.decode lt ((enc l).take i) = none := by
  cases hd : Pk.decode lt ((enc l).take i) with
  | none => rfl
  | some m =>
    exfalso
    obtain ⟨h1, h2, h3⟩ := decode_some hd
    have hm := read_len h1 (by rw [List.length_take]; omega)
    have e := enc_ahead (r := (enc l).drop i) h2 hr hm hl (by rw [h3, List.take_append_drop])
    have := congrArg List.length e
    rw [List.length_drop, List.length_nil] at this
    omega
theorem spoilt_more {l : List PItem} {r : B} (hr : right lt l = true) (hl : l.length < 4294967295) (hb : (enc l ++ r).length ≤ 100000000) : (Pk.decode lt (enc l ++ r)).isSome = r.isEmpty := by
  cases hd : Pk.decode lt (enc l ++ r) with
  | none =>
    cases r with
    | nil => rw [List.append_nil, decode_enc hr hl] at hd; cases hd
    | cons c r => rfl
  | some m =>
    obtain ⟨h1, h2, h3⟩ := decode_some hd
    have hm := read_len h1 hb
    rw [enc_ahead hr h2 hl hm h3.symm]; rfl
theorem spoilt_byte {l : List PItem} {i : Nat} {d : UInt8} (hr : right lt l = true) (hl : l.length < 4294967295) (hi : i < (enc l).length) : (Pk.decode lt ((enc l).set i d)).isSome = decide ((enc l)[i]? = some d) := by
  by_cases hc : (enc l)[i]? = some d
  · rw [set_eq hc, decode_enc hr hl, decide_eq_true hc]; rfl
  · rw [decide_eq_false hc]
    cases hd : Pk.decode lt ((enc l).set i d) with
    | none => rfl
    | some m =>
      exfalso
      apply hc
      obtain ⟨h1, h2, h3⟩ := decode_some hd
      have hbl : (body m).length = (body l).length := by
        have := congrArg List.length h3
        rw [List.length_set] at this
        unfold enc at this
        rw [List.length_append, List.length_append, low_len, low_len] at this
        omega
      by_cases hib : i < (body l).length
      · unfold enc at h3 ⊢
        rw [List.set_append_left _ _ hib] at h3
        obtain ⟨e1, e2⟩ := List.append_inj h3 (by rw [List.length_set]; exact hbl)
        rw [e1] at e2
        rw [List.getElem?_append_left hib]
        exact crc_byte hib (low4_inj (crc_lt _) (crc_lt _) e2)
      · unfold enc at h3 ⊢
        rw [List.set_append_right _ _ (by omega)] at h3
        obtain ⟨e1, e2⟩ := List.append_inj h3 hbl
        rw [e1] at e2
        rw [List.getElem?_append_right (by omega)]
        unfold enc at hi
        rw [List.length_append] at hi
        rw [e2, List.getElem?_set_self (by omega)]
/-- The error tells whether there is a list. -/
theorem ansE_iff (b : B) : ansE b = if (Pk.decode lt b).isSome then 0 else 240 := rfl
end Pw
end Go.Proofs.YtnmgdlmicgbapaaDoor
