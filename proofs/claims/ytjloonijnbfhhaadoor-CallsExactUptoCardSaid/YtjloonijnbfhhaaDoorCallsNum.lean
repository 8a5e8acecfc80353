/- The plain laws of numbers in decimal: what is printed is read again, and what is read is printed the same. No program in sight. -/
import Derived.Test.YtjloonijnbfhhaaDoorCallsLaw
import Derived.Lib.ParseIntBTie
namespace Go.Proofs.YtjloonijnbfhhaaDoor
namespace Cl
open Go.Lib

def isDig (c : UInt8) : Bool := decide (48 ≤ c ∧ c ≤ 57)
def val (a : Nat) (t : B) : Nat := t.foldl (fun a c => a * 10 + (c.toNat - 48)) a
/-- The digits' form: no zero ahead, at most 19. -/
def badT (neg : Bool) (t : B) : Bool := t.isEmpty || decide (19 < t.length) || (decide (t.head? = some 48) && (decide (1 < t.length) || neg)) || !t.all isDig
def numT (neg : Bool) (t : B) : Option Int :=
  if badT neg t = true then none
  else if neg = true then (if val 0 t ≤ 9223372036854775808 then some (-(val 0 t : Int)) else none)
  else if val 0 t < 9223372036854775808 then some (val 0 t : Int) else none
/-- What a text says as a number, as the document has it. -/
def num : B → Option Int
  | [] => none
  | c :: r => if c = 45 then numT true r else numT false (c :: r)
/-- .. as the program has it. -/
def whole (s : B) : Option Int :=
  match parseIntB 64 s with
  | .ok n => if itoa n = s then some n else none
  | _ => none

theorem val_cons (a : Nat) (c : UInt8) (t : B) : val a (c :: t) = val (a * 10 + (c.toNat - 48)) t := by simp only [val, List.foldl_cons]
theorem val_app (a : Nat) (s t : B) : val a (s ++ t) = val (val a s) t := by simp [val, List.foldl_append]
theorem val_ge : ∀ (t : B) (a : Nat), a ≤ val a t
  | [], a => by simp [val]
  | c :: t, a => by rw [val_cons]; have := val_ge t (a * 10 + (c.toNat - 48)); omega
theorem dig_nat {c : UInt8} (h : isDig c = true) : 48 ≤ c.toNat ∧ c.toNat ≤ 57 := by
  simp only [isDig, decide_eq_true_eq, UInt8.le_iff_toNat_le] at h
  exact h
theorem dig_of (u : Nat) (h : u < 10) : isDig (UInt8.ofNat (48 + u)) = true ∧ (UInt8.ofNat (48 + u)).toNat = 48 + u := by
  have : ∀ n : Fin 10, isDig (UInt8.ofNat (48 + n.val)) = true ∧ (UInt8.ofNat (48 + n.val)).toNat = 48 + n.val := by decide +kernel
  exact this ⟨u, h⟩

structure Canon (t : B) : Prop where
  ne : t ≠ []
  dig : ∀ c ∈ t, isDig c = true
  head : t.head? = some 48 → t.length = 1

theorem dec_small {u : Nat} (h : u < 10) : decDigits u = [UInt8.ofNat (48 + u)] := by rw [decDigits, dif_pos h]
theorem dec_big {u : Nat} (h : ¬ u < 10) : decDigits u = decDigits (u / 10) ++ [UInt8.ofNat (48 + u % 10)] := by rw [decDigits, dif_neg h]
theorem dec_canon (u : Nat) : Canon (decDigits u) ∧ val 0 (decDigits u) = u ∧ (1 ≤ u → (decDigits u).head? ≠ some 48) := by
  induction u using Nat.strongRecOn with
  | _ u ih =>
    by_cases h : u < 10
    · have h1 := dig_of u h
      rw [dec_small h]
      refine ⟨⟨by simp, by simpa using h1.1, by simp⟩, ?_, ?_⟩
      · rw [val_cons, h1.2]; simp [val]
      · intro h2 h3
        simp only [List.head?_cons, Option.some.injEq] at h3
        have := congrArg UInt8.toNat h3
        rw [h1.2] at this
        simp at this; omega
    · obtain ⟨⟨i1, i2, i3⟩, i4, i5⟩ := ih (u / 10) (by omega)
      have h1 := dig_of (u % 10) (by omega)
      rw [dec_big h]
      have hh : (decDigits (u / 10) ++ [UInt8.ofNat (48 + u % 10)]).head? = (decDigits (u / 10)).head? := by
        cases hd : decDigits (u / 10) with
        | nil => exact absurd hd i1
        | cons a b => simp
      refine ⟨⟨by simp, ?_, ?_⟩, ?_, ?_⟩
      · intro c hc
        rcases List.mem_append.1 hc with hc | hc
        · exact i2 c hc
        · simp only [List.mem_cons, List.not_mem_nil, or_false] at hc; subst hc; exact h1.1
      · intro h2; rw [hh] at h2; exact absurd h2 (i5 (by omega))
      · rw [val_app, i4, val_cons, h1.2]; simp [val]; omega
      · intro _; rw [hh]; exact i5 (by omega)
theorem canon_dec_aux : ∀ (n : Nat) (t : B), t.length = n → Canon t → decDigits (val 0 t) = t := by
  intro n
  induction n with
  | zero => intro t h c; exact absurd (List.length_eq_zero_iff.1 h) c.ne
  | succ n ih =>
    intro t h c
    obtain ⟨s, x, rfl⟩ : ∃ s x, t = s ++ [x] := ⟨t.dropLast, t.getLast c.ne, (List.dropLast_concat_getLast c.ne).symm⟩
    have hx := dig_nat (c.dig x (by simp))
    have hxe : UInt8.ofNat (48 + (x.toNat - 48)) = x := by
      rw [show 48 + (x.toNat - 48) = x.toNat by omega]; simp
    by_cases hs : s = []
    · subst hs
      rw [List.nil_append, val_cons]
      simp only [val, List.foldl_nil, Nat.zero_mul, Nat.zero_add]
      rw [dec_small (by omega), hxe]
    · have hcs : Canon s := by
        refine ⟨hs, fun y hy => c.dig y (by simp [hy]), fun hh => ?_⟩
        have := c.head (by rw [List.head?_append, hh]; rfl)
        simp only [List.length_append, List.length_cons, List.length_nil] at this
        cases s
        · exact absurd rfl hs
        · simp at this
      have e := ih s (by simpa using h) hcs
      have hpos : 1 ≤ val 0 s := by
        cases hz : val 0 s with
        | zero =>
          rw [hz, dec_small (by omega)] at e
          have := c.head (by rw [← e]; rfl)
          rw [← e] at this; simp at this
        | succ k => omega
      rw [val_app, val_cons]
      simp only [val, List.foldl_nil] at *
      rw [dec_big (by omega), show (List.foldl (fun a c => a * 10 + (UInt8.toNat c - 48)) 0 s * 10 + (x.toNat - 48)) / 10 = List.foldl (fun a c => a * 10 + (UInt8.toNat c - 48)) 0 s by omega, e,
        show (List.foldl (fun a c => a * 10 + (UInt8.toNat c - 48)) 0 s * 10 + (x.toNat - 48)) % 10 = x.toNat - 48 by omega, hxe]
theorem canon_dec {t : B} (c : Canon t) : decDigits (val 0 t) = t := canon_dec_aux _ t rfl c
theorem dec_len : ∀ (k u : Nat), 1 ≤ k → u < 10 ^ k → (decDigits u).length ≤ k := by
  intro k
  induction k with
  | zero => intro u h; omega
  | succ k ih =>
    intro u _ h
    by_cases hu : u < 10
    · rw [dec_small hu]; simp
    · rw [dec_big hu]
      cases k with
      | zero => simp at h; omega
      | succ k =>
        have := ih (u / 10) (by omega) (by rw [Nat.pow_succ] at h; omega)
        simp only [List.length_append, List.length_cons, List.length_nil]; omega

def inRange (n : Int) : Prop := -9223372036854775808 ≤ n ∧ n ≤ 9223372036854775807

theorem head_neg (c : UInt8) (h : isDig c = true) : c ≠ 45 := by rintro rfl; revert h; decide
theorem num_cons (c : UInt8) (r : B) : num (c :: r) = if c = 45 then numT true r else numT false (c :: r) := rfl
theorem badT_of {t : B} (c : Canon t) (neg : Bool) (hl : t.length ≤ 19) (hn : neg = true → t.head? ≠ some 48) : badT neg t = false := by
  obtain ⟨c1, c2, c3⟩ := c
  have h2 : t.all isDig = true := List.all_eq_true.2 c2
  have h1 : t.isEmpty = false := by cases t; exact absurd rfl c1; rfl
  unfold badT
  rw [h1, h2]
  by_cases h : t.head? = some 48
  · have := c3 h
    have hneg : neg = false := by cases neg; rfl; exact absurd h (hn rfl)
    simp [h, this, hneg]
  · simp [h]; omega
theorem canon_of {t : B} {neg : Bool} (h : badT neg t = false) : Canon t ∧ t.length ≤ 19 ∧ (neg = true → t.head? ≠ some 48) := by
  unfold badT at h
  simp only [Bool.or_eq_false_iff, Bool.and_eq_false_iff, decide_eq_false_iff_not, Bool.not_eq_false', List.all_eq_true, List.isEmpty_eq_false_iff] at h
  obtain ⟨⟨⟨h1, h2⟩, h3⟩, h4⟩ := h
  refine ⟨⟨h1, h4, fun hh => ?_⟩, by omega, fun hn hh => ?_⟩
  · rcases h3 with h3 | ⟨h3, _⟩
    · exact absurd hh h3
    · cases t
      · exact absurd rfl h1
      · simp only [List.length_cons] at *; omega
  · rcases h3 with h3 | ⟨_, h3⟩
    · exact absurd hh h3
    · rw [hn] at h3; cases h3
theorem num_itoa (n : Int) (h : inRange n) : num (itoa n) = some n := by
  obtain ⟨h1, h2⟩ := h
  unfold itoa
  by_cases hn : n < 0
  · rw [if_pos hn]
    obtain ⟨hc, c4, c5⟩ := dec_canon n.natAbs
    have hl := dec_len 19 n.natAbs (by decide) (by omega)
    rw [num_cons, if_pos rfl]
    unfold numT
    rw [badT_of hc true hl (fun _ => c5 (by omega)), if_neg (by decide), if_pos rfl, c4, if_pos (by omega)]
    congr 1; omega
  · rw [if_neg hn]
    obtain ⟨hc, c4, c5⟩ := dec_canon n.toNat
    have hl := dec_len 19 n.toNat (by decide) (by omega)
    have hb := badT_of hc false hl (fun h => by cases h)
    cases hd : decDigits n.toNat with
    | nil => exact absurd hd hc.ne
    | cons c r =>
      rw [hd] at hc c4 hb
      have h45 := head_neg c (hc.dig c (by simp))
      rw [num_cons, if_neg h45]
      unfold numT
      rw [hb, if_neg (by decide), if_neg (by decide), c4, if_pos (by omega)]
      congr 1; omega
theorem itoa_num {s : B} {n : Int} (h : num s = some n) : itoa n = s ∧ inRange n := by
  cases s with
  | nil => cases h
  | cons c r =>
    rw [num_cons] at h
    by_cases hc : c = 45
    · rw [if_pos hc] at h
      unfold numT at h
      cases hb : badT true r with
      | true => rw [hb, if_pos rfl] at h; cases h
      | false =>
        obtain ⟨hcan, _, hz⟩ := canon_of hb
        rw [hb, if_neg (by decide), if_pos rfl] at h
        by_cases h4 : val 0 r ≤ 9223372036854775808
        · rw [if_pos h4] at h
          obtain rfl := Option.some.inj h
          have hp : 1 ≤ val 0 r := by
            cases hv : val 0 r with
            | zero => exact absurd (by rw [← canon_dec hcan, hv, dec_small (by omega)]; rfl) (hz rfl)
            | succ k => omega
          refine ⟨?_, by omega, by omega⟩
          unfold itoa
          rw [if_pos (by omega), show (-(val 0 r : Int)).natAbs = val 0 r by omega, canon_dec hcan, hc]
        · rw [if_neg h4] at h; cases h
    · rw [if_neg hc] at h
      unfold numT at h
      cases hb : badT false (c :: r) with
      | true => rw [hb, if_pos rfl] at h; cases h
      | false =>
        obtain ⟨hcan, _, _⟩ := canon_of hb
        rw [hb, if_neg (by decide), if_neg (by decide)] at h
        by_cases h4 : val 0 (c :: r) < 9223372036854775808
        · rw [if_pos h4] at h
          obtain rfl := Option.some.inj h
          refine ⟨?_, by omega, by omega⟩
          unfold itoa
          rw [if_neg (by omega), Int.toNat_natCast, canon_dec hcan]
        · rw [if_neg h4] at h; cases h
theorem parse_digits : ∀ (t : B) (a : Nat), (∀ c ∈ t, isDig c = true) → val a t < 18446744073709551616 → parseUintM 18446744073709551615 a t = .ok (val a t)
  | [], a, _, _ => rfl
  | c :: t, a, hd, hv => by
    have hc := dig_nat (hd c (by simp))
    have hg := val_ge t (a * 10 + (c.toNat - 48))
    rw [val_cons] at hv ⊢
    unfold parseUintM
    rw [if_pos hc, if_neg (by omega), if_neg (by omega)]
    exact parse_digits t _ (fun y hy => hd y (by simp [hy])) hv
theorem parse_dec (u : Nat) (h : u < 18446744073709551616) : parseUintB 64 (decDigits u) = .ok u := by
  obtain ⟨⟨c1, c2, _⟩, c4, _⟩ := dec_canon u
  unfold parseUintB
  rw [if_neg c1]
  have := parse_digits (decDigits u) 0 c2 (by rw [c4]; exact h)
  rw [c4] at this
  exact this
theorem parse_itoa (n : Int) (h : inRange n) : parseIntB 64 (itoa n) = .ok n := by
  obtain ⟨h1, h2⟩ := h
  unfold itoa
  by_cases hn : n < 0
  · rw [if_pos hn]
    unfold parseIntB
    simp only [show (45 : UInt8).toNat = 45 from rfl, or_true, if_true, parse_dec n.natAbs (by omega), not_true_eq_false, false_and, if_false, true_and]
    rw [if_neg (by omega)]
    congr 1; omega
  · rw [if_neg hn]
    have hp := parse_dec n.toNat (by omega)
    obtain ⟨⟨c1, c2, _⟩, _, _⟩ := dec_canon n.toNat
    cases hd : decDigits n.toNat with
    | nil => exact absurd hd c1
    | cons c r =>
      rw [hd] at hp c2
      have hc := dig_nat (c2 c (by simp))
      have e1 : ¬ (c.toNat = 43 ∨ c.toNat = 45) := by omega
      have e2 : ¬ c.toNat = 45 := by omega
      unfold parseIntB
      simp only
      rw [if_neg e1, hp]
      simp only [e2, not_false_eq_true, true_and, false_and, if_false]
      rw [if_neg (by omega)]
      congr 1; omega
theorem whole_num (s : B) : whole s = num s := by
  cases hn : num s with
  | some n =>
    obtain ⟨h1, h2⟩ := itoa_num hn
    unfold whole
    have := parse_itoa n h2
    rw [h1] at this
    rw [this]; simp [h1]
  | none =>
    unfold whole
    by_cases he : ∃ n, parseIntB 64 s = .ok n
    · obtain ⟨n, hp⟩ := he
      rw [hp]
      simp only
      split
      · rename_i h1
        have hb := parseIntB_bounds hp
        have := num_itoa n ⟨by omega, by omega⟩
        rw [h1, hn] at this; cases this
      · rfl
    · split
      · rename_i n hp; exact absurd ⟨n, hp⟩ he
      · rfl
end Cl
end Go.Proofs.YtjloonijnbfhhaaDoor
