/- The plain law of the sum: four places by a table are four places one by one. No program in sight. -/
import Derived.Laws.BitsAllLaws
namespace Go.Proofs.YtnmgdlmicgbapaaDoor.Pk

/-- One place of the sum's word. -/
def sh (n : Nat) : Nat := if n % 2 = 1 then n / 2 ^^^ 3988292384 else n / 2
theorem sh_xor (a b : Nat) : sh (a ^^^ b) = sh a ^^^ sh b := by
  have h1 : (a ^^^ b) / 2 = a / 2 ^^^ b / 2 := Nat.xor_div_two
  have h2 : (a ^^^ b) % 2 = (a % 2) ^^^ (b % 2) := by simpa using Nat.xor_mod_two_pow (a := a) (b := b) (n := 1)
  unfold sh
  rw [h1, h2]
  rcases Nat.mod_two_eq_zero_or_one a with ha | ha <;> rcases Nat.mod_two_eq_zero_or_one b with hb | hb <;> rw [ha, hb]
  · rfl
  · show a / 2 ^^^ b / 2 ^^^ 3988292384 = _
    rw [Nat.xor_assoc]; rfl
  · show a / 2 ^^^ b / 2 ^^^ 3988292384 = (a / 2 ^^^ 3988292384) ^^^ b / 2
    rw [Nat.xor_assoc, Nat.xor_assoc, Nat.xor_comm (b / 2)]
  · show a / 2 ^^^ b / 2 = (a / 2 ^^^ 3988292384) ^^^ (b / 2 ^^^ 3988292384)
    rw [Nat.xor_assoc, Nat.xor_comm 3988292384, Nat.xor_assoc, Nat.xor_self, Nat.xor_zero]
theorem sh_lt {n : Nat} (h : n < 4294967296) : sh n < 4294967296 := by
  unfold sh
  split
  · exact Nat.xor_lt_two_pow (n := 32) (by omega) (by decide)
  · omega
theorem sh_even (q : Nat) : sh (2 * q) = q := by unfold sh; rw [if_neg (by omega)]; omega
def sh4 (n : Nat) : Nat := sh (sh (sh (sh n)))
theorem sh4_xor (a b : Nat) : sh4 (a ^^^ b) = sh4 a ^^^ sh4 b := by unfold sh4; rw [sh_xor, sh_xor, sh_xor, sh_xor]
theorem sh4_lt {n : Nat} (h : n < 4294967296) : sh4 n < 4294967296 := sh_lt (sh_lt (sh_lt (sh_lt h)))
/-- What four places do, by the lowest four bits. -/
def half : List Nat := [0x00000000, 0x1db71064, 0x3b6e20c8, 0x26d930ac, 0x76dc4190, 0x6b6b51f4, 0x4db26158, 0x5005713c, 0xedb88320, 0xf00f9344, 0xd6d6a3e8, 0xcb61b38c, 0x9b64c2b0, 0x86d3d2d4, 0xa00ae278, 0xbdbdf21c]
theorem half_at : ∀ r : Fin 16, sh4 r.val = half.getD r.val 0 := by decide
theorem split16 (q r : Nat) (h : r < 16) : 16 * q + r = (16 * q) ^^^ r := by
  apply Nat.eq_of_testBit_eq
  intro j
  have e1 := Nat.testBit_two_pow_mul_add (i := 4) q (b := r) (by simpa using h) j
  have e2 := Nat.testBit_two_pow_mul (i := 4) (a := q) (j := j)
  simp only [show (2 : Nat) ^ 4 = 16 from rfl] at e1 e2
  rw [Nat.testBit_xor, e1, e2]
  by_cases hj : j < 4
  · have : ¬ (4 ≤ j) := by omega
    simp [hj, this]
  · have h3 : r.testBit j = false := by
      refine Nat.testBit_lt_two_pow (Nat.lt_of_lt_of_le h ?_)
      have := Nat.pow_le_pow_right (n := 2) (by omega) (show 4 ≤ j by omega)
      simpa using this
    have : 4 ≤ j := by omega
    simp [hj, this, h3]
/-- Four places at once. -/
theorem sh4_half (v : Nat) : sh4 v = half.getD (v % 16) 0 ^^^ v / 16 := by
  have e : v = (16 * (v / 16)) ^^^ (v % 16) := by rw [← split16 _ _ (Nat.mod_lt _ (by omega))]; omega
  have h1 : sh4 (16 * (v / 16)) = v / 16 := by
    unfold sh4
    rw [show 16 * (v / 16) = 2 * (2 * (2 * (2 * (v / 16)))) by omega, sh_even, sh_even, sh_even, sh_even]
  have h2 := half_at ⟨v % 16, Nat.mod_lt _ (by omega)⟩
  simp only at h2
  calc sh4 v = sh4 ((16 * (v / 16)) ^^^ (v % 16)) := by rw [← e]
    _ = _ := by rw [sh4_xor, h1, h2, Nat.xor_comm]
/-- A byte, taken into a word. -/
def stepB (v : Nat) (b : UInt8) : Nat := sh4 (sh4 (v ^^^ b.toNat))
theorem stepB_lt {v : Nat} (b : UInt8) (h : v < 4294967296) : stepB v b < 4294967296 :=
  sh4_lt (sh4_lt (Nat.xor_lt_two_pow (n := 32) h (by have := b.toNat_lt; omega)))
def sumFrom (v : Nat) (l : List UInt8) : Nat := l.foldl stepB v
theorem sumFrom_lt {v : Nat} (l : List UInt8) (h : v < 4294967296) : sumFrom v l < 4294967296 := by
  induction l generalizing v with
  | nil => exact h
  | cons b l ih => exact ih (stepB_lt b h)
theorem sumFrom_snoc (v : Nat) (l : List UInt8) (b : UInt8) : sumFrom v (l ++ [b]) = stepB (sumFrom v l) b := by simp [sumFrom]
/-- CRC-32. -/
def crc (l : List UInt8) : Nat := 4294967295 ^^^ sumFrom 4294967295 l
theorem crc_lt (l : List UInt8) : crc l < 4294967296 := Nat.xor_lt_two_pow (n := 32) (by decide) (sumFrom_lt l (by decide))
end Go.Proofs.YtnmgdlmicgbapaaDoor.Pk
