/- The walks of the sum: the program's by a table of four places, the document's place by place; and of a number's bytes. -/
import Derived.Test.YtnmgdlmicgbapaaDoorPEnc
import Derived.Test.YtnmgdlmicgbapaaDoorPZeros
import Derived.Test.YtnmgdlmicgbapaaDoorBytes
import Derived.Test.YtnmgdlmicgbapaaDoorChecked
import Derived.WalkSmall
namespace Go.Proofs.YtnmgdlmicgbapaaDoor
open Go.RowKit

namespace Pw
open Pk
theorem half_lt (k : Nat) : half.getD k 0 < 4294967296 := by
  rcases Nat.lt_or_ge k 16 with h | h
  · exact (by decide : ∀ k : Fin 16, half.getD k.val 0 < 4294967296) ⟨k, h⟩
  · have e : half.getD k 0 = 0 := by rw [List.getD_eq_getElem?_getD, List.getElem?_eq_none (by simpa [half] using h)]; rfl
    rw [e]; decide
theorem and15_u32 (x : Nat) (h : x < 4294967296) : bits .and .u32 (x : Int) 15 = ((x % 16 : Nat) : Int) := by
  have := Go.u32_and_nat x 15 h (by decide)
  rw [show ((15 : Nat) : Int) = 15 from rfl] at this
  rw [this]
  congr 1
  exact Nat.and_two_pow_sub_one_eq_mod x 4
/-- What the program's own tables hold. -/
structure PVars (w : World) : Prop where
  half : ∀ k, k < 16 → w.cell? ⟨0, k, none⟩ = some (.int .u32 (half.getD k 0 : Nat))

/-- Four places, as the program reckons them. -/
theorem quarter (x : Nat) (hx : x < 4294967296) (w : World) (hw : PVars w) : ∃ n y : Nat, y = sh4 x ∧ y < 4294967296 ∧ bits .and .u32 (x : Int) 15 = ((x % 16 : Nat) : Int) ∧ w.cell? ⟨0, x % 16, none⟩ = some (.int .u32 n) ∧ bits .xor .u32 (n : Int) ((x : Int) / 16) = (y : Int) := by
  refine ⟨half.getD (x % 16) 0, sh4 x, rfl, sh4_lt hx, and15_u32 x hx, hw.half _ (Nat.mod_lt _ (by omega)), ?_⟩
  rw [sh4_half]
  have := Go.u32_xor_nat (half.getD (x % 16) 0) (x / 16) (half_lt _) (by omega)
  rw [← this]; congr 1
theorem step_any (v : Nat) (b : UInt8) (w : World) (hv : v < 4294967296) (hw : PVars w) : Calls Tryd.prog 20 #[.int .u32 v, .int .u8 b.toNat] w fun e w' => e = .returned (.int .u32 (stepB v b)) ∧ w = w' := by
  have hb := b.toNat_lt
  obtain ⟨x, hx⟩ : ∃ x, x = v ^^^ b.toNat := ⟨_, rfl⟩
  have hxl : x < 4294967296 := by rw [hx]; exact Nat.xor_lt_two_pow (n := 32) hv (by omega)
  have e1 : bits .xor .u32 (v : Int) (b.toNat : Int) = (x : Int) := by rw [hx]; exact Go.u32_xor_nat _ _ hv (by omega)
  obtain ⟨n, y, hy, hyl, e2, c1, e3⟩ := quarter x hxl w hw
  obtain ⟨m, z, hz, hzl, e4, c2, e5⟩ := quarter y hyl w hw
  have hr : z = stepB v b := by rw [hz, hy, hx]; rfl
  rw [← hr]
  clear hr hz hy hx
  have q1 : x % 16 < 16 := Nat.mod_lt _ (by omega)
  have q2 : y % 16 < 16 := Nat.mod_lt _ (by omega)
  go_enter Tryd.func20, Tryd.ntmps20
  go_wp2
  go_ret
  exact ⟨rfl, rfl⟩
/-- Bytes, where they lie. -/
def BytesAt (w : World) (g : Nat) (l : List UInt8) : Prop := ∀ j c, l[j]? = some c → w.cell? ⟨g, j, none⟩ = some (.int .u8 c.toNat)
theorem BytesAt.of_own {w : World} {base : Nat} {e : TypeId} {g n cap : Nat} {l : List UInt8} (h : w.ownsRow base e 1 (.slice (some ⟨g, 0, none⟩) n cap) n (bytesV l)) : BytesAt w g l := by
  intro j c hc
  have hn : n = l.length := by have := h.1; rw [bytesV_len] at this; omega
  have hj := (List.getElem?_eq_some_iff.1 hc).1
  rcases own_at h (by omega) with ⟨g', cap', e1, _, _, _, _, h2, _⟩
  cases e1
  rw [h2 j (by omega)]
  simp [bytesV, hc]
theorem sum_succ (l : List UInt8) (k : Nat) (c : UInt8) (h : l[k]? = some c) : sumFrom 4294967295 (l.take (k + 1)) = stepB (sumFrom 4294967295 (l.take k)) c := by
  rw [List.take_add_one, h]; exact sumFrom_snoc _ _ _
theorem of_any (l : List UInt8) (g cap : Nat) (w : World) (hl : l.length ≤ 1000000000000000) (hc : BytesAt w g l) (hw : PVars w) : Calls Tryd.prog 9 #[.slice (some ⟨g, 0, none⟩) l.length cap] w fun e w' => e = .returned (.int .u32 (crc l)) ∧ w = w' := by
  go_enter Tryd.func9, Tryd.ntmps9
  go_wp2
  go_loop [3, 8] (fun v i => ∃ k : Nat, k ≤ l.length ∧ i = .int .i64 k ∧ v = .int .u32 (sumFrom 4294967295 (l.take k) : Nat)) (fun _ i => l.length - (intOf i).toNat)
  case atStart => exact ⟨0, Nat.zero_le _, rfl, rfl⟩
  case round =>
    obtain ⟨k, hk, rfl, rfl⟩ := hrel
    have hS := sumFrom_lt (l.take k) (show 4294967295 < 4294967296 by decide)
    by_cases hlt : k < l.length
    · obtain ⟨c, hcc⟩ : ∃ c, l[k]? = some c := ⟨_, List.getElem?_eq_getElem hlt⟩
      have h1 := hc k c hcc
      have HS := Lib.hid (sum_succ l k c hcc)
      generalize sumFrom 4294967295 (l.take k) = v at hS HS
      clear hcc
      go_wp2_with (go_at_call 20; refine (step_any v c _ hS hw).mono ?_; rintro e w' ⟨rfl, rfl⟩)
      go_round
      case rel => exact ⟨k + 1, by omega, by go_num, by rw [HS.out]⟩
      case measure => simp [intOf]; omega
    · obtain rfl : k = l.length := by omega
      have HC := Lib.hid (show crc l = 4294967295 ^^^ sumFrom 4294967295 (l.take l.length) by rw [List.take_length]; rfl)
      generalize sumFrom 4294967295 (l.take l.length) = v at hS HC
      have hsg : IntKind.u32.signed = false := rfl
      have hx : bits .xor .u32 IntKind.u32.max (v : Int) = ((4294967295 ^^^ v : Nat) : Int) := Go.u32_xor_nat 4294967295 v (by decide) hS
      go_wp2
      go_ret
      exact ⟨by rw [HC.out]; rfl, rfl⟩
/-- So many places. -/
def shN : Nat → Nat → Nat
  | 0, x => x
  | n + 1, x => sh (shN n x)
theorem shN_lt (n x : Nat) (h : x < 4294967296) : shN n x < 4294967296 := by
  induction n with
  | zero => exact h
  | succ n ih => exact sh_lt ih
theorem shN8 (v : Nat) (c : UInt8) : shN 8 (v ^^^ c.toNat) = stepB v c := rfl
/-- The types []byte and byte. -/
theorem byT : BytesT Tryd.prog 23 5 := ⟨Tryd.underlying23, Tryd.underlying5, by kernel_rfl⟩
theorem byte_of (m : Nat) : Value.int .u8 ((m : Int) % 256) = .int .u8 ((UInt8.ofNat (m % 256)).toNat : Nat) := by
  rw [UInt8.toNat_ofNat']
  congr 1
  omega
/-- A row of the caller's own that a callee lengthens: what has turned. -/
structure Apps (w w' : World) (v v' : Value) : Prop where
  grown : w.grownBy w' v.ownBlock
  at' : v'.ownBlock = v.ownBlock ∨ ∃ g, v'.ownBlock = some g ∧ w.heap.size ≤ g
theorem Apps.refl (w : World) (v : Value) : Apps w w v v := ⟨World.grownBy.refl _ _, .inl rfl⟩
theorem Apps.trans {a b c : World} {x y z : Value} (h : Apps a b x y) (k : Apps b c y z) : Apps a c x z := by
  refine ⟨⟨k.grown.os.trans h.grown.os, k.grown.tape.trans h.grown.tape, k.grown.output.trans h.grown.output, Nat.le_trans h.grown.size k.grown.size, fun i hi hne => ?_⟩, ?_⟩
  · refine (k.grown.block i (Nat.lt_of_lt_of_le hi h.grown.size) ?_).trans (h.grown.block i hi hne)
    rcases h.at' with e | ⟨g, e, hg⟩
    · rw [e]; exact hne
    · rw [e]; intro e2; cases e2; omega
  · rcases k.at' with e | ⟨g, e, hg⟩
    · rw [e]; exact h.at'
    · exact .inr ⟨g, e, Nat.le_trans h.grown.size hg⟩
theorem Apps.below {a b c : World} {B : Nat} {x y : Value} (h : Below B a b) (k : Apps b c x y) (hB : B ≤ b.heap.size) (hx : ∀ j, x.ownBlock = some j → B ≤ j) : Below B a c := h.grown k.grown hB hx
/-- What a byte more is. -/
theorem low_next (l : List UInt8) (n k : Nat) : l ++ low (k + 1) n = (l ++ low k n) ++ [UInt8.ofNat (n / 256 ^ k % 256)] := by rw [low_succ, List.append_assoc]
end Pw
end Go.Proofs.YtnmgdlmicgbapaaDoor
