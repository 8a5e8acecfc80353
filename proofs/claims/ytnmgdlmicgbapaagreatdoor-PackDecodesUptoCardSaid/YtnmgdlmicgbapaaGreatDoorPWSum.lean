/- The walks of the sum: the program's by a table of four places, the document's place by place; and of a number's bytes. -/
import Derived.Test.YtnmgdlmicgbapaaGreatDoorPEnc
import Derived.Test.YtnmgdlmicgbapaaGreatDoorPZeros
import Derived.Test.YtnmgdlmicgbapaaGreatDoorBytes
import Derived.Test.YtnmgdlmicgbapaaGreatDoorChecked
import Derived.WalkSmall
namespace Go.Proofs.YtnmgdlmicgbapaaGreatDoor
open Go.RowKit

namespace Pw
open Pk
theorem half_lt (k : Nat) : half.getD k 0 < 4294967296 := by
  rcases Nat.lt_or_ge k 16 with h | h
  · exact (by decide : ∀ k : Fin 16, half.getD k.val 0 < 4294967296) ⟨k, h⟩
  · have e : half.getD k 0 = 0 := by rw [List.getD_eq_getElem?_getD, List.getElem?_eq_none (by simpa [half] using h)]; rfl
    rw [e]; decide
theorem and15_u32 (x : Nat) (h : x < 4294967296) : bits .and .u32 (x : Int) 15 = ((x % 16 : Nat) : Int) := by
  have := Go.u32_and_nat x 15 h (by decide)
  rw [show ((15 : Nat) : Int) = 15 from rfl] at this
  rw [this]
  congr 1
  exact Nat.and_two_pow_sub_one_eq_mod x 4
/-- What the program's own tables hold. -/
structure PVars (w : World) : Prop where
  half : ∀ k, k < 16 → w.cell? ⟨1, k, none⟩ = some (.int .u32 (half.getD k 0 : Nat))

/-- Four places, as the program reckons them. -/
theorem quarter (x : Nat) (hx : x < 4294967296) (w : World) (hw : PVars w) : ∃ n y : Nat, y = sh4 x ∧ y < 4294967296 ∧ bits .and .u32 (x : Int) 15 = ((x % 16 : Nat) : Int) ∧ w.cell? ⟨1, x % 16, none⟩ = some (.int .u32 n) ∧ bits .xor .u32 (n : Int) ((x : Int) / 16) = (y : Int) := by
  refine ⟨half.getD (x % 16) 0, sh4 x, rfl, sh4_lt hx, and15_u32 x hx, hw.half _ (Nat.mod_lt _ (by omega)), ?_⟩
  rw [sh4_half]
  have := Go.u32_xor_nat (half.getD (x % 16) 0) (x / 16) (half_lt _) (by omega)
  rw [← this]; congr 1
theorem step_any (v : Nat) (b : UInt8) (w : World) (hv : v < 4294967296) (hw : PVars w) : Calls Tryz.prog 34 #[.int .u32 v, .int .u8 b.toNat] w fun e w' => e = .returned (.int .u32 (stepB v b)) ∧ w = w' := by
  have hb := b.toNat_lt
  obtain ⟨x, hx⟩ : ∃ x, x = v ^^^ b.toNat := ⟨_, rfl⟩
  have hxl : x < 4294967296 := by rw [hx]; exact Nat.xor_lt_two_pow (n := 32) hv (by omega)
  have e1 : bits .xor .u32 (v : Int) (b.toNat : Int) = (x : Int) := by rw [hx]; exact Go.u32_xor_nat _ _ hv (by omega)
  obtain ⟨n, y, hy, hyl, e2, c1, e3⟩ := quarter x hxl w hw
  obtain ⟨m, z, hz, hzl, e4, c2, e5⟩ := quarter y hyl w hw
  have hr : z = stepB v b := by rw [hz, hy, hx]; rfl
  rw [← hr]
  clear hr hz hy hx
  have q1 : x % 16 < 16 := Nat.mod_lt _ (by omega)
  have q2 : y % 16 < 16 := Nat.mod_lt _ (by omega)
  go_enter Tryz.func34, Tryz.ntmps34
  go_wp2
  go_ret
  exact ⟨rfl, rfl⟩
/-- Bytes, where they lie. -/
def BytesAt (w : World) (g : Nat) (l : List UInt8) : Prop := ∀ j c, l[j]? = some c → w.cell? ⟨g, j, none⟩ = some (.int .u8 c.toNat)
theorem BytesAt.of_own {w : World} {base : Nat} {e : TypeId} {g n cap : Nat} {l : List UInt8} (h : w.ownsRow base e 1 (.slice (some ⟨g, 0, none⟩) n cap) n (bytesV l)) : BytesAt w g l := by
  intro j c hc
  have hn : n = l.length := by have := h.1; rw [bytesV_len] at this; omega
  have hj := (List.getElem?_eq_some_iff.1 hc).1
  rcases own_at h (by omega) with ⟨g', cap', e1, _, _, _, _, h2, _⟩
  cases e1
  rw [h2 j (by omega)]
  simp [bytesV, hc]
theorem sum_succ (l : List UInt8) (k : Nat) (c : UInt8) (h : l[k]? = some c) : sumFrom 4294967295 (l.take (k + 1)) = stepB (sumFrom 4294967295 (l.take k)) c := by
  rw [List.take_add_one, h]; exact sumFrom_snoc _ _ _
theorem of_any (l : List UInt8) (g cap : Nat) (w : World) (hl : l.length ≤ 1000000000000000) (hc : BytesAt w g l) (hw : PVars w) : Calls Tryz.prog 25 #[.slice (some ⟨g, 0, none⟩) l.length cap] w fun e w' => e = .returned (.int .u32 (crc l)) ∧ w = w' := by
  go_enter Tryz.func25, Tryz.ntmps25
  go_wp2
  go_loop [3, 8] (fun v i => ∃ k : Nat, k ≤ l.length ∧ i = .int .i64 k ∧ v = .int .u32 (sumFrom 4294967295 (l.take k) : Nat)) (fun _ i => l.length - (intOf i).toNat)
  case atStart => exact ⟨0, Nat.zero_le _, rfl, rfl⟩
  case round =>
    obtain ⟨k, hk, rfl, rfl⟩ := hrel
    have hS := sumFrom_lt (l.take k) (show 4294967295 < 4294967296 by decide)
    by_cases hlt : k < l.length
    · obtain ⟨c, hcc⟩ : ∃ c, l[k]? = some c := ⟨_, List.getElem?_eq_getElem hlt⟩
      have h1 := hc k c hcc
      have HS := Lib.hid (sum_succ l k c hcc)
      generalize sumFrom 4294967295 (l.take k) = v at hS HS
      clear hcc
      go_wp2_with (go_at_call 34; refine (step_any v c _ hS hw).mono ?_; rintro e w' ⟨rfl, rfl⟩)
      go_round
      case rel => exact ⟨k + 1, by omega, by go_num, by rw [HS.out]⟩
      case measure => simp [intOf]; omega
    · obtain rfl : k = l.length := by omega
      have HC := Lib.hid (show crc l = 4294967295 ^^^ sumFrom 4294967295 (l.take l.length) by rw [List.take_length]; rfl)
      generalize sumFrom 4294967295 (l.take l.length) = v at hS HC
      have hsg : IntKind.u32.signed = false := rfl
      have hx : bits .xor .u32 IntKind.u32.max (v : Int) = ((4294967295 ^^^ v : Nat) : Int) := Go.u32_xor_nat 4294967295 v (by decide) hS
      go_wp2
      go_ret
      exact ⟨by rw [HC.out]; rfl, rfl⟩
/-- So many places. -/
def shN : Nat → Nat → Nat
  | 0, x => x
  | n + 1, x => sh (shN n x)
theorem shN_lt (n x : Nat) (h : x < 4294967296) : shN n x < 4294967296 := by
  induction n with
  | zero => exact h
  | succ n ih => exact sh_lt ih
theorem shN8 (v : Nat) (c : UInt8) : shN 8 (v ^^^ c.toNat) = stepB v c := rfl
theorem crc_any (l : List UInt8) (g cap : Nat) (w : World) (hl : l.length ≤ 1000000000000000) (hc : BytesAt w g l) : Calls Tryz.prog 27 #[.slice (some ⟨g, 0, none⟩) l.length cap] w fun e w' => e = .returned (.int .i64 (crc l)) ∧ w = w' := by
  go_enter Tryz.func27, Tryz.ntmps27
  go_wp2
  go_loop [3, 4] (fun v i => ∃ k : Nat, k ≤ l.length ∧ i = .int .i64 k ∧ v = .int .u32 (sumFrom 4294967295 (l.take k) : Nat)) (fun _ i => l.length - (intOf i).toNat)
  case atStart => exact ⟨0, Nat.zero_le _, rfl, rfl⟩
  case round =>
    obtain ⟨k, hk, rfl, rfl⟩ := hrel
    have hS := sumFrom_lt (l.take k) (show 4294967295 < 4294967296 by decide)
    by_cases hlt : k < l.length
    · obtain ⟨c, hcc⟩ : ∃ c, l[k]? = some c := ⟨_, List.getElem?_eq_getElem hlt⟩
      have h1 := hc k c hcc
      have hb := c.toNat_lt
      have HS := Lib.hid (sum_succ l k c hcc)
      generalize sumFrom 4294967295 (l.take k) = v at hS HS
      obtain ⟨x, hx⟩ : ∃ x, x = v ^^^ c.toNat := ⟨_, rfl⟩
      have hxl : x < 4294967296 := by rw [hx]; exact Nat.xor_lt_two_pow (n := 32) hS (by omega)
      have e1 : bits .xor .u32 (v : Int) (c.toNat : Int) = (x : Int) := by rw [hx]; exact Go.u32_xor_nat _ _ hS (by omega)
      have HX := Lib.hid hx
      clear hcc hx
      go_wp2
      go_loop [3, 5] (fun v i => ∃ n : Nat, n ≤ 8 ∧ i = .int .i64 n ∧ v = .int .u32 (shN n x : Nat)) (fun _ i => 8 - (intOf i).toNat)
      case atStart => exact ⟨0, Nat.zero_le _, rfl, rfl⟩
      case round =>
        obtain ⟨n, hn, rfl, rfl⟩ := hrel
        have hy := shN_lt n x hxl
        have HN := Lib.hid (show shN (n + 1) x = sh (shN n x) from rfl)
        by_cases hn8 : n < 8
        · generalize shN n x = y at hy HN
          by_cases ho : y % 2 = 1
          · have h2 : ((y : Int) % 2 == 1) = true := by rw [beq_iff_eq]; omega
            have h3 : bits .xor .u32 ((y : Int) / 2) 3988292384 = ((sh y : Nat) : Int) := by
              unfold sh; rw [if_pos ho, ← Go.u32_xor_nat _ _ (by omega) (by decide)]; rfl
            clear ho
            go_wp2
            go_round
            case rel => exact ⟨n + 1, by omega, by go_num, by rw [HN.out]⟩
            case measure => simp [intOf]; omega
          · have h2 : ((y : Int) % 2 == 1) = false := by rw [beq_eq_false_iff_ne]; omega
            have h3 : ((y : Int) / 2) = ((sh y : Nat) : Int) := by unfold sh; rw [if_neg ho]; rfl
            have H3 := Lib.hid h3
            clear ho h3
            go_wp2
            go_round
            case rel => exact ⟨n + 1, by omega, by go_num, by rw [HN.out, H3.out]⟩
            case measure => simp [intOf]; omega
        · obtain rfl : n = 8 := by omega
          have H8 := Lib.hid (show shN 8 x = stepB v c by rw [HX.out]; rfl)
          generalize shN 8 x = y at hy HN H8
          go_wp2
          go_round
          case rel => exact ⟨k + 1, by omega, by go_num, by rw [HS.out, H8.out]⟩
          case measure => simp [intOf]; omega
    · obtain rfl : k = l.length := by omega
      have HC := Lib.hid (show crc l = 4294967295 ^^^ sumFrom 4294967295 (l.take l.length) by rw [List.take_length]; rfl)
      generalize sumFrom 4294967295 (l.take l.length) = v at hS HC
      have hsg : IntKind.u32.signed = false := rfl
      have hzl : 4294967295 ^^^ v < 4294967296 := Nat.xor_lt_two_pow (n := 32) (by decide) hS
      have hx : bits .xor .u32 IntKind.u32.max (v : Int) = ((4294967295 ^^^ v : Nat) : Int) := Go.u32_xor_nat 4294967295 v (by decide) hS
      generalize 4294967295 ^^^ v = z at hzl hx HC
      go_wp2
      go_ret
      exact ⟨by rw [HC.out]; rfl, rfl⟩
/-- The types []byte and byte. -/
theorem byT : BytesT Tryz.prog 22 5 := ⟨Tryz.underlying22, Tryz.underlying5, by kernel_rfl⟩
theorem byte_of (m : Nat) : Value.int .u8 ((m : Int) % 256) = .int .u8 ((UInt8.ofNat (m % 256)).toNat : Nat) := by
  rw [UInt8.toNat_ofNat']
  congr 1
  omega
/-- A row of the caller's own that a callee lengthens: what has turned. -/
structure Apps (w w' : World) (v v' : Value) : Prop where
  grown : w.grownBy w' v.ownBlock
  at' : v'.ownBlock = v.ownBlock ∨ ∃ g, v'.ownBlock = some g ∧ w.heap.size ≤ g
theorem Apps.refl (w : World) (v : Value) : Apps w w v v := ⟨World.grownBy.refl _ _, .inl rfl⟩
theorem Apps.trans {a b c : World} {x y z : Value} (h : Apps a b x y) (k : Apps b c y z) : Apps a c x z := by
  refine ⟨⟨k.grown.os.trans h.grown.os, k.grown.tape.trans h.grown.tape, k.grown.output.trans h.grown.output, Nat.le_trans h.grown.size k.grown.size, fun i hi hne => ?_⟩, ?_⟩
  · refine (k.grown.block i (Nat.lt_of_lt_of_le hi h.grown.size) ?_).trans (h.grown.block i hi hne)
    rcases h.at' with e | ⟨g, e, hg⟩
    · rw [e]; exact hne
    · rw [e]; intro e2; cases e2; omega
  · rcases k.at' with e | ⟨g, e, hg⟩
    · rw [e]; exact h.at'
    · exact .inr ⟨g, e, Nat.le_trans h.grown.size hg⟩
theorem Apps.below {a b c : World} {B : Nat} {x y : Value} (h : Below B a b) (k : Apps b c x y) (hB : B ≤ b.heap.size) (hx : ∀ j, x.ownBlock = some j → B ≤ j) : Below B a c := h.grown k.grown hB hx
/-- What a byte more is. -/
theorem low_next (l : List UInt8) (n k : Nat) : l ++ low (k + 1) n = (l ++ low k n) ++ [UInt8.ofNat (n / 256 ^ k % 256)] := by rw [low_succ, List.append_assoc]
theorem low_any (l : List UInt8) (v : Value) (n wd : Nat) (base : Nat) (w : World) (hn : n < 9223372036854775807) (hwd : wd ≤ 8) (hl : l.length ≤ 100000000000000) (hb : base ≤ w.heap.size) (ho : w.ownsRow base 5 1 v l.length (bytesV l)) :
    Calls Tryz.prog 20 #[v, .int .i64 n, .int .i64 wd] w fun e w' => ∃ v', e = .returned v' ∧ w'.ownsRow base 5 1 v' (l ++ low wd n).length (bytesV (l ++ low wd n)) ∧ Apps w w' v v' := by
  go_enter Tryz.func20, Tryz.ntmps20
  go_wp2
  go_loopw [0, 1, 7] (fun b m i wr => ∃ k : Nat, k ≤ wd ∧ i = .int .i64 k ∧ m = .int .i64 (n / 256 ^ k : Nat) ∧ wr.ownsRow base 5 1 b (l ++ low k n).length (bytesV (l ++ low k n)) ∧ Apps w wr v b) (fun _ _ i _ => wd - (intOf i).toNat)
  case atStart => exact ⟨0, Nat.zero_le _, rfl, by simp, by simpa [low] using ho, Apps.refl _ _⟩
  case round =>
    obtain ⟨k, hk, rfl, rfl, hown, hap⟩ := hrel
    have hsz := hap.grown.size
    have hbs : base ≤ wr.heap.size := by omega
    have hll : (l ++ low k n).length ≤ 100000000000008 := by rw [List.length_append, low_len]; omega
    by_cases hlt : k < wd
    · have HN := Lib.hid (low_next l n k)
      have HD := Lib.hid (show n / 256 ^ (k + 1) = n / 256 ^ k / 256 by rw [Nat.div_div_eq_div_mul, Nat.pow_succ])
      have hm : n / 256 ^ k ≤ n := Nat.div_le_self _ _
      generalize n / 256 ^ k = m at hm HN HD
      generalize l ++ low k n = L at hown hll HN
      go_wp2_with (at_builtin; refine wpList_append_bytes byT wr rfl _ _ rfl _ base _ L [UInt8.ofNat (m % 256)] 1 (by simp only [bytesV, List.map_cons, List.map_nil]; rw [← byte_of]) (by rfl) (by rfl) hown (by rfl) (by simp only [List.length_cons, List.length_nil]; omega) hbs ?_; intro v1 w1 ho1 hg1 hat1)
      go_roundw
      case rel => exact ⟨k + 1, by omega, by go_num, by rw [HD.out]; go_num, by rw [HN.out]; exact ho1, hap.trans ⟨hg1, hat1⟩⟩
      case measure => simp [intOf]; omega
    · obtain rfl : k = wd := by omega
      go_wp2
      go_ret
      exact ⟨_, rfl, hown, hap⟩
/-- .. behind a full row, whatever its mark. -/
theorem low_full (l : List UInt8) (g n wd : Nat) (base : Nat) (w : World) (hn : n < 9223372036854775807) (hwd0 : 0 < wd) (hwd : wd ≤ 8) (hl : l.length ≤ 100000000000000) (hb : base ≤ w.heap.size) (hc : ∀ j u, (bytesV l)[j]? = some u → w.cell? ⟨g, j, none⟩ = some u) (hg : g < w.heap.size) :
    Calls Tryz.prog 20 #[.slice (some ⟨g, 0, none⟩) l.length l.length, .int .i64 n, .int .i64 wd] w fun e w' => ∃ v', e = .returned v' ∧ w'.ownsRow base 5 1 v' (l ++ low wd n).length (bytesV (l ++ low wd n)) ∧ Apps w w' (.slice (some ⟨g, 0, none⟩) l.length l.length) v' := by
  obtain ⟨i0, hi, hz0, hz1, hz2⟩ := info_parts byT.info
  go_enter Tryz.func20, Tryz.ntmps20
  go_wp2
  go_loopw [0, 1, 7] (fun b m i wr => ∃ k : Nat, k ≤ wd ∧ i = .int .i64 k ∧ m = .int .i64 (n / 256 ^ k : Nat) ∧ ((k = 0 ∧ b = .slice (some ⟨g, 0, none⟩) l.length l.length ∧ wr = w) ∨ (0 < k ∧ wr.ownsRow base 5 1 b (l ++ low k n).length (bytesV (l ++ low k n)) ∧ Apps w wr (.slice (some ⟨g, 0, none⟩) l.length l.length) b))) (fun _ _ i _ => wd - (intOf i).toNat)
  case atStart => exact ⟨0, Nat.zero_le _, rfl, by simp, .inl ⟨rfl, rfl, rfl⟩⟩
  case round =>
    obtain ⟨k, hk, rfl, rfl, hown⟩ := hrel
    have hll : (l ++ low k n).length ≤ 100000000000008 := by rw [List.length_append, low_len]; omega
    by_cases hlt : k < wd
    · have HN := Lib.hid (low_next l n k)
      have HD := Lib.hid (show n / 256 ^ (k + 1) = n / 256 ^ k / 256 by rw [Nat.div_div_eq_div_mul, Nat.pow_succ])
      have hm : n / 256 ^ k ≤ n := Nat.div_le_self _ _
      generalize n / 256 ^ k = m at hm HN HD
      rcases hown with ⟨rfl, rfl, rfl⟩ | ⟨hk0, hown, hap⟩
      · have h0 : l ++ low 0 n = l := by simp [low]
        rw [h0] at HN hll
        clear h0
        go_wp2_with (at_builtin; refine wpList_append_full byT wr rfl _ _ rfl _ g l [UInt8.ofNat (m % 256)] 1 (by simp only [bytesV, List.map_cons, List.map_nil]; rw [← byte_of]) (by rfl) (Nat.zero_lt_succ _) (by rfl) hc hg (by rfl) (by simp only [List.length_cons, List.length_nil]; omega) ?_; intro v1 w1 ho1 hg1)
        go_roundw
        case rel => exact ⟨0 + 1, by omega, by go_num, by rw [HD.out]; go_num, .inr ⟨by omega, by rw [HN.out]; exact ⟨ho1.1, ho1.2.elim Or.inl (fun ⟨g, cap, cur, hv, hg, r⟩ => Or.inr ⟨g, cap, cur, hv, Nat.le_trans hb hg, r⟩)⟩, ⟨⟨hg1.os, hg1.tape, hg1.output, hg1.size, fun i hi _ => hg1.block i hi (by simp)⟩, .inr (by
          rcases ho1.2 with ⟨_, h0⟩ | ⟨g', _, _, e, hg', _⟩
          · rw [List.length_append] at h0; simp at h0
          · exact ⟨g', by rw [e]; rfl, hg'⟩)⟩⟩⟩
        case measure => simp [intOf]; omega
      · have hsz := hap.grown.size
        have hbs : base ≤ wr.heap.size := by omega
        generalize l ++ low k n = L at hown hll HN
        go_wp2_with (at_builtin; refine wpList_append_bytes byT wr rfl _ _ rfl _ base _ L [UInt8.ofNat (m % 256)] 1 (by simp only [bytesV, List.map_cons, List.map_nil]; rw [← byte_of]) (by rfl) (by rfl) hown (by rfl) (by simp only [List.length_cons, List.length_nil]; omega) hbs ?_; intro v1 w1 ho1 hg1 hat1)
        go_roundw
        case rel => exact ⟨k + 1, by omega, by go_num, by rw [HD.out]; go_num, .inr ⟨by omega, by rw [HN.out]; exact ho1, hap.trans ⟨hg1, hat1⟩⟩⟩
        case measure => simp [intOf]; omega
    · obtain rfl : k = wd := by omega
      rcases hown with ⟨rfl, _⟩ | ⟨_, hown, hap⟩
      · omega
      · go_wp2
        go_ret
        exact ⟨_, rfl, hown, hap⟩
end Pw
end Go.Proofs.YtnmgdlmicgbapaaGreatDoor
