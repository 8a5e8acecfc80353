/- The reference's sum, bit by bit. -/
import Derived.Test.YtegplehbcdeeoaaGreatDoorChkB02
import Derived.Shelf.Small.Strs
import Derived.Shelf.Small.Utf8
import Derived.Shelf.LaysM
import Derived.Shelf.LaysC
import Derived.Shelf.Strconv.Itoa2
import Derived.Shelf.Strconv.Itoa3
import Derived.Shelf.Strings.IndexAnyAll
import Derived.Ground.SlbCloneProg
import Derived.Shelf.Bytes.SlClone
import Derived.Shelf.Bytes.SlEqualAll
import Derived.Shelf.Strings.Search1
import Derived.Test.YtegplehbcdeeoaaGreatDoorProg
import Derived.Lib.DecodeN
import Derived.Laws.RangeAny
import Derived.Laws.Runes
import Derived.Deep.LoopGhost
import Derived.WalkMore
import Derived.Lib.OthersKept
import Derived.Test.YtegplehbcdeeoaaGreatDoorChecked
import Derived.Test.YtegplehbcdeeoaaGreatDoorChkB01
namespace Go.Proofs.YtegplehbcdeeoaaGreatDoor
open Go.RowKit

namespace Ck
open Pk
/-- Places to the right. -/
def shN : Nat → Nat → Nat
  | 0, v => v
  | k + 1, v => sh (shN k v)
theorem shN_lt (n v : Nat) (h : v < 4294967296) : shN n v < 4294967296 := by
  induction n with
  | zero => exact h
  | succ n ih => exact sh_lt ih
theorem shN8 (v : Nat) (c : UInt8) : shN 8 (v ^^^ c.toNat) = stepB v c := rfl
theorem lsum_succ (l : List UInt8) (k : Nat) (c : UInt8) (h : l[k]? = some c) : sumFrom 4294967295 (l.take (k + 1)) = stepB (sumFrom 4294967295 (l.take k)) c := by
  rw [List.take_add_one, h]
  exact sumFrom_snoc _ _ _
theorem refOne_any (y : Nat) (hv : y < 4294967296) (w : World) : Calls Tryz.prog 71 #[.int .u32 y] w fun e w' => e = .returned (.int .u32 (sh y : Nat)) ∧ w = w' := by
  by_cases ho : y % 2 = 1
  · have h2 : ((y : Int) % 2 == 1) = true := by rw [beq_iff_eq]; omega
    have h3 : bits .xor .u32 ((y : Int) / 2) 3988292384 = ((sh y : Nat) : Int) := by
      unfold sh; rw [if_pos ho, ← Go.u32_xor_nat _ _ (by omega) (by decide)]; rfl
    clear ho
    go_enter Tryz.func71, Tryz.ntmps71
    go_wp2
    go_ret
    exact ⟨rfl, rfl⟩
  · have h2 : ((y : Int) % 2 == 1) = false := by rw [beq_eq_false_iff_ne]; omega
    have h3 : ((y : Int) / 2) = ((sh y : Nat) : Int) := by unfold sh; rw [if_neg ho]; rfl
    have H3 := Lib.hid h3
    clear ho h3
    go_enter Tryz.func71, Tryz.ntmps71
    go_wp2
    go_ret
    exact ⟨by rw [← H3.out]; rfl, rfl⟩
theorem refSum_any (l : B) (g o cap : Nat) (w : World) (hl : l.length ≤ 1000000000000000) (hs : SeenAt w g o l) : Calls Tryz.prog 37 #[.slice (some ⟨g, o, none⟩) l.length cap] w fun e w' => e = .returned (.int .u32 (crc l : Nat)) ∧ w = w' := by
  go_enter Tryz.func37, Tryz.ntmps37
  go_wp2
  go_loopw [3, 4] (fun v i wr => wr = w ∧ ∃ k : Nat, k ≤ l.length ∧ i = .int .i64 k ∧ v = .int .u32 (sumFrom 4294967295 (l.take k) : Nat)) (fun _ i _ => l.length - (intOf i).toNat)
  case atStart => exact ⟨rfl, 0, Nat.zero_le _, rfl, rfl⟩
  case round =>
    obtain ⟨rfl, k, hk, rfl, rfl⟩ := hrel
    have hS := sumFrom_lt (l.take k) (show 4294967295 < 4294967296 by decide)
    by_cases hlt : k < l.length
    · obtain ⟨c, hcc⟩ : ∃ c, l[k]? = some c := ⟨_, List.getElem?_eq_getElem hlt⟩
      have h1 := hs k c hcc
      have hb := c.toNat_lt
      have HS := Lib.hid (lsum_succ l k c hcc)
      generalize sumFrom 4294967295 (l.take k) = v at hS HS
      obtain ⟨x, hx⟩ : ∃ x, x = v ^^^ c.toNat := ⟨_, rfl⟩
      have hxl : x < 4294967296 := by rw [hx]; exact Nat.xor_lt_two_pow (n := 32) hS (by omega)
      have e1 : bits .xor .u32 (v : Int) (c.toNat : Int) = (x : Int) := by rw [hx]; exact Go.u32_xor_nat _ _ hS (by omega)
      have HX := Lib.hid hx
      clear hcc hx
      go_wp2_with fail
      go_loopw [3, 5] (fun v i wx => wx = wr ∧ ∃ n : Nat, n ≤ 8 ∧ i = .int .i64 n ∧ v = .int .u32 (shN n x : Nat)) (fun _ i _ => 8 - (intOf i).toNat)
      case atStart => exact ⟨rfl, 0, Nat.zero_le _, rfl, rfl⟩
      case round =>
        obtain ⟨rfl, n, hn, rfl, rfl⟩ := hrel
        have hy := shN_lt n x hxl
        have HN := Lib.hid (show shN (n + 1) x = sh (shN n x) from rfl)
        by_cases hn8 : n < 8
        · generalize shN n x = y at hy HN
          have HO := fun w => refOne_any y hy w
          go_wp2_with (refine (HO _).mono ?_; rintro e w' ⟨rfl, rfl⟩)
          go_roundw
          case rel => exact ⟨by first | rfl | trivial, n + 1, by omega, by go_num, by rw [HN.out]⟩
          case measure => simp [intOf]; omega
        · obtain rfl : n = 8 := by omega
          have H8 := Lib.hid (show shN 8 x = stepB v c by rw [HX.out]; rfl)
          generalize shN 8 x = y at hy HN H8
          go_wp2
          go_roundw
          case rel => exact ⟨by first | rfl | trivial, k + 1, by omega, by go_num, by rw [HS.out, H8.out]⟩
          case measure => simp [intOf]; omega
    · obtain rfl : k = l.length := by omega
      have HC := Lib.hid (show crc l = 4294967295 ^^^ sumFrom 4294967295 (l.take l.length) by rw [List.take_length]; rfl)
      generalize sumFrom 4294967295 (l.take l.length) = v at hS HC
      have hsg : IntKind.u32.signed = false := rfl
      have hzl : 4294967295 ^^^ v < 4294967296 := Nat.xor_lt_two_pow (n := 32) (by decide) hS
      have hx : bits .xor .u32 (v : Int) 4294967295 = ((4294967295 ^^^ v : Nat) : Int) := by rw [Nat.xor_comm]; exact Go.u32_xor_nat v 4294967295 hS (by decide)
      generalize 4294967295 ^^^ v = z at hzl hx HC
      go_wp2
      go_ret
      exact ⟨by rw [HC.out]; rfl, rfl⟩
end Ck
end Go.Proofs.YtegplehbcdeeoaaGreatDoor
/- The contracts of the library's functions that the walks use, laid at this program (by the kit's own tool; cut to what is used). -/
namespace Go.Proofs
open Go.Shelf
def Tryz.lays119_ren : Go.Shelf.Ren := ⟨fun | 119 => 192 | n => n, fun | 21 => 21 | 4 => 4 | n => n, fun | n => n⟩
theorem Tryz.lays119 : Go.Proofs.Lays.n119 Tryz.prog Tryz.lays119_ren := {
  mixed := by kernel_rfl
  f119 := Tryz.func192.trans (congrArg some (by kernel_rfl))
  t4 := Tryz.underlying4
  a4 := Tryz.isAgg4
  z4 := Tryz.sizeOf4
  v4 := Tryz.zeroValue4
  t21 := Tryz.underlying21
  a21 := Tryz.isAgg21
  z21 := Tryz.sizeOf21
  v21 := Tryz.zeroValue21 }
theorem Tryz.utf8_ValidRune (r : Int) (w : World) :
    Calls Tryz.prog 192 #[.int .i32 r] w fun e w' => e = .returned (.bool (Lib.validRune r)) ∧ w' = w := Any.utf8_ValidRune Tryz.lays119 r w
def Tryz.lays137_ren : Go.Shelf.Ren := ⟨fun | 137 => 144 | 217 => 167 | 266 => 181 | n => n, fun | 9 => 9 | 5 => 5 | 3 => 3 | n => n, fun | n => n⟩
theorem Tryz.lays137 : Go.Proofs.Lays.n137 Tryz.prog Tryz.lays137_ren := {
  mixed := by kernel_rfl
  f137 := Tryz.func144.trans (congrArg some (by kernel_rfl))
  f217 := Tryz.func167.trans (congrArg some (by kernel_rfl))
  f266 := Tryz.func181.trans (congrArg some (by kernel_rfl))
  t3 := Tryz.underlying3
  a3 := Tryz.isAgg3
  z3 := Tryz.sizeOf3
  v3 := Tryz.zeroValue3
  t5 := Tryz.underlying5
  a5 := Tryz.isAgg5
  z5 := Tryz.sizeOf5
  v5 := Tryz.zeroValue5
  t9 := Tryz.underlying9
  a9 := Tryz.isAgg9
  z9 := Tryz.sizeOf9
  v9 := Tryz.zeroValue9 }
open Go.RowKit in
theorem Tryz.strings_IndexByte (s : ByteArray) (c : Int) (w : World) :
    Calls Tryz.prog 144 #[.string s, .int .u8 c] w fun e w' => e = .returned (.int .i64 (Lib.indexByte s.data.toList c.toNat.toUInt8)) ∧ w' = w := Any.strings_IndexByte Tryz.lays137 s c w
def Tryz.laysM171_ren : Go.Shelf.Ren := ⟨fun | 171 => 21 | 243 => 50 | 246 => 90 | 283 => 123 | 284 => 124 | 285 => 125 | 286 => 126 | 129 => 156 | 317 => 155 | 318 => 157 | 319 => 158 | 320 => 159 | 337 => 174 | 338 => 175 | n => n, fun | 3 => 3 | 9 => 9 | 2 => 2 | 4 => 4 | 171 => 193 | 0 => 0 | 53 => 146 | 37 => 24 | 5 => 5 | 173 => 196 | 212 => 223 | 51 => 76 | 20 => 20 | 213 => 224 | 46 => 78 | 232 => 241 | 233 => 242 | n => n, fun | 17 => 3 | 18 => 6 | 19 => 7 | n => n⟩
theorem Tryz.laysM171 : Go.Proofs.LaysM.n171 Tryz.prog Tryz.laysM171_ren := {
  mixed := by kernel_rfl
  f129 := Tryz.func156.trans (congrArg some (by kernel_rfl))
  f171 := Tryz.func21.trans (congrArg some (by kernel_rfl))
  f243 := Tryz.func50.trans (congrArg some (by kernel_rfl))
  f246 := Tryz.func90.trans (congrArg some (by kernel_rfl))
  f283 := Tryz.func123.trans (congrArg some (by kernel_rfl))
  f284 := Tryz.func124.trans (congrArg some (by kernel_rfl))
  f285 := Tryz.func125.trans (congrArg some (by kernel_rfl))
  f286 := Tryz.func126.trans (congrArg some (by kernel_rfl))
  f317 := Tryz.func155.trans (congrArg some (by kernel_rfl))
  f318 := Tryz.func157.trans (congrArg some (by kernel_rfl))
  f319 := Tryz.func158.trans (congrArg some (by kernel_rfl))
  f320 := Tryz.func159.trans (congrArg some (by kernel_rfl))
  f337 := Tryz.func174.trans (congrArg some (by kernel_rfl))
  f338 := Tryz.func175.trans (congrArg some (by kernel_rfl))
  t0 := Tryz.underlying0
  a0 := Tryz.isAgg0
  z0 := Tryz.sizeOf0
  v0 := Tryz.zeroValue0
  t2 := Tryz.underlying2
  a2 := Tryz.isAgg2
  z2 := Tryz.sizeOf2
  v2 := Tryz.zeroValue2
  t3 := Tryz.underlying3
  a3 := Tryz.isAgg3
  z3 := Tryz.sizeOf3
  v3 := Tryz.zeroValue3
  t4 := Tryz.underlying4
  a4 := Tryz.isAgg4
  z4 := Tryz.sizeOf4
  v4 := Tryz.zeroValue4
  t5 := Tryz.underlying5
  a5 := Tryz.isAgg5
  z5 := Tryz.sizeOf5
  v5 := Tryz.zeroValue5
  t9 := Tryz.underlying9
  a9 := Tryz.isAgg9
  z9 := Tryz.sizeOf9
  v9 := Tryz.zeroValue9
  t20 := Tryz.underlying20
  a20 := Tryz.isAgg20
  z20 := Tryz.sizeOf20
  v20 := Tryz.zeroValue20
  t37 := Tryz.underlying24
  a37 := Tryz.isAgg24
  z37 := Tryz.sizeOf24
  v37 := Tryz.zeroValue24
  t46 := Tryz.underlying78
  a46 := Tryz.isAgg78
  z46 := Tryz.sizeOf78
  v46 := Tryz.zeroValue78
  t51 := Tryz.underlying76
  a51 := Tryz.isAgg76
  z51 := Tryz.sizeOf76
  v51 := Tryz.zeroValue76
  t53 := Tryz.underlying146
  a53 := Tryz.isAgg146
  z53 := Tryz.sizeOf146
  v53 := Tryz.zeroValue146
  t171 := Tryz.underlying193
  a171 := Tryz.isAgg193
  z171 := Tryz.sizeOf193
  v171 := Tryz.zeroValue193
  t173 := Tryz.underlying196
  a173 := Tryz.isAgg196
  z173 := Tryz.sizeOf196
  v173 := Tryz.zeroValue196
  t212 := Tryz.underlying223
  a212 := Tryz.isAgg223
  z212 := Tryz.sizeOf223
  v212 := Tryz.zeroValue223
  t213 := Tryz.underlying224
  a213 := Tryz.isAgg224
  z213 := Tryz.sizeOf224
  t232 := Tryz.underlying241
  a232 := Tryz.isAgg241
  z232 := Tryz.sizeOf241
  v232 := Tryz.zeroValue241
  t233 := Tryz.underlying242
  a233 := Tryz.isAgg242
  z233 := Tryz.sizeOf242
  v233 := Tryz.zeroValue242
  g17 := by kernel_rfl
  g18 := by kernel_rfl
  g19 := by kernel_rfl
  i0 := by kernel_rfl
  i2 := by kernel_rfl
  i3 := by kernel_rfl
  i4 := by kernel_rfl
  i5 := by kernel_rfl
  i9 := by kernel_rfl
  i20 := by kernel_rfl
  i37 := by kernel_rfl
  i46 := by kernel_rfl
  i51 := by kernel_rfl
  i53 := by kernel_rfl
  i171 := by kernel_rfl
  i173 := by kernel_rfl
  i212 := by kernel_rfl
  i232 := by kernel_rfl
  i233 := by kernel_rfl
  m17 := by kernel_rfl
  m18 := by kernel_rfl
  m19 := by kernel_rfl }
open Go.RowKit Go.Sort Go.Lib in
theorem Tryz.strconv_Itoa (n : Int) (h0 : -9223372036854775808 ≤ n) (h1 : n ≤ 9223372036854775807) (w : World) (htab : Lib.TabIs Tryz.prog w "internal/strconv.uint64pow10" .u64 Lib.pow10Tab) :
    Calls Tryz.prog 21 #[.int .i64 n] w fun e w' => e = .returned (.string ⟨(Lib.itoa n).toArray⟩) ∧ ∃ k os, w' = grow (w.drewN k) os := Any.strconv_Itoa Tryz.laysM171 n h0 h1 w htab
def Tryz.lays152_ren : Go.Shelf.Ren := ⟨fun | 152 => 188 | 137 => 144 | 119 => 192 | 224 => 193 | 225 => 194 | 217 => 167 | 266 => 181 | n => n, fun | 9 => 9 | 21 => 21 | 3 => 3 | 4 => 4 | 5 => 5 | 0 => 0 | 46 => 78 | n => n, fun | n => n⟩
theorem Tryz.lays152 : Go.Proofs.Lays.n152 Tryz.prog Tryz.lays152_ren := {
  mixed := by kernel_rfl
  f119 := Tryz.func192.trans (congrArg some (by kernel_rfl))
  f137 := Tryz.func144.trans (congrArg some (by kernel_rfl))
  f152 := Tryz.func188.trans (congrArg some (by kernel_rfl))
  f217 := Tryz.func167.trans (congrArg some (by kernel_rfl))
  f224 := Tryz.func193.trans (congrArg some (by kernel_rfl))
  f225 := Tryz.func194.trans (congrArg some (by kernel_rfl))
  f266 := Tryz.func181.trans (congrArg some (by kernel_rfl))
  t0 := Tryz.underlying0
  a0 := Tryz.isAgg0
  z0 := Tryz.sizeOf0
  v0 := Tryz.zeroValue0
  t3 := Tryz.underlying3
  a3 := Tryz.isAgg3
  z3 := Tryz.sizeOf3
  v3 := Tryz.zeroValue3
  t4 := Tryz.underlying4
  a4 := Tryz.isAgg4
  z4 := Tryz.sizeOf4
  v4 := Tryz.zeroValue4
  t5 := Tryz.underlying5
  a5 := Tryz.isAgg5
  z5 := Tryz.sizeOf5
  v5 := Tryz.zeroValue5
  t9 := Tryz.underlying9
  a9 := Tryz.isAgg9
  z9 := Tryz.sizeOf9
  v9 := Tryz.zeroValue9
  t21 := Tryz.underlying21
  a21 := Tryz.isAgg21
  z21 := Tryz.sizeOf21
  v21 := Tryz.zeroValue21
  t46 := Tryz.underlying78
  a46 := Tryz.isAgg78
  z46 := Tryz.sizeOf78
  v46 := Tryz.zeroValue78 }
open Go.RowKit Go.Lib in
theorem Tryz.strings_IndexRune_ascii (s : ByteArray) (r : Int) (w : World) (h0 : 0 ≤ r) (h1 : r < 128) :
    Calls Tryz.prog 188 #[.string s, .int .i32 r] w fun e w' => e = .returned (.int .i64 (Lib.indexByte s.data.toList r.toNat.toUInt8)) ∧ w' = w := Any.strings_IndexRune_ascii Tryz.lays152 s r w h0 h1
def Tryz.lays226_ren : Go.Shelf.Ren := ⟨fun | 226 => 189 | n => n, fun | 3 => 3 | 4 => 4 | n => n, fun | n => n⟩
theorem Tryz.lays226 : Go.Proofs.Lays.n226 Tryz.prog Tryz.lays226_ren := {
  mixed := by kernel_rfl
  f226 := Tryz.func189.trans (congrArg some (by kernel_rfl))
  t3 := Tryz.underlying3
  a3 := Tryz.isAgg3
  z3 := Tryz.sizeOf3
  v3 := Tryz.zeroValue3
  t4 := Tryz.underlying4
  a4 := Tryz.isAgg4
  z4 := Tryz.sizeOf4
  v4 := Tryz.zeroValue4 }
open Go.RowKit Go.Lib in
theorem Tryz.strings_shouldUseASCIISet (n : Int) (w : World) :
    Calls Tryz.prog 189 #[.int .i64 n] w fun e w' => e = .returned (.bool (decide (8 < n))) ∧ w' = w := Any.strings_shouldUseASCIISet Tryz.lays226 n w
def Tryz.lays153_ren : Go.Shelf.Ren := ⟨fun | 153 => 185 | 152 => 188 | 226 => 189 | 227 => 190 | 228 => 191 | 137 => 144 | 119 => 192 | 224 => 193 | 225 => 194 | 217 => 167 | 266 => 181 | n => n, fun | 9 => 9 | 3 => 3 | 4 => 4 | 5 => 5 | 21 => 21 | 117 => 252 | 116 => 251 | 0 => 0 | 46 => 78 | 124 => 257 | n => n, fun | n => n⟩
theorem Tryz.lays153 : Go.Proofs.Lays.n153 Tryz.prog Tryz.lays153_ren := {
  mixed := by kernel_rfl
  f119 := Tryz.func192.trans (congrArg some (by kernel_rfl))
  f137 := Tryz.func144.trans (congrArg some (by kernel_rfl))
  f152 := Tryz.func188.trans (congrArg some (by kernel_rfl))
  f153 := Tryz.func185.trans (congrArg some (by kernel_rfl))
  f217 := Tryz.func167.trans (congrArg some (by kernel_rfl))
  f224 := Tryz.func193.trans (congrArg some (by kernel_rfl))
  f225 := Tryz.func194.trans (congrArg some (by kernel_rfl))
  f226 := Tryz.func189.trans (congrArg some (by kernel_rfl))
  f227 := Tryz.func190.trans (congrArg some (by kernel_rfl))
  f228 := Tryz.func191.trans (congrArg some (by kernel_rfl))
  f266 := Tryz.func181.trans (congrArg some (by kernel_rfl))
  t0 := Tryz.underlying0
  a0 := Tryz.isAgg0
  z0 := Tryz.sizeOf0
  v0 := Tryz.zeroValue0
  t3 := Tryz.underlying3
  a3 := Tryz.isAgg3
  z3 := Tryz.sizeOf3
  v3 := Tryz.zeroValue3
  t4 := Tryz.underlying4
  a4 := Tryz.isAgg4
  z4 := Tryz.sizeOf4
  v4 := Tryz.zeroValue4
  t5 := Tryz.underlying5
  a5 := Tryz.isAgg5
  z5 := Tryz.sizeOf5
  v5 := Tryz.zeroValue5
  t9 := Tryz.underlying9
  a9 := Tryz.isAgg9
  z9 := Tryz.sizeOf9
  v9 := Tryz.zeroValue9
  t21 := Tryz.underlying21
  a21 := Tryz.isAgg21
  z21 := Tryz.sizeOf21
  v21 := Tryz.zeroValue21
  t46 := Tryz.underlying78
  a46 := Tryz.isAgg78
  z46 := Tryz.sizeOf78
  v46 := Tryz.zeroValue78
  t116 := Tryz.underlying251
  a116 := Tryz.isAgg251
  z116 := Tryz.sizeOf251
  t117 := Tryz.underlying252
  a117 := Tryz.isAgg252
  z117 := Tryz.sizeOf252
  v117 := Tryz.zeroValue252
  t124 := Tryz.underlying257
  a124 := Tryz.isAgg257
  z124 := Tryz.sizeOf257
  v124 := Tryz.zeroValue257 }
open Go.RowKit Go.Lib in
theorem Tryz.strings_IndexAny_long (hv116 : ∀ w, (zeroValue 251).run Tryz.prog w = .ok (.agg (Array.replicate 256 (.bool false))) w) (s chars : ByteArray) (w : World) (h2 : 2 ≤ chars.size) (h8 : 8 < s.size) (hs : s.size < 4294967281) (hcs : chars.size < 4294967281) (hascii : ∀ (j : Nat) b, chars.data.toList[j]? = some b → b.toNat < 128) :
    Calls Tryz.prog 185 #[.string s, .string chars] w fun e w' => e = .returned (.int .i64 (Lib.indexAny s.data.toList chars.data.toList)) ∧ w' = ((w.alloc (.cells (Lib.setCells chars.data.toList) 251)).alloc (.cells (Lib.setCells chars.data.toList) 251)) := Any.strings_IndexAny_long Tryz.lays153 hv116 (by kernel_rfl) s chars w h2 h8 hs hcs hascii
def Tryz.laysSlK4_ren : Go.Shelf.Ren := ⟨fun | 4 => 177 | n => n, fun | 22 => 24 | 4 => 4 | 5 => 5 | n => n, fun | n => n⟩
theorem Tryz.laysSlK4 : Go.Proofs.SlLaysK.n4 Tryz.prog Tryz.laysSlK4_ren := {
  mixed := by kernel_rfl
  f4 := Tryz.func177.trans (congrArg some (by kernel_rfl))
  t4 := Tryz.underlying4
  a4 := Tryz.isAgg4
  z4 := Tryz.sizeOf4
  v4 := Tryz.zeroValue4
  t22 := Tryz.underlying24
  a22 := Tryz.isAgg24
  z22 := Tryz.sizeOf24
  v22 := Tryz.zeroValue24
  t5 := Tryz.underlying5
  i5 := by kernel_rfl }
open Go.RowKit Go.Lib in
theorem Tryz.bytes_Clone_at (a : Addr) (n c : Nat) (xs : List Int) (w : World) (hx : xs.length = n) (hbig : n ≤ 140737488355328) (hc : ∀ i, i < n → w.cell? (a.add i) = some (.int .u8 (xs.getD i 0))) :
    Calls Tryz.prog 177 #[.slice (some a) n c] w fun e w' => ∃ v', e = .returned v' ∧ w'.ownsRow w.heap.size 5 1 v' n (xs.map (Value.int .u8)) ∧ v' ≠ .slice none 0 0 ∧ Below w.heap.size w w' := Any.bytes_Clone_at Tryz.laysSlK4 a n c xs w hx hbig hc
open Go.RowKit Go.Lib in
theorem Tryz.bytes_Clone_nil (n c : Nat) (w : World) :
    Calls Tryz.prog 177 #[.slice none n c] w fun e w' => e = .returned (.slice none 0 0) ∧ w' = w := Any.bytes_Clone_nil Tryz.laysSlK4 n c w
def Tryz.laysnb115_ren : Go.Shelf.Ren := ⟨fun | 115 => 94 | n => n, fun | 37 => 24 | 4 => 4 | 9 => 9 | 5 => 5 | n => n, fun | n => n⟩
theorem Tryz.laysnb115 : Go.Proofs.Lays.nb115 Tryz.prog Tryz.laysnb115_ren := {
  mixed := by kernel_rfl
  f115 := Tryz.func94.trans (congrArg some (by kernel_rfl))
  t4 := Tryz.underlying4
  a4 := Tryz.isAgg4
  z4 := Tryz.sizeOf4
  v4 := Tryz.zeroValue4
  t9 := Tryz.underlying9
  a9 := Tryz.isAgg9
  z9 := Tryz.sizeOf9
  v9 := Tryz.zeroValue9
  t37 := Tryz.underlying24
  a37 := Tryz.isAgg24
  z37 := Tryz.sizeOf24
  v37 := Tryz.zeroValue24
  t5 := Tryz.underlying5
  a5 := Tryz.isAgg5
  z5 := Tryz.sizeOf5
  v5 := Tryz.zeroValue5 }
theorem Tryz.bytes_Equal_all (p1 p2 : Option Addr) (n c m d : Nat) (xs ys : List Int) (w : World) (hx : xs.length = n) (hy : ys.length = m) (h1 : Lib.BytesIn w p1 n xs) (h2 : Lib.BytesIn w p2 m ys) :
    Calls Tryz.prog 94 #[.slice p1 n c, .slice p2 m d] w fun e w' => e = .returned (.bool (Lib.bytesOf xs == Lib.bytesOf ys)) ∧ w' = w := Any.bytes_Equal_all Tryz.laysnb115 p1 p2 n c m d xs ys w hx hy h1 h2
end Go.Proofs
/- The walk of ContainsAny of a slash and a zero byte, at whatever bytes. -/
namespace Go.Proofs.YtegplehbcdeeoaaGreatDoor
open Go.RowKit

namespace Pw
/-- A quiet callee behind a quiet region. -/
theorem quiet_add_same {P : Program} {f : FuncId} {args : Array Value} {w : World} {a n : Nat} {v : Value}
    (h : Calls P f args (w.drewN (a + n)) fun e w' => e = .returned v ∧ w' = w.drewN (a + n)) :
    Calls P f args (w.drewN (a + n)) fun e w'' => e = .returned v ∧ ∃ m, w'' = w.drewN (a + m) :=
  h.mono fun _ _ ⟨he, hm⟩ => ⟨he, n, hm⟩
/-- A rune's bytes, none of them plain. -/
theorem encode_far (r : Int) (h1 : 128 ≤ r) (h2 : r ≤ 1114111) : 2 ≤ (Utf8.encode r).size ∧ (Utf8.encode r).size ≤ 4 ∧ ∀ h : (Utf8.encode r).size - 1 < (Utf8.encode r).size, 128 ≤ ((Utf8.encode r)[(Utf8.encode r).size - 1]'h).toNat := by
  obtain ⟨c, hc, h128, hlt⟩ : ∃ c : Nat, (if Utf8.valid r then r.toNat else Utf8.runeError) = c ∧ 128 ≤ c ∧ c ≤ 1114111 := by
    refine ⟨_, rfl, ?_, ?_⟩
    · split
      · omega
      · decide
    · split
      · omega
      · decide
  have hl : ∀ n, n < 64 → 128 ≤ (UInt8.ofNat (128 + n)).toNat := fun n hn => by rw [UInt8.toNat_ofNat']; omega
  have hm : c % 64 < 64 := Nat.mod_lt _ (by decide)
  have key : ∀ rs : ByteArray, rs = (if c < 0x800 then ⟨#[UInt8.ofNat (0xC0 + c / 64), UInt8.ofNat (0x80 + c % 64)]⟩ else if c < 0x10000 then ⟨#[UInt8.ofNat (0xE0 + c / 4096), UInt8.ofNat (0x80 + c / 64 % 64), UInt8.ofNat (0x80 + c % 64)]⟩ else ⟨#[UInt8.ofNat (0xF0 + c / 262144), UInt8.ofNat (0x80 + c / 4096 % 64), UInt8.ofNat (0x80 + c / 64 % 64), UInt8.ofNat (0x80 + c % 64)]⟩) →
      2 ≤ rs.size ∧ rs.size ≤ 4 ∧ ∀ h : rs.size - 1 < rs.size, 128 ≤ (rs[rs.size - 1]'h).toNat := by
    intro rs e
    split at e
    · subst e; exact ⟨Nat.le_refl 2, (by decide : 2 ≤ 4), fun _ => hl _ hm⟩
    · split at e
      · subst e; exact ⟨(by decide : 2 ≤ 3), (by decide : 3 ≤ 4), fun _ => hl _ hm⟩
      · subst e; exact ⟨(by decide : 2 ≤ 4), Nat.le_refl 4, fun _ => hl _ hm⟩
  refine key _ ?_
  unfold Utf8.encode
  simp only [hc]
  rw [if_neg (by omega)]
/-- What a decoding has read. -/
theorem decode_far (s : ByteArray) (i : Nat) (h : i < s.size) (h128 : 128 ≤ (s[i]'h).toNat) :
    128 ≤ (Utf8.decode s i).1 ∧ (Utf8.decode s i).1 ≤ 1114111 ∧ Lib.validRune ((Utf8.decode s i).1 : Int) = true ∧ 1 ≤ (Utf8.decode s i).2 ∧ i + (Utf8.decode s i).2 ≤ s.size ∧ ∀ k, k < (Utf8.decode s i).2 → ∀ hk : i + k < s.size, 128 ≤ (s[i + k]'hk).toNat := by
  have hg : ∀ k (hk : i + k < s.size), s.get! (i + k) = s[i + k]'hk := fun k hk => by
    have : i + k < s.data.size := hk
    show s.data[i + k]! = _
    rw [getElem!_pos s.data (i + k) this]
    rfl
  have hg0 : s.get! i = s[i]'h := hg 0 h
  have hd := Lib.decode_at s i
  have h1 := (s.get! (i + 1)).toNat_lt
  have h2 := (s.get! (i + 2)).toNat_lt
  have h3 := (s.get! (i + 3)).toNat_lt
  have h0 := (s.get! i).toNat_lt
  rw [← hg0] at h128
  have key : ∀ d : Nat × Nat, Lib.decodeN (s.size - i) (s.get! i).toNat (s.get! (i + 1)).toNat (s.get! (i + 2)).toNat (s.get! (i + 3)).toNat = d →
      128 ≤ d.1 ∧ d.1 ≤ 1114111 ∧ (d.1 < 55296 ∨ 57344 ≤ d.1) ∧ 1 ≤ d.2 ∧ i + d.2 ≤ s.size ∧ d.2 ≤ 4 ∧ (2 ≤ d.2 → 128 ≤ (s.get! (i + 1)).toNat) ∧ (3 ≤ d.2 → 128 ≤ (s.get! (i + 2)).toNat) ∧ (4 ≤ d.2 → 128 ≤ (s.get! (i + 3)).toNat) := by
    intro d hd
    generalize (s.get! i).toNat = b0 at *
    generalize (s.get! (i + 1)).toNat = b1 at *
    generalize (s.get! (i + 2)).toNat = b2 at *
    generalize (s.get! (i + 3)).toNat = b3 at *
    subst hd
    unfold Lib.decodeN
    rw [if_neg (by omega)]
    repeat' split
    all_goals (refine ⟨?_, ?_, ?_, ?_, ?_, ?_, ?_, ?_, ?_⟩ <;> simp only <;> omega)
  obtain ⟨k1, k2, k3, k4, k5, k6, k7, k8, k9⟩ := key _ rfl
  rw [hd]
  refine ⟨k1, k2, ?_, k4, k5, fun k hk hks => ?_⟩
  · unfold Lib.validRune
    rw [decide_eq_true_iff]
    omega
  · rw [← hg k hks]
    rcases (show k = 0 ∨ k = 1 ∨ k = 2 ∨ k = 3 by omega) with rfl | rfl | rfl | rfl
    · exact h128
    · exact k7 (by omega)
    · exact k8 (by omega)
    · exact k9 (by omega)
theorem below_iter (w : World) (s : ByteArray) (p : Nat) : Below w.heap.size w (w.iter s p) := (Below.refl _ _).alloc (Nat.le_refl _) _
set_option maxRecDepth 100000 in
set_option maxHeartbeats 1000000 in
/-- The rune that stands for what is none is not found among plain bytes. -/
theorem indexRune_bad (s : ByteArray) (w : World) (h128 : ∀ i (h : i < s.size), (s[i]'h).toNat < 128) : Calls Tryz.prog 188 #[.string s, .int .i32 65533] w fun e w' => e = .returned (.int .i64 (-1)) ∧ Below w.heap.size w w' := by
  have H8 := Lib.hid h128
  clear h128
  go_enter Tryz.func188, Tryz.ntmps188
  go_wp2
  go_loopg [5, 6] s.size (fun g _ _ wx => ∃ i : Nat, i + g = s.size ∧ wx = w.iter s i)
  case atStart => exact ⟨0, by omega, rfl⟩
  case round =>
    obtain ⟨i, hig, rfl⟩ := hrel
    cases gk with
    | zero =>
      obtain rfl : i = s.size := by omega
      have hnx := fun ty => run_next_end (P := Tryz.prog) w s s.size ty (by omega)
      go_wp2
      go_ret
      exact ⟨rfl, below_iter _ _ _⟩
    | succ g =>
      have hi : i < s.size := by omega
      have hx := H8.out i hi
      have hnx := fun ty => run_next_ascii (P := Tryz.prog) w s i ty hi hx
      have hne : (((s[i]'hi).toNat : Int) == 65533) = false := by rw [beq_eq_false_iff_ne]; omega
      go_wp2
      go_roundg g
      case measure => omega
      case rel => exact ⟨i + 1, by omega, rfl⟩
set_option maxRecDepth 100000 in
set_option maxHeartbeats 1000000 in
theorem indexRune_far (r : Int) (w : World) (h1 : 128 ≤ r) (h2 : r ≤ 1114111) (hv : Lib.validRune r = true) : Calls Tryz.prog 188 #[.string ⟨#[47, 0]⟩, .int .i32 r] w fun e w' => e = .returned (.int .i64 (-1)) ∧ Below w.heap.size w w' := by
  obtain ⟨s1, s2, s3⟩ := encode_far r h1 h2
  have HV := Tryz.utf8_ValidRune r w
  rw [hv] at HV
  by_cases hr : r = 65533
  · subst hr
    exact indexRune_bad ⟨#[47, 0]⟩ w (fun i h => by
      have h' : i < 2 := h
      rcases (show i = 0 ∨ i = 1 by omega) with rfl | rfl
      · show (47 : UInt8).toNat < 128; decide
      · show (0 : UInt8).toNat < 128; decide)
  · generalize hrs : Utf8.encode r = rs at s1 s2 s3
    obtain ⟨L, hL⟩ : ∃ L, rs.size = L + 1 := ⟨rs.size - 1, by omega⟩
    have hL1 : (rs.size : Int) - 1 = (L : Int) := by omega
    have hlt : L < rs.size := by omega
    have hx : 128 ≤ (rs[L]'hlt).toNat := by
      have := s3 (by omega)
      simpa only [hL, Nat.add_sub_cancel] using this
    have hL2 : 1 ≤ L := by omega
    have hL3 : L ≤ 3 := by omega
    clear s3 hL
    go_enter Tryz.func188, Tryz.ntmps188
    go_wp2_with (go_at_call 192; refine HV.mono ?_; rintro e w' ⟨rfl, rfl⟩)
    go_step3
    go_wp2
    go_loopw [9] (fun i wr => i = .int .i64 L ∧ Below w'.heap.size w' wr) (fun _ _ => 0)
    case atStart => exact ⟨rfl, Below.refl _ _⟩
    case round =>
      obtain ⟨rfl, hnx⟩ := hrel
      by_cases h1 : L = 1
      · subst h1
        have hb := (rs[1]'hlt).toNat_lt
        have hx2 : ((0 : Int) != ((rs[1]'hlt).toNat : Int)) = true := by rw [bne_iff_ne]; omega
        have hx3 : ((0 : Int) == ((rs[1]'hlt).toNat : Int)) = false := by rw [beq_eq_false_iff_ne]; omega
        have hki : (1 : Int) < (rs.size : Int) := by omega
        have hx4 : ((((⟨#[47, 0]⟩ : ByteArray)[1]'(by decide)).toNat : Int) != ((rs[1]'hlt).toNat : Int)) = true := hx2
        go_wp2
        go_step3
        go_wp2
        go_quiet (fail)
        go_wp2
        go_quiet ((go_at_call 144; exact quiet_add_same (Tryz.strings_IndexByte _ _ _)))
        go_wp2
        simp (config := { zetaDelta := true }) only [Exit.noGoto_ret, Exit.inBlock, Exit.then]
        go_ret
        exact ⟨rfl, below_drewN hnx _⟩
      · have h12 : ¬ (L : Int) < 2 := by omega
        go_wp2
        go_ret
        exact ⟨rfl, hnx⟩
/-- Has a text a slash or a zero byte? -/
def dirtyB (l : List UInt8) : Bool := l.any fun c => decide (c = 47 ∨ c = 0)
theorem indexAny_dirty : ∀ l : List UInt8, (0 ≤ Lib.indexAny l [47, 0]) ↔ dirtyB l = true
  | [] => by simp [Lib.indexAny, dirtyB]
  | b :: l => by
    have ih := indexAny_dirty l
    have hge := Lib.indexAny_ge [47, 0] l
    have hd : dirtyB (b :: l) = (decide (b = 47 ∨ b = 0) || dirtyB l) := rfl
    have hc : ([47, 0] : List UInt8).contains b = decide (b = 47 ∨ b = 0) := by
      rw [Bool.eq_iff_iff]; simp
    unfold Lib.indexAny
    rw [hd, hc]
    by_cases h : b = 47 ∨ b = 0
    · simp [h]
    · rw [decide_eq_false h]
      simp only [Bool.false_eq_true, if_false, Bool.false_or]
      rw [← ih]
      split
      · rename_i h1
        have : Lib.indexAny l [47, 0] = -1 := by simpa using h1
        omega
      · rename_i h1
        have : Lib.indexAny l [47, 0] ≠ -1 := by simpa using h1
        omega
theorem dirty_far (l : List UInt8) (h : ∀ j, j < l.length → ∀ c, l[j]? = some c → c ≠ 47 ∧ c ≠ 0) : dirtyB l = false := by
  unfold dirtyB
  rw [List.any_eq_false]
  intro c hc
  obtain ⟨j, hj, e⟩ := List.mem_iff_getElem.1 hc
  have := h j hj c (by rw [← e]; exact List.getElem?_eq_getElem hj)
  simpa using this
theorem dirty_hit (l : List UInt8) (j : Nat) (c : UInt8) (h : l[j]? = some c) (hc : c = 47 ∨ c = 0) : dirtyB l = true := by
  unfold dirtyB
  rw [List.any_eq_true]
  exact ⟨c, List.mem_of_getElem? h, by simpa using hc⟩
theorem zeroSet (w : World) : (zeroValue 251).run Tryz.prog w = .ok (.agg (Array.replicate 256 (.bool false))) w := by kernel_rfl
theorem below_iterAt {B : Nat} {a w : World} (h : Below B a w) (k : Nat) (s : ByteArray) (p : Nat) (hk : B ≤ k) : Below B a (w.iterAt k s p) :=
  ⟨h.os, h.tape, h.output, by rw [Lib.iterAt_size]; exact h.size, fun i hi => (Lib.iterAt_other w k i s p (by omega)).trans (h.block i hi)⟩
set_option maxRecDepth 100000 in
set_option maxHeartbeats 2000000 in
theorem indexAny_any (s : ByteArray) (w : World) (hs : s.size ≤ 2000000) : Calls Tryz.prog 185 #[.string s, .string ⟨#[47, 0]⟩] w fun e w' => (∃ n : Int, e = .returned (.int .i64 n) ∧ (0 ≤ n ↔ dirtyB (bs s) = true)) ∧ Below w.heap.size w w' := by
  by_cases h8 : 8 < s.size
  · refine (Tryz.strings_IndexAny_long zeroSet s ⟨#[47, 0]⟩ w (by decide) h8 (by omega) (by decide) (fun j b hb => ?_)).mono fun e w' ⟨he, hw⟩ => ⟨⟨_, he, indexAny_dirty (bs s)⟩, ?_⟩
    · match j, hb with
      | 0, hb => cases hb; decide
      | 1, hb => cases hb; decide
    · rw [hw]; exact ((Below.refl _ _).alloc (Nat.le_refl _) _).alloc (by simp) _
  · have h8z : decide ((8 : Int) < (s.size : Int)) = false := decide_eq_false (by omega)
    go_enter Tryz.func185, Tryz.ntmps185
    go_wp2_with (go_at_call 189; refine (Tryz.strings_shouldUseASCIISet _ _).mono ?_; rintro e w' ⟨rfl, hw⟩; rw [hw, h8z])
    go_loopg [9, 10] s.size (fun g _ _ wx => ∃ i : Nat, i + g = s.size ∧ wx.heap[w.heap.size]? = some (.stringIter s i) ∧ Below w.heap.size w wx ∧ Hid (∀ j, j < i → ∀ c, (bs s)[j]? = some c → c ≠ 47 ∧ c ≠ 0))
    case atStart => exact ⟨0, by omega, World.iter_heap w s 0, below_iter _ _ _, fun j hj => by omega⟩
    case round =>
      obtain ⟨i, hig, hit, hB, hN⟩ := hrel
      have hsz : w.heap.size < wr.heap.size := (Array.getElem?_eq_some_iff.1 hit).1
      cases gk with
      | zero =>
        obtain rfl : i = s.size := by omega
        have hnx := fun ty => Lib.run_next_end_at (P := Tryz.prog) wr w.heap.size s s.size ty hit (by omega)
        have HD := Lib.hid (dirty_far (bs s) (fun j hj => hN.out j (by rw [bs_len] at hj; exact hj)))
        go_wp2
        go_ret
        exact ⟨⟨-1, rfl, by rw [HD.out]; simp⟩, hB⟩
      | succ g =>
        have hi : i < s.size := by omega
        have hget := bs_get s i hi
        by_cases hx : (s[i]'hi).toNat < 128
        · have hnx := fun ty => Lib.run_next_ascii_at (P := Tryz.prog) wr w.heap.size s i ty hit hi hx
          have hit' := Lib.iterAt_heap wr w.heap.size s i (i + 1) hit
          have hB' := below_iterAt hB w.heap.size s (i + 1) (Nat.le_refl _)
          have HI := Tryz.strings_IndexRune_ascii ⟨#[47, 0]⟩ ((s[i]'hi).toNat : Int) (wr.iterAt w.heap.size s (i + 1)) (by omega) (by omega)
          rw [show (((s[i]'hi).toNat : Nat) : Int).toNat.toUInt8 = s[i]'hi by simp] at HI
          by_cases hc : (s[i]'hi) = 47 ∨ (s[i]'hi) = 0
          · have HD := Lib.hid (dirty_hit (bs s) i _ hget hc)
            obtain ⟨n, hn, hn0⟩ : ∃ n : Int, Lib.indexByte (⟨#[47, 0]⟩ : ByteArray).data.toList (s[i]'hi) = n ∧ 0 ≤ n := by
              rcases hc with hc | hc <;> rw [hc] <;> exact ⟨_, rfl, by decide⟩
            have hn1 : decide (n < 0) = false := decide_eq_false (by omega)
            have hn2 : decide ((0 : Int) ≤ n) = true := decide_eq_true hn0
            rw [hn] at HI
            clear hc hn
            go_wp2_with (go_at_call 188; refine HI.mono ?_; rintro e w' ⟨rfl, rfl⟩)
            go_ret
            exact ⟨⟨(i : Int), rfl, by rw [HD.out]; simp⟩, hB'⟩
          · have hn : Lib.indexByte (⟨#[47, 0]⟩ : ByteArray).data.toList (s[i]'hi) = -1 := by
              simp only [not_or] at hc
              simp [Lib.indexByte, Ne.symm hc.1, Ne.symm hc.2]
            rw [hn] at HI
            have HN' : Hid (∀ j, j < i + 1 → ∀ c, (bs s)[j]? = some c → c ≠ 47 ∧ c ≠ 0) := Lib.hid fun j hj c hjc => by
              rcases (show j < i ∨ j = i by omega) with hj | rfl
              · exact hN.out j hj c hjc
              · rw [hget] at hjc; cases hjc; exact ⟨fun h => hc (.inl h), fun h => hc (.inr h)⟩
            clear hn hc
            go_wp2_with (go_at_call 188; refine HI.mono ?_; rintro e w' ⟨rfl, rfl⟩)
            go_roundg g
            case measure => omega
            case rel => exact ⟨i + 1, by omega, hit', hB', HN'⟩
        · obtain ⟨d1, d2, d3, d4, d5, d6⟩ := decode_far s i hi (by omega)
          have HN' : Hid (∀ j, j < i + (Utf8.decode s i).2 → ∀ c, (bs s)[j]? = some c → c ≠ 47 ∧ c ≠ 0) := Lib.hid fun j hj c hjc => by
            by_cases hj1 : j < i
            · exact hN.out j hj1 c hjc
            · have hjs : i + (j - i) < s.size := by omega
              have h6 := d6 (j - i) (by omega) hjs
              have hg : (bs s)[j]? = some (s[i + (j - i)]'hjs) := by
                have := bs_get s (i + (j - i)) hjs
                have hji : i + (j - i) = j := by omega
                simpa only [hji] using this
              rw [hjc] at hg
              have hg := Option.some.inj hg
              rw [← hg] at h6
              constructor
              · intro h; rw [h] at h6; revert h6; decide
              · intro h; rw [h] at h6; revert h6; decide
          have hnx := fun ty => Lib.run_next_any_at (P := Tryz.prog) wr w.heap.size s i ty hit hi
          have hit' := Lib.iterAt_heap wr w.heap.size s i (i + (Utf8.decode s i).2) hit
          have hB' := below_iterAt hB w.heap.size s (i + (Utf8.decode s i).2) (Nat.le_refl _)
          clear d6
          generalize Utf8.decode s i = d at *
          obtain ⟨r, n⟩ := d
          simp only at *
          have HI := indexRune_far (r : Int) (wr.iterAt w.heap.size s (i + n)) (by omega) (by omega) d3
          go_wp2_with (go_at_call 188; refine HI.mono ?_; rintro e w' ⟨rfl, hk⟩)
          go_roundg (s.size - (i + n))
          case measure => omega
          case rel =>
            refine ⟨i + n, by omega, ?_, hB'.trans (hk.mono ?_), HN'⟩
            · rw [hk.block _ ?_, hit']
              rw [Lib.iterAt_size]; exact hsz
            · exact hB'.size
end Pw
end Go.Proofs.YtegplehbcdeeoaaGreatDoor
/- The pieces of a path between its slashes: the plain law. -/
namespace Go.Proofs.YtegplehbcdeeoaaGreatDoor.Pk
/-- The pieces that aren't empty. -/
def pcs (l : B) : List B := (cut l).filter fun p => decide (p ≠ [])
theorem pcs_nil : pcs [] = [] := rfl
theorem pcs_slash (r : B) : pcs (47 :: r) = pcs r := by unfold pcs; rw [cut_slash]; rfl
theorem pcs_at_slash (l : B) (k : Nat) (h : l[k]? = some 47) : pcs (l.drop k) = pcs (l.drop (k + 1)) := by
  obtain ⟨hk, e⟩ := List.getElem?_eq_some_iff.1 h
  rw [List.drop_eq_getElem_cons hk, e, pcs_slash]
/-- A piece from k to e. -/
theorem pcs_piece (l : B) (k e : Nat) (hke : k < e) (hel : e ≤ l.length) (hn : ∀ j, k ≤ j → j < e → l[j]? ≠ some 47) (he : e = l.length ∨ l[e]? = some 47) :
    pcs (l.drop k) = (l.drop k).take (e - k) :: pcs (l.drop e) := by
  have hne : (l.drop k).take (e - k) ≠ [] := by
    intro h
    have := congrArg List.length h
    rw [List.length_take, List.length_drop, List.length_nil] at this
    omega
  have hfil : ∀ xs : List B, ((l.drop k).take (e - k) :: xs).filter (fun p => decide (p ≠ [])) = (l.drop k).take (e - k) :: xs.filter (fun p => decide (p ≠ [])) := by
    intro xs
    rw [List.filter_cons_of_pos (by simpa using hne)]
  by_cases h : e = l.length
  · have h1 : cut (l.drop k) = [l.drop k] := by
      refine cut_whole _ fun j hj => ?_
      rw [List.getElem?_drop]
      exact hn (k + j) (by omega) (by rw [List.length_drop] at hj; omega)
    have h2 : (l.drop k).take (e - k) = l.drop k := List.take_of_length_le (by rw [List.length_drop]; omega)
    rw [h2] at hne ⊢
    unfold pcs
    rw [h1, List.drop_eq_nil_of_le (by omega : l.length ≤ e)]
    rw [List.filter_cons_of_pos (by simpa using hne)]
    rfl
  · have he' : l[e]? = some 47 := he.resolve_left h
    have h1 := cut_first (l.drop k) (e - k) (by rw [List.getElem?_drop, show k + (e - k) = e by omega]; exact he') (fun j hj => by rw [List.getElem?_drop]; exact hn (k + j) (by omega) (by omega))
    rw [pcs_at_slash l e he']
    unfold pcs
    rw [h1, hfil, List.drop_drop, show k + (e - k + 1) = e + 1 by omega]
theorem pcs_count (l : B) : (pcs l).length ≤ l.length + 1 := by
  unfold pcs
  refine Nat.le_trans (List.length_filter_le _ _) ?_
  rw [cut_count]
  have := List.count_le_length (a := (47 : UInt8)) (l := l)
  omega
end Go.Proofs.YtegplehbcdeeoaaGreatDoor.Pk
/- Laws for slices of texts, and of whatever elements of one cell, that the call owns: what is appended. -/
namespace Go.Proofs.YtegplehbcdeeoaaGreatDoor
open Go.RowKit

/-- A slice type, and its element type: one cell. -/
structure CellT (P : Program) (S T : TypeId) (z : Value) (k : Nat) : Prop where
  und : P.underlying S = some (.slice T)
  info : (P.info? T).map (fun i => (i.zero, i.size, i.bytes)) = some (some z, 1, k)
  one : z.cells.size = 1

/-- 'out = append(out, x, y ..)', out a slice that the call owns. -/
theorem wpList_append_cells {P : Program} {S T : TypeId} {z : Value} {k : Nat} (B : CellT P S T z k) (W : World) {ops : Array Oper} {rest : List Oper} {o : Oper} {a : Act} {Q : Exit → Act → World → Prop} (hgd : o.guard = none) (s x : Operand)
    (ho : o.op = .call { callee := .builtin .append, args := #[s, x], argTypes := #[S, S] }) (cs : Array Value) (base : Nat) (v : Value) (l r : List Value) (m : Nat) (hk : cs = r.toArray) (hm : m = r.length) (h1 : ∀ u ∈ r, u.oneCell' = true)
    (hs : a.eval s = v) (hown : W.ownsRow base T 1 v l.length l) (hx : a.eval x = .slice (some ⟨W.heap.size, 0, none⟩) m m)
    (hlen : l.length + r.length ≤ 1000000000000000) (hby : (l.length + r.length) * k ≤ 140737488355328) (hbase : base ≤ W.heap.size)
    (h : ∀ v' w', w'.ownsRow base T 1 v' (l ++ r).length (l ++ r) → W.grownBy w' v.ownBlock → (v'.ownBlock = v.ownBlock ∨ ∃ g, v'.ownBlock = some g ∧ W.heap.size ≤ g) → wpList P ops Q rest (a.put o.dst v') w') :
    wpList P ops Q (o :: rest) a (W.alloc (.cells cs T)) := by
  obtain ⟨i0, hi, hz0, hz1, hz2⟩ := info_parts B.info
  subst hk; subst hm
  refine wpList_append_own_at _ hgd s x S ho base T i0 z 1 k B.und hi hz0 hz1 hz2 B.one (by decide) v _ _ hs (hown.alloc _) ⟨W.heap.size, 0, none⟩ r.length r.length r hx (by omega) (news_new _ _ _) h1 (by unfold maxLen; omega) hby (by simp; omega) ?_
  intro v' w' ho' hg' _ hat
  rw [← List.length_append] at ho'
  refine h v' w' ho' ((World.grownBy_alloc W _ _).trans hg') ?_
  rcases hat with e | e
  · exact .inl e
  · exact .inr ⟨_, e, by simp⟩

/-- Texts as cells. -/
def strsV (l : List (List UInt8)) : List Value := l.map fun t => Value.string (mk t)
theorem strsV_len (l : List (List UInt8)) : (strsV l).length = l.length := by simp [strsV]
theorem strsV_app (l r : List (List UInt8)) : strsV (l ++ r) = strsV l ++ strsV r := by simp [strsV]
theorem strsV_at {l : List (List UInt8)} {j : Nat} {t : List UInt8} (h : l[j]? = some t) : (strsV l)[j]? = some (.string (mk t)) := by simp [strsV, h]
/-- A row of the call's own stays behind a callee that leaves the old blocks alone. -/
theorem own_below {w w1 : World} {base : Nat} {e : TypeId} {size : Nat} {v : Value} {n : Nat} {xs : List Value} (h : w.ownsRow base e size v n xs) (hb : Below w.heap.size w w1) : w1.ownsRow base e size v n xs := by
  refine ⟨h.1, ?_⟩
  rcases h.2 with h2 | ⟨g, cap, cur, rfl, h3, h4, h5⟩
  · exact .inl h2
  · exact .inr ⟨g, cap, cur, rfl, h3, (hb.block g (h.lt g rfl).2).trans h4, h5⟩
end Go.Proofs.YtegplehbcdeeoaaGreatDoor
