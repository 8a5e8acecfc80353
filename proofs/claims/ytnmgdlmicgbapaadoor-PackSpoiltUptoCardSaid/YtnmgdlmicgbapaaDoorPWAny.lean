/- The walk of ContainsAny of a slash and a zero byte, at whatever bytes. -/
import Derived.Test.YtnmgdlmicgbapaaDoorPShelf
import Derived.Test.YtnmgdlmicgbapaaDoorBytes
import Derived.Lib.DecodeN
import Derived.Laws.RangeAny
import Derived.Laws.Runes
import Derived.Deep.LoopGhost
import Derived.WalkMore
import Derived.Lib.OthersKept
import Derived.Test.YtnmgdlmicgbapaaDoorChecked
namespace Go.Proofs.YtnmgdlmicgbapaaDoor
open Go.RowKit

namespace Pw
/-- A quiet callee behind a quiet region. -/
theorem quiet_add_same {P : Program} {f : FuncId} {args : Array Value} {w : World} {a n : Nat} {v : Value}
    (h : Calls P f args (w.drewN (a + n)) fun e w' => e = .returned v ∧ w' = w.drewN (a + n)) :
    Calls P f args (w.drewN (a + n)) fun e w'' => e = .returned v ∧ ∃ m, w'' = w.drewN (a + m) :=
  h.mono fun _ _ ⟨he, hm⟩ => ⟨he, n, hm⟩
/-- A rune's bytes, none of them plain. -/
theorem encode_far (r : Int) (h1 : 128 ≤ r) (h2 : r ≤ 1114111) : 2 ≤ (Utf8.encode r).size ∧ (Utf8.encode r).size ≤ 4 ∧ ∀ h : (Utf8.encode r).size - 1 < (Utf8.encode r).size, 128 ≤ ((Utf8.encode r)[(Utf8.encode r).size - 1]'h).toNat := by
  obtain ⟨c, hc, h128, hlt⟩ : ∃ c : Nat, (if Utf8.valid r then r.toNat else Utf8.runeError) = c ∧ 128 ≤ c ∧ c ≤ 1114111 := by
    refine ⟨_, rfl, ?_, ?_⟩
    · split
      · omega
      · decide
    · split
      · omega
      · decide
  have hl : ∀ n, n < 64 → 128 ≤ (UInt8.ofNat (128 + n)).toNat := fun n hn => by rw [UInt8.toNat_ofNat']; omega
  have hm : c % 64 < 64 := Nat.mod_lt _ (by decide)
  have key : ∀ rs : ByteArray, rs = (if c < 0x800 then ⟨#[UInt8.ofNat (0xC0 + c / 64), UInt8.ofNat (0x80 + c % 64)]⟩ else if c < 0x10000 then ⟨#[UInt8.ofNat (0xE0 + c / 4096), UInt8.ofNat (0x80 + c / 64 % 64), UInt8.ofNat (0x80 + c % 64)]⟩ else ⟨#[UInt8.ofNat (0xF0 + c / 262144), UInt8.ofNat (0x80 + c / 4096 % 64), UInt8.ofNat (0x80 + c / 64 % 64), UInt8.ofNat (0x80 + c % 64)]⟩) →
      2 ≤ rs.size ∧ rs.size ≤ 4 ∧ ∀ h : rs.size - 1 < rs.size, 128 ≤ (rs[rs.size - 1]'h).toNat := by
    intro rs e
    split at e
    · subst e; exact ⟨Nat.le_refl 2, (by decide : 2 ≤ 4), fun _ => hl _ hm⟩
    · split at e
      · subst e; exact ⟨(by decide : 2 ≤ 3), (by decide : 3 ≤ 4), fun _ => hl _ hm⟩
      · subst e; exact ⟨(by decide : 2 ≤ 4), Nat.le_refl 4, fun _ => hl _ hm⟩
  refine key _ ?_
  unfold Utf8.encode
  simp only [hc]
  rw [if_neg (by omega)]
/-- What a decoding has read. -/
theorem decode_far (s : ByteArray) (i : Nat) (h : i < s.size) (h128 : 128 ≤ (s[i]'h).toNat) :
    128 ≤ (Utf8.decode s i).1 ∧ (Utf8.decode s i).1 ≤ 1114111 ∧ Lib.validRune ((Utf8.decode s i).1 : Int) = true ∧ 1 ≤ (Utf8.decode s i).2 ∧ i + (Utf8.decode s i).2 ≤ s.size ∧ ∀ k, k < (Utf8.decode s i).2 → ∀ hk : i + k < s.size, 128 ≤ (s[i + k]'hk).toNat := by
  have hg : ∀ k (hk : i + k < s.size), s.get! (i + k) = s[i + k]'hk := fun k hk => by
    have : i + k < s.data.size := hk
    show s.data[i + k]! = _
    rw [getElem!_pos s.data (i + k) this]
    rfl
  have hg0 : s.get! i = s[i]'h := hg 0 h
  have hd := Lib.decode_at s i
  have h1 := (s.get! (i + 1)).toNat_lt
  have h2 := (s.get! (i + 2)).toNat_lt
  have h3 := (s.get! (i + 3)).toNat_lt
  have h0 := (s.get! i).toNat_lt
  rw [← hg0] at h128
  have key : ∀ d : Nat × Nat, Lib.decodeN (s.size - i) (s.get! i).toNat (s.get! (i + 1)).toNat (s.get! (i + 2)).toNat (s.get! (i + 3)).toNat = d →
      128 ≤ d.1 ∧ d.1 ≤ 1114111 ∧ (d.1 < 55296 ∨ 57344 ≤ d.1) ∧ 1 ≤ d.2 ∧ i + d.2 ≤ s.size ∧ d.2 ≤ 4 ∧ (2 ≤ d.2 → 128 ≤ (s.get! (i + 1)).toNat) ∧ (3 ≤ d.2 → 128 ≤ (s.get! (i + 2)).toNat) ∧ (4 ≤ d.2 → 128 ≤ (s.get! (i + 3)).toNat) := by
    intro d hd
    generalize (s.get! i).toNat = b0 at *
    generalize (s.get! (i + 1)).toNat = b1 at *
    generalize (s.get! (i + 2)).toNat = b2 at *
    generalize (s.get! (i + 3)).toNat = b3 at *
    subst hd
    unfold Lib.decodeN
    rw [if_neg (by omega)]
    repeat' split
    all_goals (refine ⟨?_, ?_, ?_, ?_, ?_, ?_, ?_, ?_, ?_⟩ <;> simp only <;> omega)
  obtain ⟨k1, k2, k3, k4, k5, k6, k7, k8, k9⟩ := key _ rfl
  rw [hd]
  refine ⟨k1, k2, ?_, k4, k5, fun k hk hks => ?_⟩
  · unfold Lib.validRune
    rw [decide_eq_true_iff]
    omega
  · rw [← hg k hks]
    rcases (show k = 0 ∨ k = 1 ∨ k = 2 ∨ k = 3 by omega) with rfl | rfl | rfl | rfl
    · exact h128
    · exact k7 (by omega)
    · exact k8 (by omega)
    · exact k9 (by omega)
theorem below_iter (w : World) (s : ByteArray) (p : Nat) : Below w.heap.size w (w.iter s p) := (Below.refl _ _).alloc (Nat.le_refl _) _
set_option maxRecDepth 100000 in
set_option maxHeartbeats 1000000 in
/-- The rune that stands for what is none is not found among plain bytes. -/
theorem indexRune_bad (s : ByteArray) (w : World) (h128 : ∀ i (h : i < s.size), (s[i]'h).toNat < 128) : Calls Tryd.prog 62 #[.string s, .int .i32 65533] w fun e w' => e = .returned (.int .i64 (-1)) ∧ Below w.heap.size w w' := by
  have H8 := Lib.hid h128
  clear h128
  go_enter Tryd.func62, Tryd.ntmps62
  go_wp2
  go_loopg [5, 6] s.size (fun g _ _ wx => ∃ i : Nat, i + g = s.size ∧ wx = w.iter s i)
  case atStart => exact ⟨0, by omega, rfl⟩
  case round =>
    obtain ⟨i, hig, rfl⟩ := hrel
    cases gk with
    | zero =>
      obtain rfl : i = s.size := by omega
      have hnx := fun ty => run_next_end (P := Tryd.prog) w s s.size ty (by omega)
      go_wp2
      go_ret
      exact ⟨rfl, below_iter _ _ _⟩
    | succ g =>
      have hi : i < s.size := by omega
      have hx := H8.out i hi
      have hnx := fun ty => run_next_ascii (P := Tryd.prog) w s i ty hi hx
      have hne : (((s[i]'hi).toNat : Int) == 65533) = false := by rw [beq_eq_false_iff_ne]; omega
      go_wp2
      go_roundg g
      case measure => omega
      case rel => exact ⟨i + 1, by omega, rfl⟩
set_option maxRecDepth 100000 in
set_option maxHeartbeats 1000000 in
theorem indexRune_far (r : Int) (w : World) (h1 : 128 ≤ r) (h2 : r ≤ 1114111) (hv : Lib.validRune r = true) : Calls Tryd.prog 62 #[.string ⟨#[47, 0]⟩, .int .i32 r] w fun e w' => e = .returned (.int .i64 (-1)) ∧ Below w.heap.size w w' := by
  obtain ⟨s1, s2, s3⟩ := encode_far r h1 h2
  have HV := Tryd.utf8_ValidRune r w
  rw [hv] at HV
  by_cases hr : r = 65533
  · subst hr
    exact indexRune_bad ⟨#[47, 0]⟩ w (fun i h => by
      have h' : i < 2 := h
      rcases (show i = 0 ∨ i = 1 by omega) with rfl | rfl
      · show (47 : UInt8).toNat < 128; decide
      · show (0 : UInt8).toNat < 128; decide)
  · generalize hrs : Utf8.encode r = rs at s1 s2 s3
    obtain ⟨L, hL⟩ : ∃ L, rs.size = L + 1 := ⟨rs.size - 1, by omega⟩
    have hL1 : (rs.size : Int) - 1 = (L : Int) := by omega
    have hlt : L < rs.size := by omega
    have hx : 128 ≤ (rs[L]'hlt).toNat := by
      have := s3 (by omega)
      simpa only [hL, Nat.add_sub_cancel] using this
    have hL2 : 1 ≤ L := by omega
    have hL3 : L ≤ 3 := by omega
    clear s3 hL
    go_enter Tryd.func62, Tryd.ntmps62
    go_wp2_with (go_at_call 75; refine HV.mono ?_; rintro e w' ⟨rfl, rfl⟩)
    go_step3
    go_wp2
    go_loopw [9] (fun i wr => i = .int .i64 L ∧ Below w'.heap.size w' wr) (fun _ _ => 0)
    case atStart => exact ⟨rfl, Below.refl _ _⟩
    case round =>
      obtain ⟨rfl, hnx⟩ := hrel
      by_cases h1 : L = 1
      · subst h1
        have hb := (rs[1]'hlt).toNat_lt
        have hx2 : ((0 : Int) != ((rs[1]'hlt).toNat : Int)) = true := by rw [bne_iff_ne]; omega
        have hx3 : ((0 : Int) == ((rs[1]'hlt).toNat : Int)) = false := by rw [beq_eq_false_iff_ne]; omega
        have hki : (1 : Int) < (rs.size : Int) := by omega
        have hx4 : ((((⟨#[47, 0]⟩ : ByteArray)[1]'(by decide)).toNat : Int) != ((rs[1]'hlt).toNat : Int)) = true := hx2
        go_wp2
        go_step3
        go_wp2
        go_quiet (fail)
        go_wp2
        go_quiet ((go_at_call 57; exact quiet_add_same (Tryd.strings_IndexByte _ _ _)))
        go_wp2
        simp (config := { zetaDelta := true }) only [Exit.noGoto_ret, Exit.inBlock, Exit.then]
        go_ret
        exact ⟨rfl, below_drewN hnx _⟩
      · have h12 : ¬ (L : Int) < 2 := by omega
        go_wp2
        go_ret
        exact ⟨rfl, hnx⟩
/-- Has a text a slash or a zero byte? -/
def dirtyB (l : List UInt8) : Bool := l.any fun c => decide (c = 47 ∨ c = 0)
theorem indexAny_dirty : ∀ l : List UInt8, (0 ≤ Lib.indexAny l [47, 0]) ↔ dirtyB l = true
  | [] => by simp [Lib.indexAny, dirtyB]
  | b :: l => by
    have ih := indexAny_dirty l
    have hge := Lib.indexAny_ge [47, 0] l
    have hd : dirtyB (b :: l) = (decide (b = 47 ∨ b = 0) || dirtyB l) := rfl
    have hc : ([47, 0] : List UInt8).contains b = decide (b = 47 ∨ b = 0) := by
      rw [Bool.eq_iff_iff]; simp
    unfold Lib.indexAny
    rw [hd, hc]
    by_cases h : b = 47 ∨ b = 0
    · simp [h]
    · rw [decide_eq_false h]
      simp only [Bool.false_eq_true, if_false, Bool.false_or]
      rw [← ih]
      split
      · rename_i h1
        have : Lib.indexAny l [47, 0] = -1 := by simpa using h1
        omega
      · rename_i h1
        have : Lib.indexAny l [47, 0] ≠ -1 := by simpa using h1
        omega
theorem dirty_far (l : List UInt8) (h : ∀ j, j < l.length → ∀ c, l[j]? = some c → c ≠ 47 ∧ c ≠ 0) : dirtyB l = false := by
  unfold dirtyB
  rw [List.any_eq_false]
  intro c hc
  obtain ⟨j, hj, e⟩ := List.mem_iff_getElem.1 hc
  have := h j hj c (by rw [← e]; exact List.getElem?_eq_getElem hj)
  simpa using this
theorem dirty_hit (l : List UInt8) (j : Nat) (c : UInt8) (h : l[j]? = some c) (hc : c = 47 ∨ c = 0) : dirtyB l = true := by
  unfold dirtyB
  rw [List.any_eq_true]
  exact ⟨c, List.mem_of_getElem? h, by simpa using hc⟩
theorem zeroSet (w : World) : (zeroValue 93).run Tryd.prog w = .ok (.agg (Array.replicate 256 (.bool false))) w := by kernel_rfl
theorem below_iterAt {B : Nat} {a w : World} (h : Below B a w) (k : Nat) (s : ByteArray) (p : Nat) (hk : B ≤ k) : Below B a (w.iterAt k s p) :=
  ⟨h.os, h.tape, h.output, by rw [Lib.iterAt_size]; exact h.size, fun i hi => (Lib.iterAt_other w k i s p (by omega)).trans (h.block i hi)⟩
set_option maxRecDepth 100000 in
set_option maxHeartbeats 2000000 in
theorem indexAny_any (s : ByteArray) (w : World) (hs : s.size ≤ 100000000) : Calls Tryd.prog 47 #[.string s, .string ⟨#[47, 0]⟩] w fun e w' => (∃ n : Int, e = .returned (.int .i64 n) ∧ (0 ≤ n ↔ dirtyB (bs s) = true)) ∧ Below w.heap.size w w' := by
  by_cases h8 : 8 < s.size
  · refine (Tryd.strings_IndexAny_long zeroSet s ⟨#[47, 0]⟩ w (by decide) h8 (by omega) (by decide) (fun j b hb => ?_)).mono fun e w' ⟨he, hw⟩ => ⟨⟨_, he, indexAny_dirty (bs s)⟩, ?_⟩
    · match j, hb with
      | 0, hb => cases hb; decide
      | 1, hb => cases hb; decide
    · rw [hw]; exact ((Below.refl _ _).alloc (Nat.le_refl _) _).alloc (by simp) _
  · have h8z : decide ((8 : Int) < (s.size : Int)) = false := decide_eq_false (by omega)
    go_enter Tryd.func47, Tryd.ntmps47
    go_wp2_with (go_at_call 63; refine (Tryd.strings_shouldUseASCIISet _ _).mono ?_; rintro e w' ⟨rfl, hw⟩; rw [hw, h8z])
    go_loopg [9, 10] s.size (fun g _ _ wx => ∃ i : Nat, i + g = s.size ∧ wx.heap[w.heap.size]? = some (.stringIter s i) ∧ Below w.heap.size w wx ∧ Hid (∀ j, j < i → ∀ c, (bs s)[j]? = some c → c ≠ 47 ∧ c ≠ 0))
    case atStart => exact ⟨0, by omega, World.iter_heap w s 0, below_iter _ _ _, fun j hj => by omega⟩
    case round =>
      obtain ⟨i, hig, hit, hB, hN⟩ := hrel
      have hsz : w.heap.size < wr.heap.size := (Array.getElem?_eq_some_iff.1 hit).1
      cases gk with
      | zero =>
        obtain rfl : i = s.size := by omega
        have hnx := fun ty => Lib.run_next_end_at (P := Tryd.prog) wr w.heap.size s s.size ty hit (by omega)
        have HD := Lib.hid (dirty_far (bs s) (fun j hj => hN.out j (by rw [bs_len] at hj; exact hj)))
        go_wp2
        go_ret
        exact ⟨⟨-1, rfl, by rw [HD.out]; simp⟩, hB⟩
      | succ g =>
        have hi : i < s.size := by omega
        have hget := bs_get s i hi
        by_cases hx : (s[i]'hi).toNat < 128
        · have hnx := fun ty => Lib.run_next_ascii_at (P := Tryd.prog) wr w.heap.size s i ty hit hi hx
          have hit' := Lib.iterAt_heap wr w.heap.size s i (i + 1) hit
          have hB' := below_iterAt hB w.heap.size s (i + 1) (Nat.le_refl _)
          have HI := Tryd.strings_IndexRune_ascii ⟨#[47, 0]⟩ ((s[i]'hi).toNat : Int) (wr.iterAt w.heap.size s (i + 1)) (by omega) (by omega)
          rw [show (((s[i]'hi).toNat : Nat) : Int).toNat.toUInt8 = s[i]'hi by simp] at HI
          by_cases hc : (s[i]'hi) = 47 ∨ (s[i]'hi) = 0
          · have HD := Lib.hid (dirty_hit (bs s) i _ hget hc)
            obtain ⟨n, hn, hn0⟩ : ∃ n : Int, Lib.indexByte (⟨#[47, 0]⟩ : ByteArray).data.toList (s[i]'hi) = n ∧ 0 ≤ n := by
              rcases hc with hc | hc <;> rw [hc] <;> exact ⟨_, rfl, by decide⟩
            have hn1 : decide (n < 0) = false := decide_eq_false (by omega)
            have hn2 : decide ((0 : Int) ≤ n) = true := decide_eq_true hn0
            rw [hn] at HI
            clear hc hn
            go_wp2_with (go_at_call 62; refine HI.mono ?_; rintro e w' ⟨rfl, rfl⟩)
            go_ret
            exact ⟨⟨(i : Int), rfl, by rw [HD.out]; simp⟩, hB'⟩
          · have hn : Lib.indexByte (⟨#[47, 0]⟩ : ByteArray).data.toList (s[i]'hi) = -1 := by
              simp only [not_or] at hc
              simp [Lib.indexByte, Ne.symm hc.1, Ne.symm hc.2]
            rw [hn] at HI
            have HN' : Hid (∀ j, j < i + 1 → ∀ c, (bs s)[j]? = some c → c ≠ 47 ∧ c ≠ 0) := Lib.hid fun j hj c hjc => by
              rcases (show j < i ∨ j = i by omega) with hj | rfl
              · exact hN.out j hj c hjc
              · rw [hget] at hjc; cases hjc; exact ⟨fun h => hc (.inl h), fun h => hc (.inr h)⟩
            clear hn hc
            go_wp2_with (go_at_call 62; refine HI.mono ?_; rintro e w' ⟨rfl, rfl⟩)
            go_roundg g
            case measure => omega
            case rel => exact ⟨i + 1, by omega, hit', hB', HN'⟩
        · obtain ⟨d1, d2, d3, d4, d5, d6⟩ := decode_far s i hi (by omega)
          have HN' : Hid (∀ j, j < i + (Utf8.decode s i).2 → ∀ c, (bs s)[j]? = some c → c ≠ 47 ∧ c ≠ 0) := Lib.hid fun j hj c hjc => by
            by_cases hj1 : j < i
            · exact hN.out j hj1 c hjc
            · have hjs : i + (j - i) < s.size := by omega
              have h6 := d6 (j - i) (by omega) hjs
              have hg : (bs s)[j]? = some (s[i + (j - i)]'hjs) := by
                have := bs_get s (i + (j - i)) hjs
                have hji : i + (j - i) = j := by omega
                simpa only [hji] using this
              rw [hjc] at hg
              have hg := Option.some.inj hg
              rw [← hg] at h6
              constructor
              · intro h; rw [h] at h6; revert h6; decide
              · intro h; rw [h] at h6; revert h6; decide
          have hnx := fun ty => Lib.run_next_any_at (P := Tryd.prog) wr w.heap.size s i ty hit hi
          have hit' := Lib.iterAt_heap wr w.heap.size s i (i + (Utf8.decode s i).2) hit
          have hB' := below_iterAt hB w.heap.size s (i + (Utf8.decode s i).2) (Nat.le_refl _)
          clear d6
          generalize Utf8.decode s i = d at *
          obtain ⟨r, n⟩ := d
          simp only at *
          have HI := indexRune_far (r : Int) (wr.iterAt w.heap.size s (i + n)) (by omega) (by omega) d3
          go_wp2_with (go_at_call 62; refine HI.mono ?_; rintro e w' ⟨rfl, hk⟩)
          go_roundg (s.size - (i + n))
          case measure => omega
          case rel =>
            refine ⟨i + n, by omega, ?_, hB'.trans (hk.mono ?_), HN'⟩
            · rw [hk.block _ ?_, hit']
              rw [Lib.iterAt_size]; exact hsz
            · exact hB'.size
end Pw
end Go.Proofs.YtnmgdlmicgbapaaDoor
