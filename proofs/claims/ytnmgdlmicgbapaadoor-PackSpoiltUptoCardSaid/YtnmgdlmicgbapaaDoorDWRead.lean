/- The walks of the program's reader: bytes, Get, number. -/
import Derived.Test.YtnmgdlmicgbapaaDoorDLaw
import Derived.Test.YtnmgdlmicgbapaaDoorDBlk
import Derived.Test.YtnmgdlmicgbapaaDoorPWPut
import Derived.WalkLawsBesides
import Derived.Lib.ConvBytes
import Derived.Lib.SmallJoins
namespace Go.Proofs.YtnmgdlmicgbapaaDoor
open Go.RowKit

namespace Pw
open Pk
/-- Bytes, where they lie. -/
def BytesSeen (w : World) (ao : Option Addr) (l : List UInt8) : Prop := ∀ j c, l[j]? = some c → ∃ g o, ao = some ⟨g, o, none⟩ ∧ g < w.heap.size ∧ w.cell? ⟨g, o + j, none⟩ = some (.int .u8 c.toNat)
theorem BytesSeen.below {w w' : World} {ao : Option Addr} {l : List UInt8} (h : BytesSeen w ao l) (hb : Below w.heap.size w w') : BytesSeen w' ao l := by
  intro j c hj
  obtain ⟨g, o, e, hg, hc⟩ := h j c hj
  exact ⟨g, o, e, by have := hb.size; omega, (hb.cell (p := ⟨g, _, none⟩) hg).trans hc⟩
/-- The errno that reading gives up with. -/
abbrev gaveUp : List PanicEntry := [{ v := .iface 24 (.int .i64 240), recovered := false }]
set_option maxRecDepth 100000 in
/-- More than there is. -/
theorem bytes_less (rb : Nat) (ao : Option Addr) (l : List UInt8) (ca n : Nat) (w : World) (hr : w.cell? ⟨rb, 0, none⟩ = some (.slice ao l.length ca)) (hn : l.length < n) :
    Calls Tryd.prog 13 #[.pointer (some ⟨rb, 0, none⟩), .int .i64 n] w fun e w' => e = .panicked gaveUp ∧ w' = w := by
  have hni : (l.length : Int) < (n : Int) := by omega
  go_enter Tryd.func13, Tryd.ntmps13
  go_wp2
  exact ⟨rfl, rfl, rfl⟩
theorem run_string_part {P : Program} {S T D : TypeId} (B : BytesT P S T) (hd : P.underlying D = some .string) (w : World) (ao : Option Addr) (l : List UInt8) (ca n : Nat) (hs : BytesSeen w ao l) (hnil : ao = none → l.length = 0 ∧ ca = 0) (hn : n ≤ l.length) : (convert S D (.slice ao n ca)).run P w = .ok (.string (mk (l.take n))) w := by
  have hl : (l.take n).length = n := by rw [List.length_take]; omega
  cases ao with
  | none =>
    obtain ⟨h1, rfl⟩ := hnil rfl
    have h0 : n = 0 := by omega
    subst h0
    rw [run_convert_bytes_string w S D T none 0 0 B.und B.elem hd]
    simp [Conv.bytesToString, Sem.run_pure]
    rfl
  | some a =>
    have h := run_convert_bytes_back w S D T a ca (l.take n) B.und B.elem hd (by
      intro j hj
      have hjl : j < l.length := by omega
      obtain ⟨g, o, e, _, hc⟩ := hs j l[j] (List.getElem?_eq_getElem hjl)
      cases e
      rw [Addr.add_lit, hc]
      simp)
    rw [hl] at h
    exact h
set_option maxRecDepth 100000 in
/-- What is there. -/
theorem bytes_there (rb : Nat) (ao : Option Addr) (l : List UInt8) (ca n : Nat) (w : World) (hr : w.cell? ⟨rb, 0, none⟩ = some (.slice ao l.length ca)) (hf : w.frozen? ⟨rb, 0, none⟩ = false) (hs : BytesSeen w ao l) (hnil : ao = none → l.length = 0 ∧ ca = 0) (hca : l.length ≤ ca ∧ ca ≤ 9223372036854775807) (hn : n ≤ l.length) :
    Calls Tryd.prog 13 #[.pointer (some ⟨rb, 0, none⟩), .int .i64 n] w fun e w' => e = .returned (.string (mk (l.take n))) ∧ ∃ ao' ca', w' = w.setCell ⟨rb, 0, none⟩ (.slice ao' (l.drop n).length ca') ∧ (∀ w2, BytesSeen w2 ao l → BytesSeen w2 ao' (l.drop n)) ∧ (ao' = none → (l.drop n).length = 0 ∧ ca' = 0) ∧ (l.drop n).length ≤ ca' ∧ ca' ≤ 9223372036854775807 := by
  have kc := run_string_part byT Tryd.underlying9 w ao l ca n hs hnil hn
  have hni : ¬ (l.length : Int) < (n : Int) := by omega
  have hnl : (n : Int) ≤ (l.length : Int) := by omega
  have hnc : (n : Int) ≤ (ca : Int) := by omega
  have hlc : (l.length : Int) ≤ (ca : Int) := by omega
  have hd : (l.drop n).length = l.length - n := List.length_drop
  cases ao with
  | none =>
    obtain ⟨h1, rfl⟩ := hnil rfl
    go_enter Tryd.func13, Tryd.ntmps13
    go_wp2
    go_ret
    refine ⟨rfl, none, 0, rfl, fun _ _ j c hj => ?_, fun _ => rfl, Nat.zero_le _⟩
    have := (List.getElem?_eq_some_iff.1 hj).1
    omega
  | some a =>
    go_enter Tryd.func13, Tryd.ntmps13
    go_wp2
    · go_ret
      refine ⟨rfl, some a, 0, rfl, fun _ _ j c hj => ?_, (fun e => by cases e), by omega, Nat.zero_le _⟩
      have := (List.getElem?_eq_some_iff.1 hj).1
      omega
    · go_ret
      refine ⟨rfl, some (a.add n), ca - n, rfl, fun w2 hs2 j c hj => ?_, (fun e => by cases e), by omega, by omega⟩
      rw [List.getElem?_drop] at hj
      obtain ⟨g, o, e, hg, hc⟩ := hs2 (n + j) c hj
      cases e
      exact ⟨g, o + n, by rw [Addr.add_lit], hg, by rw [Nat.add_assoc]; exact hc⟩
theorem val_take (l : List UInt8) (k : Nat) (c : UInt8) (h : l[k]? = some c) : val (l.take (k + 1)) = val (l.take k) + 256 ^ k * c.toNat := by
  have hk := (List.getElem?_eq_some_iff.1 h).1
  rw [List.take_add_one, h]
  show val (l.take k ++ [c]) = _
  rw [val_snoc, List.length_take, Nat.min_eq_left (by omega)]
theorem or_step (v c k : Nat) (hv : v < 256 ^ k) (hc : c < 256) (hk : k ≤ 3) : bits .or .u64 (v : Int) (IntKind.u64.wrap ((c : Int) * 2 ^ (8 * k))) = ((v + 256 ^ k * c : Nat) : Int) := by
  have e : 256 ^ k = 2 ^ (8 * k) := by rw [Nat.pow_mul]
  have hb : 2 ^ (8 * k) ≤ 16777216 := by
    have : 2 ^ (8 * k) ≤ 2 ^ 24 := Nat.pow_le_pow_right (by decide) (by omega)
    exact this
  have hp : 0 < 2 ^ (8 * k) := Nat.two_pow_pos _
  have hm : 2 ^ (8 * k) * c < 4294967296 := by
    have : 2 ^ (8 * k) * c ≤ 16777216 * 255 := Nat.mul_le_mul hb (by omega)
    omega
  have hw : IntKind.u64.wrap ((c : Int) * 2 ^ (8 * k)) = ((2 ^ (8 * k) * c : Nat) : Int) := by
    rw [IntKind.wrap_u64]
    have : (c : Int) * 2 ^ (8 * k) = ((2 ^ (8 * k) * c : Nat) : Int) := by push_cast; exact Int.mul_comm _ _
    rw [this]
    omega
  rw [hw, Go.u64_or_nat v (2 ^ (8 * k) * c) (by rw [e] at hv; omega) (by omega)]
  congr 1
  rw [Nat.or_comm, ← Nat.two_pow_add_eq_or_of_lt (by rw [← e]; exact hv), e, Nat.add_comm]
set_option maxRecDepth 100000 in
theorem get_any (l : List UInt8) (ao : Option Addr) (cap : Nat) (w : World) (hwd : isW l.length) (hw : w.cell? ⟨1, l.length, none⟩ = some (.bool true)) (hs : BytesSeen w ao l) :
    Calls Tryd.prog 21 #[.slice ao l.length cap, .int .i64 0, .int .i64 l.length] w fun e w' => e = .returned (.tuple #[.int .u64 (val l), .int .i64 0]) ∧ w = w' := by
  have h4 : l.length ≤ 4 := by rcases hwd with h | h | h <;> omega
  have HW := isWidth_any l.length hwd w hw
  have HL := lie_any ao l.length cap 0 l.length w (by omega) (by omega)
  go_enter Tryd.func21, Tryd.ntmps21
  go_wp2_with (first | (go_at_call 28; refine HW.mono ?_; rintro e w1 ⟨rfl, rfl⟩) | (go_at_call 29; refine HL.mono ?_; rintro e w1 ⟨rfl, rfl⟩))
  go_loop [8, 21] (fun v i => ∃ k : Nat, k ≤ l.length ∧ i = .int .i64 k ∧ v = .int .u64 (val (l.take k))) (fun _ i => l.length - (intOf i).toNat)
  case atStart => exact ⟨0, Nat.zero_le _, rfl, rfl⟩
  case round =>
    obtain ⟨k, hk, rfl, rfl⟩ := hrel
    by_cases hlt : k < l.length
    · obtain ⟨c, hc⟩ : ∃ c, l[k]? = some c := ⟨_, List.getElem?_eq_getElem hlt⟩
      obtain ⟨g, o, rfl, _, hcell⟩ := hs k c hc
      have hki : (k : Int) < (l.length : Int) := by omega
      have HV := Lib.hid (val_take l k c hc)
      have hvl := val_lt (l.take k)
      rw [List.length_take, Nat.min_eq_left hk] at hvl
      have hcl := c.toNat_lt
      clear hc hs HW HL
      generalize val (l.take k) = v at *
      have HO := Lib.hid (or_step v c.toNat k hvl hcl (by omega))
      go_wp2
      go_round
      case rel => exact ⟨k + 1, by omega, by go_num, by rw [HO.out, HV.out]⟩
      case measure => simp [intOf]; omega
    · obtain rfl : k = l.length := by omega
      rw [List.take_length]
      go_wp2
      go_ret2
      exact ⟨rfl, rfl⟩
/-- The reader, with the bytes that are left. -/
structure Rd (w0 W : World) (rb : Nat) (l : List UInt8) : Prop where
  cell : ∃ ao ca, W.cell? ⟨rb, 0, none⟩ = some (.slice ao l.length ca) ∧ BytesSeen w0 ao l ∧ (ao = none → l.length = 0 ∧ ca = 0) ∧ l.length ≤ ca ∧ ca ≤ 9223372036854775807
  fro : W.frozen? ⟨rb, 0, none⟩ = false
  blk : Blk W rb 41
  lt : rb < W.heap.size
  ge : w0.heap.size ≤ rb
  below : Below w0.heap.size w0 W
theorem Rd.kept {w0 W W' : World} {rb : Nat} {l : List UInt8} {row : Option Nat} (h : Rd w0 W rb l) (hg : W.grownBy W' row) (hne : some rb ≠ row) (hr : ∀ j, row = some j → w0.heap.size ≤ j) : Rd w0 W' rb l := by
  have hb := hg.block rb h.lt hne
  obtain ⟨ao, ca, hc, h1, h2, h3⟩ := h.cell
  exact ⟨⟨ao, ca, (World.cell?_of_block (a := ⟨rb, 0, none⟩) hb).trans hc, h1, h2, h3⟩, (World.frozen?_of_block (a := ⟨rb, 0, none⟩) hb).trans h.fro, h.blk.kept hg hne, Nat.lt_of_lt_of_le h.lt hg.size, h.ge, h.below.grown hg h.below.size hr⟩
theorem grownBy_set {W : World} (b i : Nat) (v : Value) : W.grownBy (W.setCell ⟨b, i, none⟩ v) (some b) :=
  ⟨rfl, rfl, rfl, by simp, fun k _ hk => Below.heap_setCell _ _ _ k (fun e => hk (by rw [e]))⟩
theorem rd_bytes {w0 W : World} {rb : Nat} {l : List UInt8} (h : Rd w0 W rb l) (n : Nat) (hn : n ≤ l.length) :
    Calls Tryd.prog 13 #[.pointer (some ⟨rb, 0, none⟩), .int .i64 n] W fun e w' => e = .returned (.string (mk (l.take n))) ∧ Rd w0 w' rb (l.drop n) ∧ W.grownBy w' (some rb) := by
  obtain ⟨ao, ca, hc, h1, h2, h3⟩ := h.cell
  refine (bytes_there rb ao l ca n W hc h.fro (h1.below h.below) h2 h3 hn).mono fun e w' ⟨he, ao', ca', hw, g1, g2, g3⟩ => ?_
  subst hw
  have hg := grownBy_set (W := W) rb 0 (.slice ao' (l.drop n).length ca')
  exact ⟨he, ⟨⟨ao', ca', World.cell?_setCell_same _ _ _ hc, g1 w0 h1, g2, g3⟩, by rw [World.frozen?_setCell]; exact h.fro, h.blk.set _ _ _, Nat.lt_of_lt_of_le h.lt hg.size, h.ge, h.below.grown hg h.below.size (fun j e => by cases e; exact h.ge)⟩, hg⟩
theorem rd_less {w0 W : World} {rb : Nat} {l : List UInt8} (h : Rd w0 W rb l) (n : Nat) (hn : l.length < n) :
    Calls Tryd.prog 13 #[.pointer (some ⟨rb, 0, none⟩), .int .i64 n] W fun e w' => e = .panicked gaveUp ∧ w' = W := by
  obtain ⟨ao, ca, hc, _⟩ := h.cell
  exact bytes_less rb ao l ca n W hc hn
set_option maxRecDepth 100000 in
theorem num_less {w0 W : World} {rb : Nat} {l : List UInt8} (h : Rd w0 W rb l) (n : Nat) (hn : l.length < n) :
    Calls Tryd.prog 14 #[.pointer (some ⟨rb, 0, none⟩), .int .i64 n] W fun e w' => e = .panicked gaveUp ∧ w' = W := by
  have H := rd_less h n hn
  go_enter Tryd.func14, Tryd.ntmps14
  go_wp2_with (go_at_call 13; refine H.mono ?_; rintro e w1 ⟨rfl, rfl⟩)
  exact ⟨rfl, rfl, rfl⟩
theorem bytesWorld_seen (w1 : World) (t : List UInt8) : BytesSeen (Lib.bytesWorld w1 5 (mk t)) (some ⟨w1.heap.size, 0, none⟩) t := by
  intro j c hj
  have hj' : j < (mk t).size := (List.getElem?_eq_some_iff.1 hj).1
  refine ⟨w1.heap.size, 0, rfl, by rw [Lib.bytesWorld_size]; omega, ?_⟩
  rw [Nat.zero_add, Lib.bytesWorld_cell w1 5 (mk t) j hj']
  have e : (mk t).data.toList.getD j 0 = c := by
    show t.getD j 0 = c
    rw [List.getD_eq_getElem?_getD, hj]; rfl
  rw [e]
set_option maxRecDepth 100000 in
set_option maxHeartbeats 400000 in
theorem num_there {w0 W : World} {rb : Nat} {l : List UInt8} (h : Rd w0 W rb l) (n : Nat) (hwd : isW n) (hn : n ≤ l.length) (hw : w0.cell? ⟨1, n, none⟩ = some (.bool true)) (hw0 : 1 < w0.heap.size) :
    Calls Tryd.prog 14 #[.pointer (some ⟨rb, 0, none⟩), .int .i64 n] W fun e w' => e = .returned (.int .i64 (val (l.take n))) ∧ Rd w0 w' rb (l.drop n) ∧ W.grownBy w' (some rb) := by
  have hl : (l.take n).length = n := by rw [List.length_take]; omega
  have H := rd_bytes h n hn
  have kc := fun (W' : World) (s : ByteArray) => Lib.run_convert_string_bytes (P := Tryd.prog) W' 9 23 5 s Tryd.underlying9 Tryd.underlying23 Tryd.underlying5
  have hvl := val_lt (l.take n)
  rw [hl] at hvl
  have h4 : n ≤ 4 := by rcases hwd with h | h | h <;> omega
  have hv64 : val (l.take n) < 4294967296 := Nat.lt_of_lt_of_le hvl (by rcases hwd with rfl | rfl | rfl <;> simp)
  have HG := fun (c : Nat) (w1 : World) (h1 : Rd w0 w1 rb (l.drop n)) => get_any (l.take n) (some ⟨w1.heap.size, 0, none⟩) c (Lib.bytesWorld w1 5 (mk (l.take n))) (by rw [hl]; exact hwd) (by rw [hl]; exact (Lib.bytesWorld_old w1 _ _ _ (by show 1 < _; have := h1.below.size; omega)).trans ((h1.below.cell (p := ⟨_, n, none⟩) hw0).trans hw)) (bytesWorld_seen w1 (l.take n))
  rw [hl] at HG
  have hms : (mk (l.take n)).size = n := hl
  generalize val (l.take n) = v at *
  generalize l.take n = t at *
  go_enter Tryd.func14, Tryd.ntmps14
  go_wp2_with (first | (go_at_call 13; refine H.mono ?_; rintro e w1 ⟨rfl, hR, hg⟩) | (go_at_call 21; refine (HG _ w1 hR).mono ?_; rintro e w2 ⟨rfl, rfl⟩))
  have hbw := Go.Joins.below_bytesWorld w1.heap.size w1 5 (mk t) (Nat.le_refl _)
  have hg1 : w1.grownBy (Lib.bytesWorld w1 5 (mk t)) none := ⟨hbw.os, hbw.tape, hbw.output, hbw.size, fun i hi _ => hbw.block i hi⟩
  go_ret
  exact ⟨rfl, hR.kept hg1 (by simp) (fun j e => by cases e), hg.trans ⟨hbw.os, hbw.tape, hbw.output, hbw.size, fun i hi _ => hbw.block i hi⟩⟩
end Pw
end Go.Proofs.YtnmgdlmicgbapaaDoor
