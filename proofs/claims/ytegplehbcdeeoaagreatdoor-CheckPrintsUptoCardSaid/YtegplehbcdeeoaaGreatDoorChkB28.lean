/- A strings.Builder: texts and bytes are written to it; its string. -/
import Derived.Test.YtegplehbcdeeoaaGreatDoorChkB15
import Derived.Lib.Builder
import Derived.Lib.UnsafeStr
import Derived.Deep.DeepMust
import Derived.Test.YtegplehbcdeeoaaGreatDoorChkB17
import Derived.Lib.ItoaNum
import Derived.StillTailTactics
import Derived.Lib.ItoaLen
namespace Go.Proofs.YtegplehbcdeeoaaGreatDoor
open Go.RowKit

namespace Ck
open Pk Pw
set_option maxHeartbeats 1000000 in
set_option maxRecDepth 100000 in
theorem check_used (b : Nat) (w : World) (h0 : w.cell? ⟨b, 0, none⟩ = some (.pointer (some ⟨b, 0, none⟩))) :
    Calls Tryz.prog 49 #[.pointer (some ⟨b, 0, none⟩)] w fun e w' => e = .returned (.tuple #[]) ∧ w' = w := by
  obtain ⟨j, hj, _⟩ := Option.map_eq_some_iff.1 (show (Tryz.prog.info? 48).map (·.size) = some 2 by kernel_rfl)
  go_enter Tryz.func49, Tryz.ntmps49
  go_wp2
  rw [Lib.run_neq_ptr_same w _ Tryz.underlying46 hj]
  go_wp2
  go_end0
  exact ⟨rfl, rfl⟩
set_option maxHeartbeats 1000000 in
set_option maxRecDepth 100000 in
theorem check_fresh (b : Nat) (w : World) (h0 : w.cell? ⟨b, 0, none⟩ = some (.pointer none)) (hsh : w.shape? b = some (48, 2)) (hfz : w.frozen? ⟨b, 0, none⟩ = false) :
    Calls Tryz.prog 49 #[.pointer (some ⟨b, 0, none⟩)] w fun e w' => e = .returned (.tuple #[]) ∧ w' = w.setCell ⟨b, 0, none⟩ (.pointer (some ⟨b, 0, none⟩)) := by
  obtain ⟨j, hj, hjs⟩ := Option.map_eq_some_iff.1 (show (Tryz.prog.info? 48).map (·.size) = some 2 by kernel_rfl)
  go_enter Tryz.func49, Tryz.ntmps49
  go_wp2
  rw [Lib.run_to_unsafe w ⟨b, 0, none⟩ Tryz.underlying46 Tryz.underlying139 hj (by rw [hjs]; decide) hsh (Nat.zero_lt_succ 1)]
  simp only [Result.andThen]
  rw [Oper.upon_value]
  go_wp2
  rw [run_callFunc_extern Tryz.func89 (by kernel_rfl) (by kernel_rfl) (by kernel_rfl) (e := Extern.AbiNoEscape.same) (by kernel_rfl)]
  rw [Lib.run_noEscape]
  simp only [Result.andThen]
  rw [Oper.upon_value]
  go_wp2
  rw [Lib.run_from_unsafe w ⟨b, 0, none⟩ Tryz.underlying139 Tryz.underlying46 hj hsh (by kernel_rfl)]
  simp only [Result.andThen]
  rw [Oper.upon_value]
  go_wp2
  go_end0
  exact ⟨rfl, rfl⟩
/-- A builder in block b, its bytes in a row from block B on; X: blocks that it leaves alone. -/
def Bld (B b : Nat) (X : List Nat) (l : List UInt8) (w : World) : Prop := ∃ p v, Blk w b #[p, v] 48 ∧ (p = .pointer none ∨ p = .pointer (some ⟨b, 0, none⟩)) ∧ w.ownsRow B 5 1 v l.length (bytesV l) ∧ v.ownBlock ≠ some b ∧ (l = [] → v = .slice none 0 0) ∧ ∀ x ∈ X, x ≠ b ∧ v.ownBlock ≠ some x ∧ x < w.heap.size
theorem Bld.lt {B b : Nat} {X : List Nat} {l : List UInt8} {w : World} (h : Bld B b X l w) : b < w.heap.size := by
  obtain ⟨p, v, hb, _⟩ := h
  exact hb.lt
theorem Bld.below {B b : Nat} {X : List Nat} {l : List UInt8} {w w' : World} (h : Bld B b X l w) (hb : Below w.heap.size w w') : Bld B b X l w' := by
  obtain ⟨p, v, h1, h2, h3, h4, h5, h6⟩ := h
  exact ⟨p, v, h1.same (hb.block _ h1.lt), h2, own_below h3 hb, h4, h5, fun x hx => ⟨(h6 x hx).1, (h6 x hx).2.1, Nat.lt_of_lt_of_le (h6 x hx).2.2 hb.size⟩⟩
theorem Bld.drop {B b : Nat} {X : List Nat} {l : List UInt8} {w : World} (h : Bld B b X l w) : Bld B b [] l w := by
  obtain ⟨p, v, h1, h2, h3, h4, h5, _⟩ := h
  exact ⟨p, v, h1, h2, h3, h4, h5, by simp⟩
/-- A new block is one that the builder leaves alone. -/
theorem Bld.more {B b : Nat} {X : List Nat} {l : List UInt8} {w : World} (h : Bld B b X l w) (o : Obj) : Bld B b (w.heap.size :: X) l (w.alloc o) := by
  obtain ⟨p, v, h1, h2, h3, h4, h5, h6⟩ := h.below ((Below.refl w.heap.size w).alloc (Nat.le_refl _) o)
  obtain ⟨p', v', k1, k2, k3, k4, k5, k6⟩ := h
  have hv : v = v' := by
    have e := (alloc_at w o k1.lt).symm.trans h1
    have e2 : Blk w b #[p', v'] 48 := k1
    unfold Blk at e2
    rw [e2] at e
    simp only [Option.some.injEq, Obj.cells.injEq, and_true] at e
    have := congrArg (fun a : Array Value => a[1]?) e
    simpa using this.symm
  refine ⟨p, v, h1, h2, h3, h4, h5, fun x hx => ?_⟩
  rcases List.mem_cons.1 hx with rfl | hx
  · exact ⟨by have := k1.lt; omega, fun e => by rw [hv] at e; have := (own_lt k3 e).2; omega, by rw [alloc_size]; omega⟩
  · exact h6 x hx
theorem Bld.fresh (B : Nat) (w : World) : Bld B w.heap.size [] [] (w.alloc (.cells #[.pointer none, .slice none 0 0] 48)) :=
  ⟨_, _, Blk.new _ _ _, .inl rfl, World.ownsRow_nil _ _ _ _, (by intro e; cases e), fun _ => rfl, by simp⟩
/-- Behind the check. -/
theorem check_any {B b : Nat} {X : List Nat} {l : List UInt8} {w : World} (h : Bld B b X l w) : ∃ v, (w.ownsRow B 5 1 v l.length (bytesV l) ∧ v.ownBlock ≠ some b ∧ b < w.heap.size ∧ ∀ x ∈ X, x ≠ b ∧ v.ownBlock ≠ some x ∧ x < w.heap.size) ∧ Calls Tryz.prog 49 #[.pointer (some ⟨b, 0, none⟩)] w fun e w' => e = .returned (.tuple #[]) ∧ Blk w' b #[.pointer (some ⟨b, 0, none⟩), v] 48 ∧ w'.heap.size = w.heap.size ∧ w'.os = w.os ∧ w'.tape = w.tape ∧ w'.output = w.output ∧ ∀ x, x ≠ b → w'.heap[x]? = w.heap[x]? := by
  obtain ⟨p, v, hb, hp, hown, hnb, _, hX⟩ := h
  refine ⟨v, ⟨hown, hnb, hb.lt, hX⟩, ?_⟩
  rcases hp with rfl | rfl
  · have hsh : w.shape? b = some (48, 2) := by unfold Blk at hb; simp [World.shape?, hb]
    refine (check_fresh b w (hb.cell 0) hsh (hb.free 0)).mono ?_
    rintro e w' ⟨rfl, rfl⟩
    exact ⟨rfl, hb.setAt 0 _, by simp, rfl, rfl, rfl, fun x hx => setCell_heap _ _ _ _ _ hx⟩
  · refine (check_used b w (hb.cell 0)).mono ?_
    rintro e w' ⟨rfl, rfl⟩
    exact ⟨rfl, hb, rfl, rfl, rfl, rfl, fun _ _ => rfl⟩
set_option maxHeartbeats 2000000 in
set_option maxRecDepth 100000 in
theorem write_str {B b : Nat} {X : List Nat} {l : List UInt8} {w : World} (h : Bld B b X l w) (hB : B ≤ b) (k : List UInt8) (hk : k ≠ []) (hlen : l.length + k.length ≤ 1000000000000) :
    Calls Tryz.prog 20 #[.pointer (some ⟨b, 0, none⟩), .string (mk k)] w fun e w' => e = .returned (.tuple #[.int .i64 k.length, .nilIface]) ∧ Bld B b X (l ++ k) w' ∧ Below B w w' ∧ ∀ x ∈ X, w'.heap[x]? = w.heap[x]? := by
  obtain ⟨v, ⟨hown, hnb, hbl, hX⟩, HC⟩ := check_any h
  replace hX := Lib.hid hX
  have hne : l ++ k ≠ [] := by simp [hk]
  have hms := mk_size k
  clear h
  go_enter Tryz.func20, Tryz.ntmps20
  go_wp2_with fail
  refine HC.mono ?_
  clear HC
  rintro e w1 ⟨rfl, hb1, hs1, ho1, ht1, hu1, hk1⟩
  have c1 := hb1.cell 1
  have f1 := hb1.free 1
  have hown1 := own_same hown (W' := w1) fun g hg => hk1 g (fun e => hnb (by rw [hg, e]))
  obtain ⟨v2, w2, hrun, hown2, hg2, hat⟩ := run_append_own_text (P := Tryz.prog) byT Tryz.underlying9 24 hown1 k (by omega) (by omega)
  obtain ⟨ao2, cap2, rfl⟩ := own_slice2 hown2
  have hb2 : Blk w2 b #[.pointer (some ⟨b, 0, none⟩), v] 48 := hb1.same (hg2.block b hb1.lt (fun e => hnb e.symm))
  have d1 := hb2.cell 1
  have d2 := hb2.free 1
  have hownL := Lib.hid hown1
  have hF := Lib.hid (And.intro hown2 (And.intro hg2 (And.intro hat hk1)))
  have hB1 := Lib.hid hb1
  have hB2 := Lib.hid hb2
  obtain ⟨aov, capv, rfl⟩ := own_slice2 hown
  clear hown2 hg2 hat hk1 hown1 hb1 hb2 hown
  go_wp2_with (at_builtin; go_must (refine Lib.wpList_append_run _ rfl (.tmp 12) (.tmp 13) _ _ rfl _ _ rfl rfl _ _ hrun ?_))
  go_ret2
  obtain ⟨hown2, hg2, hat, hk1⟩ := hF.out
  have hnb2 : (Value.slice ao2 (l ++ k).length cap2).ownBlock ≠ some b := by
    rcases hat with e | ⟨g, e, hg⟩
    · rw [e]; exact hnb
    · rw [e]; intro c'; cases c'; have := hB1.out.lt; omega
  rw [List.length_append] at hnb2 hown2
  have hown3 := ownsRow_setCell_other hown2 (a := ⟨b, 1, none⟩) hnb2 (.slice ao2 (l.length + k.length) cap2)
  have hw2 : Below B w w2 := ⟨hg2.os.trans ho1, hg2.tape.trans ht1, hg2.output.trans hu1, by have := hg2.size; omega, fun x hx => (hg2.block x (by omega) (fun e => by have := (own_lt hownL.out e.symm).1; omega)).trans (hk1 x (by omega))⟩
  have hkeep : ∀ x ∈ X, (w2.setCell ⟨b, 1, none⟩ (.slice ao2 (l.length + k.length) cap2)).heap[x]? = w.heap[x]? := fun x hx => by
    obtain ⟨x1, x2, x3⟩ := hX.out x hx
    exact (setCell_heap _ _ _ _ _ x1).trans ((hg2.block x (by omega) x2.symm).trans (hk1 x x1))
  refine ⟨rfl, ⟨_, _, hB2.out.setAt 1 _, .inr rfl, ?_, hnb2, fun e => absurd e hne, fun x hx => ?_⟩, hw2.setCell (p := ⟨b, 1, none⟩) hB _, hkeep⟩
  · rw [List.length_append]
    exact hown3
  · obtain ⟨x1, x2, x3⟩ := hX.out x hx
    refine ⟨x1, ?_, by rw [setCell_size]; have := hg2.size; omega⟩
    rw [List.length_append] at hat
    rcases hat with e | ⟨g, e, hg⟩
    · rw [e]; exact x2
    · rw [e]; intro c'; cases c'; omega
set_option maxHeartbeats 2000000 in
set_option maxRecDepth 100000 in
theorem write_byte {B b : Nat} {X : List Nat} {l : List UInt8} {w : World} (h : Bld B b X l w) (hB : B ≤ b) (c : UInt8) (hlen : l.length + 1 ≤ 1000000000000) :
    Calls Tryz.prog 51 #[.pointer (some ⟨b, 0, none⟩), .int .u8 c.toNat] w fun e w' => e = .returned .nilIface ∧ Bld B b X (l ++ [c]) w' ∧ Below B w w' ∧ ∀ x ∈ X, w'.heap[x]? = w.heap[x]? := by
  obtain ⟨v, ⟨hown, hnb, hbl, hX⟩, HC⟩ := check_any h
  replace hX := Lib.hid hX
  have hne : l ++ [c] ≠ [] := by simp
  clear h
  go_enter Tryz.func51, Tryz.ntmps51
  go_wp2_with fail
  refine HC.mono ?_
  clear HC
  rintro e w1 ⟨rfl, hb1, hs1, ho1, ht1, hu1, hk1⟩
  have c1 := hb1.cell 1
  have hown1 := own_same hown (W' := w1) fun g hg => hk1 g (fun e => hnb (by rw [hg, e]))
  have hownL := Lib.hid hown1
  obtain ⟨aov, capv, rfl⟩ := own_slice2 hown
  have hB1 := Lib.hid hb1
  have hF := Lib.hid hk1
  have hb1s := hb1.lt
  have hBs : B ≤ w1.heap.size := by omega
  replace hs1 := Lib.hid hs1
  clear hk1 hown1 hb1 hown
  go_wp2_with (at_builtin; go_must (refine wpList_append_bytes byT w1 rfl _ _ rfl _ B _ l [c] 1 rfl rfl (by rfl) hownL.out (by rfl) (by simp; omega) hBs ?_); intro v2 w2 hown2 hg2 hat; obtain ⟨ao2, cap2, rfl⟩ := own_slice2 hown2; have hb2 : Blk w2 b #[.pointer (some ⟨b, 0, none⟩), .slice aov l.length capv] 48 := hB1.out.same (hg2.block b hB1.out.lt (fun e => hnb e.symm)); have d1 := hb2.cell 1; have d2 := hb2.free 1; replace hb2 := Lib.hid hb2)
  go_ret
  have hnb2 : (Value.slice ao2 (l ++ [c]).length cap2).ownBlock ≠ some b := by
    rcases hat with e | ⟨g, e, hg⟩
    · rw [e]; exact hnb
    · rw [e]; intro c'; cases c'; have := hB1.out.lt; omega
  have hown3 := ownsRow_setCell_other hown2 (a := ⟨b, 1, none⟩) hnb2 (.slice ao2 (l ++ [c]).length cap2)
  have hw2 : Below B w w2 := ⟨hg2.os.trans ho1, hg2.tape.trans ht1, hg2.output.trans hu1, by have := hg2.size; have := hs1.out; omega, fun x hx => (hg2.block x (by have := hs1.out; omega) (fun e => by have := (own_lt hownL.out e.symm).1; omega)).trans (hF.out x (by omega))⟩
  have hll : (l ++ [c]).length = l.length + 1 := by simp
  rw [hll] at hown3 hnb2
  have hkeep : ∀ x ∈ X, (w2.setCell ⟨b, 1, none⟩ (.slice ao2 (l.length + 1) cap2)).heap[x]? = w.heap[x]? := fun x hx => by
    obtain ⟨x1, x2, x3⟩ := hX.out x hx
    exact (setCell_heap _ _ _ _ _ x1).trans ((hg2.block x (by have := hs1.out; omega) x2.symm).trans (hF.out x x1))
  refine ⟨rfl, ⟨_, _, hb2.out.setAt 1 _, .inr rfl, by rw [hll]; exact hown3, hnb2, fun e => absurd e hne, fun x hx => ?_⟩, hw2.setCell (p := ⟨b, 1, none⟩) hB _, hkeep⟩
  obtain ⟨x1, x2, x3⟩ := hX.out x hx
  refine ⟨x1, ?_, by rw [setCell_size]; have := hg2.size; have := hs1.out; omega⟩
  rw [hll] at hat
  rcases hat with e | ⟨g, e, hg⟩
  · rw [e]; exact x2
  · rw [e]; intro c'; cases c'; have := hs1.out; omega
set_option maxHeartbeats 2000000 in
set_option maxRecDepth 100000 in
theorem string_any {B b : Nat} {X : List Nat} {l : List UInt8} {w : World} (h : Bld B b X l w) (hlen : l.length ≤ 1000000000000) :
    Calls Tryz.prog 23 #[.pointer (some ⟨b, 0, none⟩)] w fun e w' => e = .returned (.string (mk l)) ∧ Below B w w' := by
  obtain ⟨p, v, hb, _, hown, hnb, hv, _⟩ := h
  have c1 := hb.cell 1
  by_cases h0 : l = []
  · subst h0
    have hv := hv rfl
    subst hv
    have hUS : ∀ W : World, (Builtin.unsafeString_ #[94, 3] 9 #[.pointer none, .int .i64 0]).run Tryz.prog W = .ok (.string .empty) W := fun W => Lib.run_unsafeString_none _ _ _ _ _
    have hSD : ∀ W : World, (Builtin.unsafeSliceData_ #[24] 94 #[.slice none 0 0]).run Tryz.prog W = .ok (.pointer none) W := fun W => Lib.run_unsafeSliceData_nil _ _ _ _ _
    clear hb hown
    go_enter Tryz.func23, Tryz.ntmps23
    go_wp2_with fail
    go_region
    all_goals
      go_wp2_with fail
      go_ret
      exact ⟨rfl, Below.drew (Below.refl _ _)⟩
  · have hl0 : 0 < l.length := List.length_pos_iff.2 h0
    obtain ⟨g, cap, ext, rfl, hBg, hblk, hc1, hc2⟩ := own_blk hown hl0
    have hsh : ∀ W : World, W.heap[g]? = w.heap[g]? → W.shape? g = some (5, (bytesC l ++ ext).size) := fun W e => by
      have := e.trans hblk
      simp [World.shape?, this]
    have hUS : (Builtin.unsafeString_ #[94, 3] 9 #[.pointer (some ⟨g, 0, none⟩), .int .i64 l.length]).run Tryz.prog w.drew = .ok (.string ⟨l.toArray⟩) (w.drew.freeze ⟨g, 0, none⟩ l.length) :=
      Lib.run_unsafeString_row _ _ _ _ 5 Tryz.underlying94 (by kernel_rfl) g _ (hsh w.drew rfl) l h0 (by rw [Array.size_append, bytesC_size]; omega) (by omega) (fun j x hx => by
        rw [addr_plain]
        exact seen_left hblk j x hx)
    have hSD : ∀ W : World, (Builtin.unsafeSliceData_ #[24] 94 #[.slice (some ⟨g, 0, none⟩) l.length cap]).run Tryz.prog W = .ok (.pointer (some ⟨g, 0, none⟩)) W := fun W => Lib.run_unsafeSliceData_row _ _ _ _ _ _ (by omega)
    have hfin := Lib.hid (show Below B w (w.drew.freeze ⟨g, 0, none⟩ l.length) from Lib.below_freeze (Below.drew (Below.refl _ _)) hBg _)
    clear hb hown hblk hsh
    go_enter Tryz.func23, Tryz.ntmps23
    go_wp2_with fail
    go_region
    all_goals
      go_wp2_with fail
      go_ret
      exact ⟨rfl, hfin.out⟩
end Ck
end Go.Proofs.YtegplehbcdeeoaaGreatDoor
/- Findings as lines: plain; a name without what can't be shown: the checker's walk. -/
namespace Go.Proofs.YtegplehbcdeeoaaGreatDoor
open Go.RowKit

namespace Ck
open Pk Pw
/-- A digit of base sixteen. -/
def hexD (n : Nat) : UInt8 := if n < 10 then UInt8.ofNat (48 + n) else UInt8.ofNat (87 + n)
def digS : ByteArray := ⟨#[48, 49, 50, 51, 52, 53, 54, 55, 56, 57, 97, 98, 99, 100, 101, 102]⟩
def shownB (c : UInt8) : B := if 33 ≤ c.toNat ∧ c.toNat ≤ 126 ∧ c.toNat ≠ 92 then [c] else [92, 120, hexD (c.toNat / 16), hexD (c.toNat % 16)]
/-- A name without what can't be shown. -/
def shownP (s : B) : B := s.flatMap shownB
/-- How findings of a kind are told: the word, and which fields they have. -/
def kindsP : List (B × Bool × Bool × Bool) := [([], false, false, false), ([115, 117, 112, 101, 114], false, false, false), ([104, 101, 97, 100], false, false, false), ([109, 101, 116, 97], false, true, false), ([114, 101, 99, 111, 114, 100], true, false, false), ([112, 111, 105, 110, 116, 101, 114], true, true, false), ([116, 119, 105, 99, 101], true, true, false), ([116, 97, 107, 101, 110], false, true, false), ([102, 114, 101, 101], false, true, false), ([116, 97, 105, 108], true, true, false), ([99, 101, 108, 108], true, true, false), ([110, 97, 109, 101], true, false, true), ([110, 111, 110, 101], true, false, true), ([112, 97, 114, 101, 110, 116], true, false, true), ([108, 111, 115, 116], true, false, false), ([108, 105, 110, 107, 115], true, false, false), ([100, 101, 101, 112], true, false, true), ([116, 101, 120, 116], true, false, false), ([111, 114, 112, 104, 97, 110], true, false, false)]
def kindP (k : Nat) : B × Bool × Bool × Bool := kindsP.getD k ([], false, false, false)
/-- A finding's line. -/
def lineP (f : Fi) : B :=
  if f.kind < 1 ∨ 18 < f.kind then [63, 10]
  else (kindP f.kind.toNat).1 ++ (if (kindP f.kind.toNat).2.1 then 32 :: Lib.itoa f.inode else []) ++ (if (kindP f.kind.toNat).2.2.1 then 32 :: Lib.itoa f.block else []) ++ (if (kindP f.kind.toNat).2.2.2 then 32 :: shownP f.name else []) ++ [10]
def printP (l : List Fi) : B := l.flatMap lineP
theorem shownB_len (c : UInt8) : (shownB c).length ≤ 4 := by unfold shownB; split <;> simp
theorem shownP_len (s : B) : (shownP s).length ≤ 4 * s.length := by
  unfold shownP
  induction s with
  | nil => simp
  | cons c s ih => rw [List.flatMap_cons, List.length_append, List.length_cons]; have := shownB_len c; omega
theorem shown_take {s : B} {k : Nat} {c : UInt8} (h : s[k]? = some c) : shownP (s.take (k + 1)) = shownP (s.take k) ++ shownB c := by
  unfold shownP
  rw [List.take_add_one, h, List.flatMap_append]
  simp
theorem dig_cut (n : Nat) (h : n < 16) : (⟨#[48, 49, 50, 51, 52, 53, 54, 55, 56, 57, 97, 98, 99, 100, 101, 102]⟩ : ByteArray).extract n (n + 1) = mk [hexD n] := by
  have : ∀ n : Fin 16, (⟨#[48, 49, 50, 51, 52, 53, 54, 55, 56, 57, 97, 98, 99, 100, 101, 102]⟩ : ByteArray).extract n.val (n.val + 1) = mk [hexD n.val] := by decide +kernel
  exact this ⟨n, h⟩
theorem mk_add (a b : B) : mk a ++ mk b = mk (a ++ b) := by
  apply bs_inj
  show (mk a ++ mk b).data.toList = a ++ b
  simp [mk]
theorem u8_fit (x : Int) (h0 : 0 ≤ x) (h1 : x ≤ 255) : IntKind.u8.wrap x = x := by show x % 256 = x; omega
set_option maxRecDepth 100000 in
set_option maxHeartbeats 1000000 in
theorem shown_any (s : B) (hs : s.length ≤ 100000000000) (w : World) : Calls Tryz.prog 22 #[.string (mk s)] w fun e w' => e = .returned (.string (mk (shownP s))) ∧ Below w.heap.size w w' := by
  have hms := mk_size s
  have hbm : bs (mk s) = s := bs_mk s
  have hbl := shownP_len s
  go_enter Tryz.func22, Tryz.ntmps22
  go_wp2_with fail
  have hB0 := Bld.fresh w.heap.size w
  have hb0 := (Below.refl w.heap.size w).alloc (Nat.le_refl _) (.cells #[.pointer none, .slice none 0 0] 48)
  generalize w.alloc (.cells #[.pointer none, .slice none 0 0] 48) = w0 at *
  go_loopw [8] (fun iv wr => ∃ k : Nat, iv = .int .i64 k ∧ k ≤ (mk s).size ∧ Hid (Bld w.heap.size w.heap.size [] (shownP (s.take k)) wr ∧ Below w.heap.size w wr)) (fun iv _ => (mk s).size - (intOf iv).toNat)
  case atStart => exact ⟨0, rfl, Nat.zero_le _, Lib.hid ⟨hB0, hb0⟩⟩
  case round =>
    obtain ⟨k, rfl, hk, hH⟩ := hrel
    have hbl2 : (shownP (s.take k)).length ≤ 4 * s.length := by have := shownP_len (s.take k); rw [List.length_take] at this; omega
    by_cases c : k < (mk s).size
    · have hci : (k : Int) < ((mk s).size : Int) := by omega
      have hci2 : (k : Int) < (s.length : Int) := by omega
      have hcn : k < s.length := by omega
      have hget := bs_get (mk s) k c
      rw [hbm] at hget
      have hst := Lib.hid (shown_take hget)
      obtain ⟨ch, hch⟩ : ∃ ch, (mk s)[k]'c = ch := ⟨_, rfl⟩
      rw [hch] at hst hget
      have h256 := ch.toNat_lt
      have hsb := Lib.hid (show shownB ch = if 33 ≤ ch.toNat ∧ ch.toNat ≤ 126 ∧ ch.toNat ≠ 92 then [ch] else [92, 120, hexD (ch.toNat / 16), hexD (ch.toNat % 16)] from rfl)
      have hch2 : ((mk s)[k]'c).toNat = ch.toNat := by rw [hch]
      clear hget
      by_cases hp : 33 ≤ ch.toNat ∧ ch.toNat ≤ 126 ∧ ch.toNat ≠ 92
      · have hst2 := Lib.hid (show shownP (s.take (k + 1)) = shownP (s.take k) ++ [ch] by rw [hst.out, hsb.out, if_pos hp])
        have p1 : decide ((ch.toNat : Int) < 33) = false := decide_eq_false (by omega)
        have p2 : decide ((126 : Int) < (ch.toNat : Int)) = false := decide_eq_false (by omega)
        have p3 : ((ch.toNat : Int) == 92) = false := by rw [beq_eq_false_iff_ne]; omega
        have HW := write_byte hH.out.1 (Nat.le_refl _) ch (by omega)
        generalize shownP (s.take k) = X at *
        clear hsb hst hp
        go_wp2_with (go_at_call 51; refine HW.mono ?_; clear HW; rintro e w2 ⟨rfl, hW2⟩)
        go_roundw
        case rel => exact ⟨k + 1, by go_num, by omega, Lib.hid ⟨by rw [hst2.out]; exact hW2.1, hH.out.2.trans hW2.2.1⟩⟩
        case measure => simp only [intOf]; omega
      · have hst2 := Lib.hid (show shownP (s.take (k + 1)) = shownP (s.take k) ++ [92, 120, hexD (ch.toNat / 16), hexD (ch.toNat % 16)] by rw [hst.out, hsb.out, if_neg hp])
        have hcut1 := dig_cut (ch.toNat / 16) (by omega)
        have hcut2 := dig_cut (ch.toNat % 16) (by omega)
        have q1 : IntKind.u8.wrap ((ch.toNat : Int).tdiv 16) = ((ch.toNat / 16 : Nat) : Int) := by rw [Int.tdiv_eq_ediv_of_nonneg (by omega), u8_fit _ (by omega) (by omega)]; omega
        have q2 : IntKind.u8.wrap ((ch.toNat : Int).tmod 16) = ((ch.toNat % 16 : Nat) : Int) := by rw [Int.tmod_eq_emod_of_nonneg (by omega), u8_fit _ (by omega) (by omega)]; omega
        have q3 : IntKind.u8.wrap ((ch.toNat : Int) / 16) = ((ch.toNat / 16 : Nat) : Int) := by rw [u8_fit _ (by omega) (by omega)]; omega
        have q4 : IntKind.u8.wrap ((ch.toNat : Int) % 16) = ((ch.toNat % 16 : Nat) : Int) := by rw [u8_fit _ (by omega) (by omega)]; omega
        have q5 : (ch.toNat : Int).tmod 16 = ((ch.toNat % 16 : Nat) : Int) := by rw [Int.tmod_eq_emod_of_nonneg (by omega)]; omega
        have hq16 : ch.toNat / 16 < 16 := by omega
        have hr16 : ch.toNat % 16 < 16 := by omega
        have hcs : ¬ (33 ≤ (ch.toNat : Int) ∧ (ch.toNat : Int) ≤ 126 ∧ (ch.toNat : Int) ≠ 92) := by omega
        clear hp hsb hst
        generalize hQ : ch.toNat / 16 = q at *
        generalize hR : ch.toNat % 16 = r at *
        replace hQ := Lib.hid hQ
        replace hR := Lib.hid hR
        have a1 : IntKind.u8.wrap ((q : Int) + 1) = (q : Int) + 1 := u8_fit _ (by omega) (by omega)
        have a2 : IntKind.u8.wrap ((r : Int) + 1) = (r : Int) + 1 := u8_fit _ (by omega) (by omega)
        have b1 : (q : Int) + 1 ≤ 16 := by omega
        have b2 : (r : Int) + 1 ≤ 16 := by omega
        have b3 : (q : Int) ≤ (q : Int) + 1 := by omega
        have b4 : (r : Int) ≤ (r : Int) + 1 := by omega
        have b5 : ((q : Int) + 1).toNat = q + 1 := by omega
        have b6 : ((r : Int) + 1).toNat = r + 1 := by omega
        have s1 : (⟨#[92, 120]⟩ : ByteArray) ++ mk [hexD q] = mk [92, 120, hexD q] := mk_add [92, 120] [hexD q]
        have s2 : mk [92, 120, hexD q] ++ mk [hexD r] = mk [92, 120, hexD q, hexD r] := mk_add [92, 120, hexD q] [hexD r]
        have hm1 : (mk [hexD q]).size = 1 := rfl
        have hm2 : (mk [hexD r]).size = 1 := rfl
        have hm3 : (mk [92, 120, hexD q]).size = 3 := rfl
        have HW := write_str (w := wr.drew) (hH.out.1.below (Below.drew (Below.refl _ _))) (Nat.le_refl _) [92, 120, hexD q, hexD r] (by simp) (by simp; omega)
        have hH2 := Lib.hid (hH.out.2.trans ((Below.drew (Below.refl w.heap.size wr))))
        generalize shownP (s.take k) = X at *
        have hcs2 : (ch.toNat : Int) < 33 ∨ (¬ (ch.toNat : Int) < 33 ∧ (126 : Int) < (ch.toNat : Int)) ∨ (¬ (ch.toNat : Int) < 33 ∧ ¬ (126 : Int) < (ch.toNat : Int) ∧ ((ch.toNat : Int) == 92) = true) := by
          rcases (show (ch.toNat : Int) < 33 ∨ (¬ (ch.toNat : Int) < 33 ∧ (126 : Int) < (ch.toNat : Int)) ∨ (¬ (ch.toNat : Int) < 33 ∧ ¬ (126 : Int) < (ch.toNat : Int) ∧ (ch.toNat : Int) = 92) by omega) with h | h | ⟨h1, h2, h3⟩
          · exact .inl h
          · exact .inr (.inl h)
          · exact .inr (.inr ⟨h1, h2, by rw [beq_iff_eq]; exact h3⟩)
        clear hcs hH
        rcases hcs2 with p2 | ⟨p3, p2⟩ | ⟨p3, p4, p2⟩
        all_goals
          go_wp2_with fail
          go_still_tail 14, (by kernel_rfl)
          change wpList _ _ _ _ _ wr.drew
          go_wp2_with (go_at_call 20; refine HW.mono ?_; clear HW; rintro e w2 ⟨rfl, hW2⟩)
          go_roundw
          case rel => exact ⟨k + 1, by go_num, by omega, Lib.hid ⟨by rw [hst2.out]; exact hW2.1, hH2.out.trans hW2.2.1⟩⟩
          case measure => simp only [intOf]; omega
    · obtain rfl : k = (mk s).size := by omega
      have hci : ¬ ((mk s).size : Int) < ((mk s).size : Int) := by omega
      have hci2 : ¬ (s.length : Int) < (s.length : Int) := by omega
      have htk : s.take (mk s).size = s := List.take_of_length_le (by rw [hms]; exact Nat.le_refl _)
      rw [htk] at hH
      have HS := string_any hH.out.1 (by omega)
      have hH2 := Lib.hid hH.out.2
      clear hH htk
      go_wp2_with fail
      refine HS.mono ?_
      clear HS
      rintro e w2 ⟨rfl, hb2⟩
      go_wp2_with fail
      go_ret
      exact ⟨rfl, hH2.out.trans hb2⟩
end Ck
end Go.Proofs.YtegplehbcdeeoaaGreatDoor
/- Findings as lines: the checker's walk. -/
namespace Go.Proofs.YtegplehbcdeeoaaGreatDoor
open Go.RowKit

namespace Ck
open Pk Pw
/-- What the tables and the library's hold. -/
structure CVars (w : World) : Prop where
  kv : KVars w
  tab : Lib.TabIs Tryz.prog w "internal/strconv.uint64pow10" .u64 Lib.pow10Tab
  kinds : ∀ k c, kindsP[k]? = some c → w.cell? ⟨0, k * 4, none⟩ = some (.string (mk c.1)) ∧ w.cell? ⟨0, k * 4 + 1, none⟩ = some (.bool c.2.1) ∧ w.cell? ⟨0, k * 4 + 2, none⟩ = some (.bool c.2.2.1) ∧ w.cell? ⟨0, k * 4 + 3, none⟩ = some (.bool c.2.2.2)
  lt3 : 0 < w.heap.size
  lt4 : 3 < w.heap.size
theorem gTab : Tryz.prog.globalNamed "internal/strconv.uint64pow10" = some 3 := by kernel_rfl
theorem var?_below {w w' : World} {B : Nat} {n : String} {g : Nat} {v : Array Value} (hb : Below B w w') (hg : Tryz.prog.globalNamed n = some g) (hB : g < B) (h : w.var? Tryz.prog n = some v) : w'.var? Tryz.prog n = some v := by
  unfold World.var? at h ⊢
  rw [hg] at h ⊢
  simp only [Option.bind_some] at h ⊢
  rw [hb.block g hB]
  exact h
theorem CVars.below {w w' : World} (h : CVars w) (hb : Below w.heap.size w w') : CVars w' := by
  refine ⟨h.kv.below hb, ?_, fun k c hk => ?_, Nat.lt_of_lt_of_le h.lt3 hb.size, Nat.lt_of_lt_of_le h.lt4 hb.size⟩
  · exact var?_below hb gTab h.lt4 h.tab
  · obtain ⟨a, b, c, d⟩ := h.kinds k c hk
    have e := hb.block _ h.lt3
    exact ⟨(World.cell?_of_block (a := ⟨_, _, none⟩) e).trans a, (World.cell?_of_block (a := ⟨_, _, none⟩) e).trans b, (World.cell?_of_block (a := ⟨_, _, none⟩) e).trans c, (World.cell?_of_block (a := ⟨_, _, none⟩) e).trans d⟩
theorem grow_below (w : World) (k : Nat) (os : Array Obj) : Below w.heap.size w (Sort.grow (w.drewN k) os) :=
  ⟨rfl, rfl, rfl, by first | (simp [Sort.grow]; done) | (simp [Sort.grow]; omega), fun i hi => by
    show ((w.drewN k).heap ++ os)[i]? = _
    rw [Array.getElem?_append_left (by show i < w.heap.size; omega)]
    rfl⟩
theorem itoa_any (n : Int) (h0 : -9223372036854775808 ≤ n) (h1 : n ≤ 9223372036854775807) (w : World) (hv : CVars w) : Calls Tryz.prog 21 #[.int .i64 n] w fun e w' => e = .returned (.string (mk (Lib.itoa n))) ∧ Below w.heap.size w w' := by
  refine (Tryz.strconv_Itoa n h0 h1 w hv.tab).mono ?_
  rintro e w' ⟨rfl, k, os, rfl⟩
  exact ⟨rfl, grow_below w k os⟩
theorem take_line {l : List Fi} {k : Nat} {f : Fi} (h : l[k]? = some f) : printP (l.take (k + 1)) = printP (l.take k) ++ lineP f := by
  unfold printP
  rw [List.take_add_one, h, List.flatMap_append]
  simp
/-- A finding whose numbers are ints. -/
def Fi.In (f : Fi) : Prop := (-9223372036854775808 ≤ f.kind ∧ f.kind ≤ 9223372036854775807) ∧ (-9223372036854775808 ≤ f.inode ∧ f.inode ≤ 9223372036854775807) ∧ (-9223372036854775808 ≤ f.block ∧ f.block ≤ 9223372036854775807)
theorem kind_word : ∀ K : Fin 19, 1 ≤ K.val → (kindP K.val).1 ≠ [] ∧ (kindP K.val).1.length ≤ 7 ∧ kindsP[K.val]? = some (kindP K.val) := by decide +kernel
theorem lineP_len (f : Fi) (h : f.In) : (lineP f).length ≤ 100 + 4 * f.name.length := by
  obtain ⟨_, h1, h2⟩ := h
  have a := Lib.itoa_length_le f.inode h1.1 h1.2
  have b := Lib.itoa_length_le f.block h2.1 h2.2
  have c := shownP_len f.name
  unfold lineP
  split
  · simp; omega
  · rename_i hk
    have hw := (kind_word ⟨f.kind.toNat, by omega⟩ (by show 1 ≤ f.kind.toNat; omega)).2.1
    dsimp only at hw
    simp only [List.length_append]
    split <;> split <;> split <;> simp <;> omega
set_option maxRecDepth 100000 in
set_option maxHeartbeats 4000000 in
theorem print_any (l : List Fi) (ao : Option Addr) (cap : Nat) (w : World) (hl : l.length ≤ 100000000000) (hin : ∀ f ∈ l, f.In) (hs : FAt w ao l) (hv : CVars w) (hlen : ∀ k, (printP (l.take k)).length ≤ 100000000000) (hnm : ∀ f ∈ l, f.name.length ≤ 10000000000) :
    Calls Tryz.prog 11 #[.slice ao l.length cap] w fun e w' => e = .returned (.string (mk (printP l))) ∧ Below w.heap.size w w' := by
  have hS := Lib.hid hs
  have hI := Lib.hid hin
  have hV := Lib.hid hv
  have hL := Lib.hid hlen
  have hM := Lib.hid hnm
  clear hs hin hv hlen hnm
  go_enter Tryz.func11, Tryz.ntmps11
  go_wp2_with fail
  have hB0 := Bld.fresh w.heap.size w
  have hb0 := (Below.refl w.heap.size w).alloc (Nat.le_refl _) (.cells #[.pointer none, .slice none 0 0] 48)
  generalize w.alloc (.cells #[.pointer none, .slice none 0 0] 48) = w0 at *
  go_loopw [9] (fun iv wr => ∃ k : Nat, iv = .int .i64 k ∧ k ≤ l.length ∧ Hid (Bld w.heap.size w.heap.size [] (printP (l.take k)) wr ∧ Below w.heap.size w wr)) (fun iv _ => l.length - (intOf iv).toNat)
  case atStart => exact ⟨0, rfl, Nat.zero_le _, Lib.hid ⟨hB0, hb0⟩⟩
  case round =>
    obtain ⟨k, rfl, hk, hH⟩ := hrel
    by_cases c : k < l.length
    · have hci : (k : Int) < (l.length : Int) := by omega
      obtain ⟨f, hf⟩ : ∃ f, l[k]? = some f := ⟨_, List.getElem?_eq_getElem c⟩
      have hmem := List.mem_of_getElem? hf
      obtain ⟨⟨i1, i2⟩, ⟨i3, i4⟩, ⟨i5, i6⟩⟩ := hI.out f hmem
      have hnl := hM.out f hmem
      have hPl := hL.out k
      obtain ⟨g, o, rfl, e0, e1, e2, e3⟩ := hS.out.at' hH.out.2 hf
      have htl := Lib.hid (take_line hf)
      have hst := store_new wr 34 #[.int .i64 0, .int .i64 0, .int .i64 0, .string (mk [])] #[.int .i64 f.kind, .int .i64 f.inode, .int .i64 f.block, .string (mk f.name)] (by kernel_rfl) rfl (by simp [Value.oneCell'])
      have hT := Blk.new wr #[.int .i64 f.kind, .int .i64 f.inode, .int .i64 f.block, .string (mk f.name)] 34
      have hBel := hH.out.2.alloc hH.out.2.size (.cells #[.int .i64 f.kind, .int .i64 f.inode, .int .i64 f.block, .string (mk f.name)] 34)
      have hBld := hH.out.1.more (.cells #[.int .i64 f.kind, .int .i64 f.inode, .int .i64 f.block, .string (mk f.name)] 34)
      have hline := Lib.hid (show lineP f = _ from rfl)
      have hVT := hV.out.below hBel
      have hT1s := alloc_size wr (.cells #[.int .i64 f.kind, .int .i64 f.inode, .int .i64 f.block, .string (mk f.name)] 34)
      generalize printP (l.take k) = P at *
      obtain ⟨T, hTT⟩ : ∃ T, T = wr.heap.size := ⟨_, rfl⟩
      obtain ⟨V, hVV⟩ : ∃ V, V = wr.alloc (.cells #[.int .i64 f.kind, .int .i64 f.inode, .int .i64 f.block, .string (mk f.name)] 34) := ⟨_, rfl⟩
      rw [← hVV] at hst hT hBel hBld hVT hT1s
      have x0 := hT.cell 0
      have hx0 : (#[Value.int .i64 f.kind, .int .i64 f.inode, .int .i64 f.block, .string (mk f.name)] : Array Value)[0]? = some (.int .i64 f.kind) := rfl
      rw [hx0] at x0
      clear hf hmem hVV hT1s hH
      by_cases hbad : f.kind < 1 ∨ 18 < f.kind
      · have hl1 := Lib.hid (show lineP f = [63, 10] by unfold lineP; rw [if_pos hbad])
        have hbad2 : f.kind < 1 ∨ (¬ f.kind < 1 ∧ (19 : Int) ≤ f.kind) := by omega
        clear hbad hline hVT
        rcases hbad2 with h1 | ⟨h1, h2⟩
        all_goals
          have HW := write_str hBld (Nat.le_refl _) [63, 10] (by simp) (by simp; omega)
          rw [show mk [63, 10] = (⟨#[63, 10]⟩ : ByteArray) from rfl] at HW
          have hBel' := Lib.hid hBel
          clear hBel hBld hT
          go_wp2_with (first | (refine wpList_store_run _ rfl (.tmp 5) (.tmp 12) 34 rfl _ hst ?_) | (go_at_call 20; go_must (refine HW.mono ?_); clear HW; rintro e w2 ⟨rfl, hW2⟩))
          go_roundw
          case rel => exact ⟨k + 1, by go_num, by omega, Lib.hid ⟨by rw [htl.out, hl1.out]; exact hW2.1.drop, hBel'.out.trans hW2.2.1⟩⟩
          case measure => simp only [intOf]; omega
      · obtain ⟨K, hK⟩ : ∃ K : Nat, f.kind = K := ⟨f.kind.toNat, by omega⟩
        have hKb : 1 ≤ K ∧ K < 19 := by omega
        obtain ⟨hw1, hw2, hw3⟩ := kind_word ⟨K, hKb.2⟩ hKb.1
        dsimp only at hw1 hw2 hw3
        obtain ⟨k0, k1, k2, k3⟩ := hVT.kinds K _ hw3
        have hl1 := Lib.hid (show lineP f = (kindP K).1 ++ (if (kindP K).2.1 then 32 :: Lib.itoa f.inode else []) ++ (if (kindP K).2.2.1 then 32 :: Lib.itoa f.block else []) ++ (if (kindP K).2.2.2 then 32 :: shownP f.name else []) ++ [10] by
          unfold lineP
          rw [if_neg hbad, hK, Int.toNat_natCast])
        have hIa := fun W (hv : CVars W) => itoa_any f.inode i3 i4 W hv
        have hIb := fun W (hv : CVars W) => itoa_any f.block i5 i6 W hv
        have hSn := fun W => shown_any f.name (by omega) W
        have hla := Lib.itoa_length_le f.inode i3 i4
        have hlb := Lib.itoa_length_le f.block i5 i6
        have hln := shownP_len f.name
        have hb1 : ¬ f.kind < 1 := by omega
        have hb2 : ¬ (19 : Int) ≤ f.kind := by omega
        have hb3 : ¬ f.kind < 0 := by omega
        have hb4 : f.kind < 19 := by omega
        rw [hK] at hst hT hb1 hb2 hb3 hb4 x0 e0
        clear hbad hline hK
        generalize kindP K = kc at *
        obtain ⟨wd, bi, bb, bn⟩ := kc
        dsimp only at hw1 hw2 k0 k1 k2 k3 hl1
        generalize f.inode = fi at *
        generalize f.block = fb at *
        generalize f.name = fn at *
        generalize lineP f = lp at *
        have hst2 := store_new V 54 #[.string (mk []), .bool false, .bool false, .bool false] #[.string (mk wd), .bool bi, .bool bb, .bool bn] (by kernel_rfl) rfl (by simp [Value.oneCell'])
        have hT2 := Blk.new V #[.string (mk wd), .bool bi, .bool bb, .bool bn] 54
        have hTa := hT.alloc (.cells #[.string (mk wd), .bool bi, .bool bb, .bool bn] 54)
        have hBel2 := hBel.alloc hBel.size (.cells #[.string (mk wd), .bool bi, .bool bb, .bool bn] 54)
        have hBld2 := hBld.more (.cells #[.string (mk wd), .bool bi, .bool bb, .bool bn] 54)
        obtain ⟨V2, hV2⟩ : ∃ V2, V2 = V.alloc (.cells #[.string (mk wd), .bool bi, .bool bb, .bool bn] 54) := ⟨_, rfl⟩
        obtain ⟨T2, hTT2⟩ : ∃ T, T = V.heap.size := ⟨_, rfl⟩
        rw [← hV2] at hst2 hT2 hTa hBel2 hBld2
        have hZ := Lib.hid (And.intro hT2 (And.intro hTa (And.intro hBel2 hBld2)))
        have y0 := hT2.cell 0
        have hy0 : (#[Value.string (mk wd), .bool bi, .bool bb, .bool bn] : Array Value)[0]? = some (.string (mk wd)) := rfl
        rw [hy0] at y0
        clear hT hT2 hTa hBel hBel2 hBld hBld2 hV2 hVT hTT hTT2 hx0 hy0 i1 i2 i3 i4 i5 i6
        have hmwd := mk_size wd
        have hnw := hw1
        go_wp2_with (first | (refine wpList_store_run _ rfl (.tmp 5) (.tmp 12) 34 rfl _ hst ?_) | (refine wpList_store_run _ rfl (.tmp 6) (.tmp 25) 54 rfl _ hst2 ?_))
        obtain ⟨hT2, hT, hBel, hBld⟩ := hZ.out
        have sa : (⟨#[32]⟩ : ByteArray) ++ mk (Lib.itoa fi) = mk (32 :: Lib.itoa fi) := mk_add [32] (Lib.itoa fi)
        have sb : (⟨#[32]⟩ : ByteArray) ++ mk (Lib.itoa fb) = mk (32 :: Lib.itoa fb) := mk_add [32] (Lib.itoa fb)
        have sn : (⟨#[32]⟩ : ByteArray) ++ mk (shownP fn) = mk (32 :: shownP fn) := mk_add [32] (shownP fn)
        have za := mk_size (Lib.itoa fi)
        have zb := mk_size (Lib.itoa fb)
        have zn := mk_size (shownP fn)
        have ga : ¬ (9223372036854775807 < 1 + (Lib.itoa fi).length) := by omega
        have gb : ¬ (9223372036854775807 < 1 + (Lib.itoa fb).length) := by omega
        have gn : ¬ (9223372036854775807 < 1 + (shownP fn).length) := by omega
        clear hZ hst hst2 e0 e1 e2 e3 k0 k1 k2 k3 x0 y0
        generalize Lib.itoa fi = si at *
        generalize Lib.itoa fb = sj at *
        generalize shownP fn = sm at *
        generalize wr.heap.size = T at *
        generalize V.heap.size = T2 at *
        refine (write_str hBld (Nat.le_refl _) wd hnw (by omega)).mono ?_
        rintro e V3 ⟨rfl, hBld3, hbB, hkp⟩
        replace hT := hT.same (hkp T (by simp))
        replace hT2 := hT2.same (hkp T2 (by simp))
        replace hBel := hBel.trans hbB
        clear hkp hbB hBld
        have hBld := hBld3
        clear hBld3
        cases bi <;> cases bb <;> cases bn
        all_goals
          have x1 : V3.cell? ⟨T, 1, none⟩ = some (.int .i64 fi) := hT.cell 1
          have x2 : V3.cell? ⟨T, 2, none⟩ = some (.int .i64 fb) := hT.cell 2
          have x3 : V3.cell? ⟨T, 3, none⟩ = some (.string (mk fn)) := hT.cell 3
          have y1 := hT2.cell 1
          have y2 := hT2.cell 2
          have y3 := hT2.cell 3
          simp only [List.getElem?_toArray, List.getElem?_cons_succ, List.getElem?_cons_zero] at y1 y2 y3
          go_wp2_with (first
            | (go_at_call 20; go_must (refine (write_str hBld (Nat.le_refl _) _ (by simp) (by simp; omega)).mono ?_; rintro e V2 ⟨rfl, hBldN, hbB, hkp⟩; replace hT := hT.same (hkp T (by simp)); replace hT2 := hT2.same (hkp T2 (by simp)); replace hBel := hBel.trans hbB; clear hkp hbB hBld x1 x2 x3 y1 y2 y3; have hBld := hBldN; clear hBldN; have x1 : V2.cell? ⟨T, 1, none⟩ = some (.int .i64 fi) := hT.cell 1; have x2 : V2.cell? ⟨T, 2, none⟩ = some (.int .i64 fb) := hT.cell 2; have x3 : V2.cell? ⟨T, 3, none⟩ = some (.string (mk fn)) := hT.cell 3; have y1 := hT2.cell 1; have y2 := hT2.cell 2; have y3 := hT2.cell 3; simp only [List.getElem?_toArray, List.getElem?_cons_succ, List.getElem?_cons_zero] at y1 y2 y3))
            | (go_at_call 21; (with_reducible refine (hIa _ (hV.out.below hBel)).mono ?_); rintro e V2 ⟨rfl, hb⟩; replace hBld := hBld.below hb; replace hT := hT.same (hb.block _ hT.lt); replace hT2 := hT2.same (hb.block _ hT2.lt); replace hBel := hBel.trans (hb.mono hBel.size); clear hb x1 x2 x3 y1 y2 y3; have x1 : V2.cell? ⟨T, 1, none⟩ = some (.int .i64 fi) := hT.cell 1; have x2 : V2.cell? ⟨T, 2, none⟩ = some (.int .i64 fb) := hT.cell 2; have x3 : V2.cell? ⟨T, 3, none⟩ = some (.string (mk fn)) := hT.cell 3; have y1 := hT2.cell 1; have y2 := hT2.cell 2; have y3 := hT2.cell 3; simp only [List.getElem?_toArray, List.getElem?_cons_succ, List.getElem?_cons_zero] at y1 y2 y3)
            | (go_at_call 21; (with_reducible refine (hIb _ (hV.out.below hBel)).mono ?_); rintro e V2 ⟨rfl, hb⟩; replace hBld := hBld.below hb; replace hT := hT.same (hb.block _ hT.lt); replace hT2 := hT2.same (hb.block _ hT2.lt); replace hBel := hBel.trans (hb.mono hBel.size); clear hb x1 x2 x3 y1 y2 y3; have x1 : V2.cell? ⟨T, 1, none⟩ = some (.int .i64 fi) := hT.cell 1; have x2 : V2.cell? ⟨T, 2, none⟩ = some (.int .i64 fb) := hT.cell 2; have x3 : V2.cell? ⟨T, 3, none⟩ = some (.string (mk fn)) := hT.cell 3; have y1 := hT2.cell 1; have y2 := hT2.cell 2; have y3 := hT2.cell 3; simp only [List.getElem?_toArray, List.getElem?_cons_succ, List.getElem?_cons_zero] at y1 y2 y3)
            | (go_at_call 22; refine (hSn _).mono ?_; rintro e V2 ⟨rfl, hb⟩; replace hBld := hBld.below hb; replace hT := hT.same (hb.block _ hT.lt); replace hT2 := hT2.same (hb.block _ hT2.lt); replace hBel := hBel.trans (hb.mono hBel.size); clear hb x1 x2 x3 y1 y2 y3; have x1 : V2.cell? ⟨T, 1, none⟩ = some (.int .i64 fi) := hT.cell 1; have x2 : V2.cell? ⟨T, 2, none⟩ = some (.int .i64 fb) := hT.cell 2; have x3 : V2.cell? ⟨T, 3, none⟩ = some (.string (mk fn)) := hT.cell 3; have y1 := hT2.cell 1; have y2 := hT2.cell 2; have y3 := hT2.cell 3; simp only [List.getElem?_toArray, List.getElem?_cons_succ, List.getElem?_cons_zero] at y1 y2 y3))
          go_roundw
          case rel => exact ⟨k + 1, by go_num, by omega, Lib.hid ⟨by rw [htl.out, hl1.out]; simpa using hBld.drop, hBel⟩⟩
          case measure => simp only [intOf]; omega
    · obtain rfl : k = l.length := by omega
      have hci : ¬ (l.length : Int) < (l.length : Int) := by omega
      have hll := hL.out l.length
      rw [List.take_length] at hH hll
      have HS := string_any hH.out.1 (by omega)
      have hH2 := Lib.hid hH.out.2
      clear hH
      go_wp2_with fail
      refine HS.mono ?_
      clear HS
      rintro e w2 ⟨rfl, hb2⟩
      go_wp2_with fail
      go_ret
      exact ⟨rfl, hH2.out.trans hb2⟩
end Ck
end Go.Proofs.YtegplehbcdeeoaaGreatDoor
