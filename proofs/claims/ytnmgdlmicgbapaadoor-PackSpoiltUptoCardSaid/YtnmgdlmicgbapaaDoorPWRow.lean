/- Bytes that a call owns, beside an item's box: put, low, append of a text keep both. -/
import Derived.Test.YtnmgdlmicgbapaaDoorPWItem
import Derived.Test.YtnmgdlmicgbapaaDoorPWPut
import Derived.Test.YtnmgdlmicgbapaaDoorPZeros
import Derived.Lib.AppendZeros
namespace Go.Proofs.YtnmgdlmicgbapaaDoor
open Go.RowKit

namespace Pw
open Pk
/-- What the program's tables hold, and that they lie below. -/
structure Tabs (w : World) : Prop where
  half : PVars w
  halfLt : 0 < w.heap.size
  widths : ∀ wd, isW wd → w.cell? ⟨1, wd, none⟩ = some (.bool true)
  widthsLt : 1 < w.heap.size
  maxLen : ∃ m, w.cell? ⟨2, 0, none⟩ = some (.int .i64 m)
  maxLenLt : 2 < w.heap.size
theorem Tabs.below {w w' : World} {B : Nat} (h : Tabs w) (hb : Below B w w') (hB : 0 < B ∧ 1 < B ∧ 2 < B) : Tabs w' := by
  have hs := hb.size
  refine ⟨⟨fun k hk => (hb.cell (p := ⟨_, k, none⟩) hB.1).trans (h.half.half k hk)⟩, Nat.lt_of_lt_of_le h.halfLt hs, fun wd hw => (hb.cell (p := ⟨_, wd, none⟩) hB.2.1).trans (h.widths wd hw), Nat.lt_of_lt_of_le h.widthsLt hs, ?_, Nat.lt_of_lt_of_le h.maxLenLt hs⟩
  obtain ⟨m, hm⟩ := h.maxLen
  exact ⟨m, (hb.cell (p := ⟨_, 0, none⟩) hB.2.2).trans hm⟩
theorem Tabs.all {w w' : World} (h : Tabs w) (hb : Below w.heap.size w w') : Tabs w' := h.below hb ⟨h.halfLt, h.widthsLt, h.maxLenLt⟩
/-- Bytes of the call's own. -/
structure Own (w0 W : World) (v : Value) (L : List UInt8) : Prop where
  own : W.ownsRow w0.heap.size 5 1 v L.length (bytesV L)
  below : Below w0.heap.size w0 W
theorem Own.app {w0 W W' : World} {v v' : Value} {L L' : List UInt8} (h : Own w0 W v L) (ho : W'.ownsRow w0.heap.size 5 1 v' L'.length (bytesV L')) (ha : Apps W W' v v') : Own w0 W' v' L' :=
  ⟨ho, ha.below h.below h.below.size fun j e => (h.own.lt j e).1⟩
/-- .. beside an item's box. -/
structure Row (w0 W : World) (v : Value) (L : List UInt8) (b : Nat) (x : PItem) (sl : Value) : Prop extends Own w0 W v L where
  shun : v.ownBlock ≠ some b
  lt : b < W.heap.size
  box : BoxAt W b x sl
theorem Row.app {w0 W W' : World} {v v' : Value} {L L' : List UInt8} {b : Nat} {x : PItem} {sl : Value} (h : Row w0 W v L b x sl) (ho : W'.ownsRow w0.heap.size 5 1 v' L'.length (bytesV L')) (ha : Apps W W' v v') : Row w0 W' v' L' b x sl := by
  refine ⟨h.toOwn.app ho ha, ?_, Nat.lt_of_lt_of_le h.lt ha.grown.size, fun i c hi => (World.cell?_of_block (a := ⟨b, i, none⟩) (ha.grown.block b h.lt fun e => h.shun e.symm)).trans (h.box i c hi)⟩
  rcases ha.at' with e | ⟨g, e, hg⟩
  · rw [e]; exact h.shun
  · rw [e]; intro e2; cases e2; exact absurd h.lt (by omega)
theorem Row.drew {w0 W : World} {v : Value} {L : List UInt8} {b : Nat} {x : PItem} {sl : Value} (h : Row w0 W v L b x sl) : Row w0 W.drew v L b x sl :=
  ⟨⟨h.own.drew, h.below.drew⟩, h.shun, h.lt, h.box⟩
theorem put_own {w0 W : World} {v : Value} {L : List UInt8} (h : Own w0 W v L) (ht : Tabs w0) (wd : Nat) (z : Int) (hwd : isW wd) (hz : 0 ≤ z ∧ z < 256 ^ wd) (hl : L.length ≤ 100000000000000) :
    Calls Tryd.prog 8 #[v, .int .i64 wd, .int .i64 z] W fun e w' => ∃ v', e = .returned v' ∧ w'.ownsRow w0.heap.size 5 1 v' (L ++ low wd z.toNat).length (bytesV (L ++ low wd z.toNat)) ∧ Apps W w' v v' := by
  obtain ⟨n, rfl⟩ : ∃ n : Nat, z = n := ⟨z.toNat, by omega⟩
  rw [Int.toNat_natCast]
  refine put_any L v n wd w0.heap.size W hwd ?_ hl h.below.size ht.widthsLt ((h.below.cell (p := ⟨_, wd, none⟩) ht.widthsLt).trans (ht.widths wd hwd)) h.own
  have := hz.2
  rcases hwd with rfl | rfl | rfl <;> omega
theorem put_row {w0 W : World} {v : Value} {L : List UInt8} {b : Nat} {x : PItem} {sl : Value} (h : Row w0 W v L b x sl) (ht : Tabs w0) (wd : Nat) (z : Int) (hwd : isW wd) (hz : 0 ≤ z ∧ z < 256 ^ wd) (hl : L.length ≤ 100000000000000) :
    Calls Tryd.prog 8 #[v, .int .i64 wd, .int .i64 z] W fun e w' => ∃ v', e = .returned v' ∧ Row w0 w' v' (L ++ low wd z.toNat) b x sl :=
  (put_own h.toOwn ht wd z hwd hz hl).mono fun _ _ ⟨v', he, ho, ha⟩ => ⟨v', he, h.app ho ha⟩
/-- 'b = append(b, s...)', s a text. -/
theorem wpList_text_row {w0 W : World} {v : Value} {L : List UInt8} {b : Nat} {x : PItem} {sl : Value} (hR : Row w0 W v L b x sl) {ops : Array Oper} {rest : List Oper} {o : Oper} {a : Act} {Q : Exit → Act → World → Prop} (hgd : o.guard = none) (s t : Operand)
    (ho : o.op = .call { callee := .builtin .append, args := #[s, t], argTypes := #[23, 9] }) (k : List UInt8) (hs : a.eval s = v) (ht : a.eval t = .string (mk k)) (hl : L.length + k.length ≤ 140737488355328)
    (h : ∀ v' w', Row w0 w' v' (L ++ k) b x sl → wpList Tryd.prog ops Q rest (a.put o.dst v') w') : wpList Tryd.prog ops Q (o :: rest) a W := by
  obtain ⟨v', w', hr, ho', hg, hat⟩ := run_append_own_text (P := Tryd.prog) byT Tryd.underlying9 o.type hR.own k hl hR.below.size
  exact Lib.wpList_append_run W hgd s t _ _ ho _ _ hs ht _ _ hr (h _ _ (hR.app ho' ⟨hg, hat⟩))
theorem step_text_row {w0 W : World} {v : Value} {L : List UInt8} {b : Nat} {x : PItem} {sl : Value} (hR : Row w0 W v L b x sl) {ops : Array Oper} {o : Oper} {a : Act} {K : Act → World → Prop} {Q : Exit → Act → World → Prop} {E : Prop} (hgd : o.guard = none) (s t : Operand)
    (ho : o.op = .call { callee := .builtin .append, args := #[s, t], argTypes := #[23, 9] }) (k : List UInt8) (hs : a.eval s = v) (ht : a.eval t = .string (mk k)) (hl : L.length + k.length ≤ 140737488355328)
    (h : ∀ v' w', Row w0 w' v' (L ++ k) b x sl → K (a.put o.dst v') w') : if Region.wanted o (yielded ops a.tmps) = true then Oper.wp Tryd.prog o a W K Q else E := by
  rw [if_pos (by simp [Region.wanted, hgd])]
  obtain ⟨v', w', hr, ho', hg, hat⟩ := run_append_own_text (P := Tryd.prog) byT Tryd.underlying9 o.type hR.own k hl hR.below.size
  exact Lib.wp_append_run W s t _ _ ho _ _ hs ht _ _ hr (h _ _ (hR.app ho' ⟨hg, hat⟩))
end Pw
end Go.Proofs.YtnmgdlmicgbapaaDoor
