/- Blocks of one type. No program in sight. -/
import Derived.Test.YtnmgdlmicgbapaaDoorGen
import Derived.Laws.Rows
namespace Go.Proofs.YtnmgdlmicgbapaaDoor
open Go.RowKit

namespace Pw
/-- A block of one type, nothing in it frozen. -/
def Blk (W : World) (b : Nat) (t : TypeId) : Prop := ∃ cs, W.heap[b]? = some (.cells cs t (0, 0))
theorem Blk.lt {W : World} {b : Nat} {t : TypeId} (h : Blk W b t) : b < W.heap.size := by obtain ⟨cs, h⟩ := h; exact (Array.getElem?_eq_some_iff.1 h).1
theorem Blk.kept {W W' : World} {b : Nat} {t : TypeId} {row : Option Nat} (h : Blk W b t) (hg : W.grownBy W' row) (hne : some b ≠ row) : Blk W' b t := by
  have hl := h.lt
  obtain ⟨cs, hc⟩ := h
  exact ⟨cs, (hg.block b hl hne).trans hc⟩
theorem Blk.set {W : World} {b : Nat} {t : TypeId} (h : Blk W b t) (j i : Nat) (v : Value) : Blk (W.setCell ⟨j, i, none⟩ v) b t := by
  obtain ⟨cs, hc⟩ := h
  by_cases e : j = b
  · subst e; exact ⟨_, heap_setCell_same W j i cs t v hc⟩
  · exact ⟨cs, (Below.heap_setCell _ _ _ b (fun e2 => e e2.symm)).trans hc⟩
theorem Blk.new (W : World) (cs : Array Value) (t : TypeId) : Blk (W.alloc (.cells cs t)) W.heap.size t := ⟨cs, heap_alloc_new W _⟩
theorem grown_alloc (W : World) (o : Obj) : W.grownBy (W.alloc o) none :=
  have h := (Below.refl W.heap.size W).alloc (Nat.le_refl _) o
  ⟨h.os, h.tape, h.output, h.size, fun k hk _ => h.block k hk⟩
theorem Blk.alloc {W : World} {b : Nat} {t : TypeId} (h : Blk W b t) (o : Obj) : Blk (W.alloc o) b t := h.kept (grown_alloc W o) (by simp)
theorem Blk.fro {W : World} {b : Nat} {t : TypeId} (h : Blk W b t) (i : Nat) : W.frozen? ⟨b, i, none⟩ = false := by obtain ⟨cs, hc⟩ := h; simp [World.frozen?, hc]
/-- A row of another type lies elsewhere. -/
theorem Blk.ne {W : World} {j base size n : Nat} {t e : TypeId} {v : Value} {xs : List Value} (h : Blk W j t) (ho : W.ownsRow base e size v n xs) (ht : t ≠ e) : v.ownBlock ≠ some j := by
  obtain ⟨cs, hc⟩ := h
  rcases ho.2 with ⟨rfl, _⟩ | ⟨g, cap, cur, rfl, _, hh, _⟩
  · intro e; cases e
  · intro e
    cases e
    rw [hc] at hh
    cases hh
    exact ht rfl
theorem grown_set (W : World) (b i : Nat) (v : Value) : W.grownBy (W.setCell ⟨b, i, none⟩ v) (some b) :=
  ⟨rfl, rfl, rfl, by simp, fun k _ hk => Below.heap_setCell _ _ _ k (fun e => hk (by rw [e]))⟩
end Pw
end Go.Proofs.YtnmgdlmicgbapaaDoor
