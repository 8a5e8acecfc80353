/- A row of bytes that a conversion of a text has made (its block is marked behind its end): told by its cells; what is appended to it. No program's function in sight. -/
import Derived.Test.YtnmgdlmicgbapaaDoorBytes
import Derived.Test.YtnmgdlmicgbapaaDoorPItems
import Derived.Laws.NewBlocks
import Derived.Deep.Upon
import Derived.Lib.ConvBytes
namespace Go.Proofs.YtnmgdlmicgbapaaDoor
open Go.RowKit

namespace Br
theorem tape_setCells (g : Nat) : ∀ (vs : List Value) (o : Nat) (w : World), (w.setCells g o vs).tape = w.tape
  | [], _, _ => rfl
  | _ :: vs, _, _ => (tape_setCells g vs _ _).trans rfl
theorem size_setCells (g : Nat) : ∀ (vs : List Value) (o : Nat) (w : World), (w.setCells g o vs).heap.size = w.heap.size
  | [], _, _ => rfl
  | _ :: vs, _, _ => (size_setCells g vs _ _).trans (by simp)
theorem grown_setCells (w : World) (g o : Nat) (vs : List Value) : w.grownBy (w.setCells g o vs) (some g) :=
  ⟨World.os_setCells _ _ _ _, tape_setCells _ _ _ _, World.output_setCells _ _ _ _, by rw [size_setCells]; exact Nat.le_refl _, fun k hk hne => World.heap_setCells_other w g o vs hk (fun e => hne (by rw [e]))⟩
/-- Bytes in a block of the call's own, told by the cells. -/
structure BRow (base : Nat) (w : World) (g cap : Nat) (l : List UInt8) : Prop where
  new : base ≤ g
  lt : g < w.heap.size
  le : l.length ≤ cap
  max : cap ≤ maxLen
  cells : ∀ j u, (bytesV l)[j]? = some u → w.cell? ⟨g, j, none⟩ = some u
  there : ∀ j, j < cap → (w.cell? ⟨g, j, none⟩).isSome = true ∧ w.frozen? ⟨g, j, none⟩ = false
theorem BRow.below {base : Nat} {w w' : World} {g cap : Nat} {l : List UInt8} (h : BRow base w g cap l) (hb : Below w.heap.size w w') : BRow base w' g cap l where
  new := h.new
  lt := Nat.lt_of_lt_of_le h.lt hb.size
  le := h.le
  max := h.max
  cells := fun j u hj => (hb.cell (p := ⟨g, j, none⟩) h.lt).trans (h.cells j u hj)
  there := fun j hj => by
    have e := hb.block g h.lt
    rw [World.cell?_of_block (a := ⟨g, j, none⟩) e, World.frozen?_of_block (a := ⟨g, j, none⟩) e]
    exact h.there j hj
variable {P : Program} {S T : TypeId}
/-- n bytes more, out of whatever source. -/
theorem run_append (B : BytesT P S T) (tx ty : TypeId) {base : Nat} {w : World} {g cap : Nat} {l k : List UInt8} (h : BRow base w g cap l) (hbase : base ≤ w.heap.size) (x : Value) (hs : Src P 1 tx x k.length (bytesV k) w) (hlen : l.length + k.length ≤ 140737488355328) :
    ∃ g' cap' w', (Builtin.append_ #[S, tx] ty #[.slice (some ⟨g, 0, none⟩) l.length cap, x]).run P w = .ok (.slice (some ⟨g', 0, none⟩) (l ++ k).length cap') w' ∧ BRow base w' g' cap' (l ++ k) ∧ w.grownBy w' (some g) := by
  obtain ⟨i, hi, hz, hz1, hz2⟩ := info_parts B.info
  have hbl : ∀ q : List UInt8, (bytesV q).length = q.length := fun q => by simp [bytesV]
  have hget : ∀ j u, (bytesV (l ++ k))[j]? = some u → (j < l.length ∧ (bytesV l)[j]? = some u) ∨ (l.length ≤ j ∧ j - l.length < (bytesV k).length ∧ (bytesV k)[j - l.length]? = some u) := by
    intro j u hu
    rw [bytesV_app] at hu
    by_cases hj : j < l.length
    · rw [List.getElem?_append_left (by rw [hbl]; exact hj)] at hu
      exact .inl ⟨hj, hu⟩
    · rw [List.getElem?_append_right (by rw [hbl]; omega), hbl] at hu
      exact .inr ⟨by omega, (List.getElem?_eq_some_iff.1 hu).1, hu⟩
  by_cases hroom : l.length + k.length ≤ cap
  · have hsome : ∀ j, j < (bytesV k).length → (w.cell? ⟨g, 0 + l.length * i.size + j, none⟩).isSome = true := fun j hj => (h.there _ (by rw [hbl] at hj; rw [hz1]; omega)).1
    have hrun := run_append_room_src (P := P) (w := w) S tx ty T i B.und hi g 0 l.length cap x k.length (bytesV k) (by rw [hz1]; exact hs) hroom hsome (fun j hj => (h.there _ (by rw [hbl] at hj; rw [hz1]; omega)).2)
    refine ⟨g, cap, _, by rw [hrun, List.length_append], ⟨h.new, by rw [size_setCells]; exact h.lt, by rw [List.length_append]; exact hroom, h.max, ?_, ?_⟩, grown_setCells _ _ _ _⟩
    · intro j u hu
      rcases hget j u hu with ⟨hj, hu⟩ | ⟨hj, hjk, hu⟩
      · rw [World.cell?_setCells_out g _ _ _ _ (fun _ _ => Or.inl (by show j < 0 + l.length * i.size; rw [hz1]; omega))]
        exact h.cells j u hu
      · have := World.cell?_setCells_in g (bytesV k) (0 + l.length * i.size) w hsome (j - l.length) hjk
        rw [show 0 + l.length * i.size + (j - l.length) = j by rw [hz1]; omega] at this
        rw [this, ← hu, List.getElem?_eq_getElem hjk]
    · intro j hj
      refine ⟨?_, (World.frozen?_setCells g _ _ _ _).trans (h.there j hj).2⟩
      by_cases hin : l.length ≤ j ∧ j < l.length + k.length
      · have := World.cell?_setCells_in g (bytesV k) (0 + l.length * i.size) w hsome (j - l.length) (by rw [hbl]; omega)
        rw [show 0 + l.length * i.size + (j - l.length) = j by rw [hz1]; omega] at this
        rw [this]; rfl
      · rw [World.cell?_setCells_out g _ _ _ _ (fun _ _ => by show j < 0 + l.length * i.size ∨ 0 + l.length * i.size + (bytesV k).length ≤ j; rw [hbl, hz1]; omega)]
        exact (h.there j hj).1
  · have hm : l.length + k.length ≤ maxLen := by unfold maxLen; omega
    have hrun := run_append_grow_src (P := P) (w := w) S tx ty T i (.int .u8 0) B.und hi hz (some ⟨g, 0, none⟩) l.length cap (bytesV l) (run_firstCells_some w.drew i.size l.length ⟨g, 0, none⟩ l.length cap (bytesV l) (by rw [hbl, hz1, Nat.mul_one]) (fun j u hu => by rw [Addr.add_lit, Nat.zero_add]; exact h.cells j u hu)) x k.length (bytesV k) (by rw [hz1]; exact hs) (by omega) (by omega) (growslice_fits (by omega) (by rw [hz2]; omega))
    have hge := grownCap_ge w (l.length + k.length) cap T
    have hcm := grownCap_le_maxLen w (l.length + k.length) cap T hm
    have hblk : ∀ q, q < w.heap.size → (w.drew.alloc (.cells ((bytesV l ++ bytesV k).toArray ++ Builtin.zeroCells (Value.int .u8 0).cells (grownCap w (l.length + k.length) cap T - (l.length + k.length))) T)).heap[q]? = w.heap[q]? := fun q hq => Below.heap_alloc w.drew _ q hq
    have hc1 : ∀ j, (w.drew.alloc (.cells ((bytesV l ++ bytesV k).toArray ++ Builtin.zeroCells (Value.int .u8 0).cells (grownCap w (l.length + k.length) cap T - (l.length + k.length))) T)).cell? ⟨w.heap.size, j, none⟩ = ((bytesV l ++ bytesV k).toArray ++ Builtin.zeroCells (Value.int .u8 0).cells (grownCap w (l.length + k.length) cap T - (l.length + k.length)))[j]? := fun j => World.cell?_alloc_new w.drew _ _ j
    refine ⟨w.heap.size, _, w.drew.alloc (.cells ((bytesV l ++ bytesV k).toArray ++ Builtin.zeroCells (Value.int .u8 0).cells (grownCap w (l.length + k.length) cap T - (l.length + k.length))) T), by rw [hrun, List.length_append], ⟨hbase, by simp, by rw [List.length_append]; exact hge, hcm, ?_, ?_⟩, ⟨rfl, rfl, rfl, by simp, fun q hq _ => hblk q hq⟩⟩
    · intro j u hu
      rw [bytesV_app] at hu
      rw [hc1 j, Array.getElem?_append_left (by simpa using (List.getElem?_eq_some_iff.1 hu).1), List.getElem?_toArray]
      exact hu
    · intro j hj
      refine ⟨?_, World.frozen?_alloc_new w.drew _ _ j⟩
      rw [hc1 j]
      have hsz : ((bytesV l ++ bytesV k).toArray ++ Builtin.zeroCells (Value.int .u8 0).cells (grownCap w (l.length + k.length) cap T - (l.length + k.length))).size = grownCap w (l.length + k.length) cap T := by
        rw [Array.size_append, List.size_toArray, List.length_append, hbl, hbl, size_zeroCells]
        show l.length + k.length + (grownCap w (l.length + k.length) cap T - (l.length + k.length)) * 1 = _
        omega
      rw [Array.getElem?_eq_getElem (by rw [hsz]; exact hj)]
      rfl
end Br
end Go.Proofs.YtnmgdlmicgbapaaDoor
