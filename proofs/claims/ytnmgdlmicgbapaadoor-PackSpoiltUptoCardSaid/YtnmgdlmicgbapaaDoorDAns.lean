/- What both Decodes answer. No program's function in sight. -/
import Derived.Test.YtnmgdlmicgbapaaDoorDRows
import Derived.Test.YtnmgdlmicgbapaaDoorDSane
import Derived.Test.YtnmgdlmicgbapaaDoorDWRead
namespace Go.Proofs.YtnmgdlmicgbapaaDoor
open Go.RowKit Go.Maps

namespace Pw
open Pk
theorem run_string_seen {P : Program} {S T D : TypeId} (B : BytesT P S T) (hd : P.underlying D = some .string) (w : World) (ao : Option Addr) (l : List UInt8) (ca : Nat) (hs : BytesSeen w ao l) (hnil : ao = none → l.length = 0 ∧ ca = 0) : (convert S D (.slice ao l.length ca)).run P w = .ok (.string (mk l)) w := by
  have h := run_string_part B hd w ao l ca l.length hs hnil (Nat.le_refl _)
  rwa [List.take_length] at h
theorem noItems (t : TypeId) {w W : World} (h : Below w.heap.size w W) : ItemsOwn w W t [] (.slice none 0 0) [] [] := ⟨rfl, World.ownsRow_nil _ _ _ _, fun j x s h => by simp at h, h⟩
theorem run_own_string {P : Program} {S T D : TypeId} (B : BytesT P S T) (hd : P.underlying D = some .string) (w : World) (base : Nat) (v : Value) (l : List UInt8) (hown : w.ownsRow base T 1 v l.length (bytesV l)) : (convert S D v).run P w = .ok (.string (mk l)) w := by
  rcases hown.2 with ⟨rfl, hn⟩ | ⟨g, cap, cur, rfl, _⟩
  · have hl : l = [] := List.length_eq_zero_iff.1 hn
    subst hl
    rw [run_convert_bytes_string w S D T none 0 0 B.und B.elem hd]
    simp [Conv.bytesToString, Sem.run_pure]
    rfl
  · refine run_convert_bytes_back w S D T ⟨g, 0, none⟩ cap l B.und B.elem hd ?_
    intro j hj
    have := hown.cellAt j (by omega)
    rw [Addr.add_lit, Nat.zero_add, this]
    simp [bytesV, hj]
/-- What both answer: a list of the call's own and its error. -/
def DAns (w W : World) (t : TypeId) (b : List UInt8) (e : Ending) : Prop := ∃ v sls, e = .returned (.tuple #[v, .int .i64 (ansE b)]) ∧ ItemsOwn w W t [] v (ansL b) sls ∧ Apart sls
end Pw
end Go.Proofs.YtnmgdlmicgbapaaDoor
