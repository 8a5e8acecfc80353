/- What the program's Encode answers; the one item of the laws' own call. -/
import Derived.Test.YtnmgdlmicgbapaaDoorPInfo
import Derived.Test.YtnmgdlmicgbapaaDoorPWEnc
namespace Go.Proofs.YtnmgdlmicgbapaaDoor
open Go.RowKit Go.Maps

namespace Pw
open Pk
def ansB (l : List PItem) : List UInt8 := if right lt l then enc l else []
def ansC (l : List PItem) : Int := if right lt l then 0 else 240
theorem encode_ans (l : List PItem) (ao : Option Addr) (cap : Nat) (w : World) (hI : ItemsAt w ao l) (hs : ∀ x ∈ l, Sane x) (hl : l.length ≤ 100000000) (hel : right lt l = true → (enc l).length ≤ 19000000000000) (ht : Tabs w) :
    Calls Tryd.prog 4 #[.slice ao l.length cap] w fun e w' => ∃ a c, e = .returned (.tuple #[.slice a (ansB l).length c, .int .i64 (ansC l)]) ∧ Own w w' (.slice a (ansB l).length c) (ansB l) := by
  refine (encode_any l ao cap w hI hs hl hel ht).mono fun e w' ⟨hb, h0, h1⟩ => ?_
  unfold ansB ansC
  cases hr : right lt l with
  | false => exact ⟨none, 0, by rw [h0 hr]; rfl, World.ownsRow_nil _ _ _ _, hb⟩
  | true =>
    obtain ⟨v, he, ho⟩ := h1 hr
    obtain ⟨a, c, rfl⟩ := own_form ho.own
    exact ⟨a, c, he, ho⟩
theorem run_bytes_string {P : Program} {S T D : TypeId} (B : BytesT P S T) (hd : P.underlying D = some .string) (w : World) (base : Nat) (v : Value) (l : List UInt8) (hown : w.ownsRow base T 1 v l.length (bytesV l)) : (convert S D v).run P w = .ok (.string (mk l)) w := by
  rcases hown.2 with ⟨rfl, hn⟩ | ⟨g, cap, cur, rfl, _⟩
  · have hl : l = [] := List.length_eq_zero_iff.1 hn
    subst hl
    rw [run_convert_bytes_string w S D T none 0 0 B.und B.elem hd]
    simp [Conv.bytesToString, Sem.run_pure]
    rfl
  · refine run_convert_bytes_back w S D T ⟨g, 0, none⟩ cap l B.und B.elem hd ?_
    intro j hj
    have := hown.cellAt j (by omega)
    rw [Addr.add_lit, Nat.zero_add, this]
    simp [bytesV, hj]
/-- The one item of the third call. -/
abbrev oneI : PItem := ⟨[], 2, 0, [], [], -1⟩
theorem one_right : right lt [oneI] = true := by decide
theorem one_len : (ansB [oneI]).length = 35 ∧ ansC [oneI] = 0 := by
  unfold ansB ansC
  rw [one_right]
  exact ⟨by decide, rfl⟩
theorem one_sane : ∀ x ∈ [oneI], Sane x := by
  intro x hx
  have : x = oneI := by simpa using hx
  subst this
  exact ⟨by decide, by decide, by decide, fun p hp => (by cases hp), by decide, by decide, by decide⟩
theorem one_at (w : World) : ItemsAt (w.alloc (.cells (itemC oneI (.slice none 0 0)).toArray 29)) (some ⟨w.heap.size, 0, none⟩) [oneI] := by
  intro j x hx
  have hj : j = 0 := by have := (List.getElem?_eq_some_iff.1 hx).1; simp at this; exact this
  subst hj
  have : x = oneI := by simpa using hx.symm
  subst this
  refine ⟨w.heap.size, 0, .slice none 0 0, rfl, by simp, ⟨none, 0, rfl, fun _ => ⟨rfl, rfl⟩, by decide, Nat.zero_le _, fun j p h => by cases h⟩, fun i c hi => ?_⟩
  have := news_new w (itemC oneI (.slice none 0 0)) 29 i c hi
  rw [Addr.add_lit, Nat.zero_add] at this
  rw [Nat.zero_add, Nat.zero_mul, Nat.zero_add]
  exact this
theorem one_bytes : right lt [oneI] = true → (enc [oneI]).length ≤ 19000000000000 := fun _ => by
  have h := one_len.1
  unfold ansB at h
  rw [one_right] at h
  have h2 : (enc [oneI]).length = 35 := h
  omega
end Pw
end Go.Proofs.YtnmgdlmicgbapaaDoor
