/- Items and their pieces, where they lie. No program's function in sight. -/
import Derived.Test.YtnmgdlmicgbapaaDoorPEnc
import Derived.Test.YtnmgdlmicgbapaaDoorBytes
namespace Go.Proofs.YtnmgdlmicgbapaaDoor
open Go.RowKit

namespace Pw
open Pk
/-- Numbers, where they lie. -/
def IntsAt (w : World) (v : Value) (ps : List Int) : Prop :=
  ∃ ao cap, v = .slice ao ps.length cap ∧ (ao = none → ps.length = 0 ∧ cap = 0) ∧ ps.length ≤ cap ∧ cap ≤ maxLen ∧ ∀ j p, ps[j]? = some p → ∃ g o, ao = some ⟨g, o, none⟩ ∧ g < w.heap.size ∧ w.cell? ⟨g, o + j, none⟩ = some (.int .i64 p)
theorem IntsAt.keep {w w' : World} {v : Value} {ps : List Int} (h : IntsAt w v ps) (hs : w.heap.size ≤ w'.heap.size) (hc : ∀ g o p, g < w.heap.size → w.cell? ⟨g, o, none⟩ = some (.int .i64 p) → w'.cell? ⟨g, o, none⟩ = some (.int .i64 p)) : IntsAt w' v ps := by
  obtain ⟨ao, cap, rfl, h1, h2, h3, h4⟩ := h
  refine ⟨ao, cap, rfl, h1, h2, h3, fun j p hp => ?_⟩
  obtain ⟨g, o, e, hg, hcell⟩ := h4 j p hp
  exact ⟨g, o, e, by omega, hc g _ p hg hcell⟩
theorem IntsAt.below {w w' : World} {v : Value} {ps : List Int} (h : IntsAt w v ps) (hb : Below w.heap.size w w') : IntsAt w' v ps :=
  h.keep hb.size fun _ o _ hg hc => (hb.cell (p := ⟨_, o, none⟩) hg).trans hc
theorem IntsAt.alloc {w : World} {v : Value} {ps : List Int} (h : IntsAt w v ps) (o : Obj) : IntsAt (w.alloc o) v ps := h.below ((Below.refl _ _).alloc (Nat.le_refl _) _)
/-- An item as a value. -/
def itemV (x : PItem) (sl : Value) : Value := .agg #[.string (mk x.path), .int .i64 x.kind, .int .i64 x.size, .string (mk x.data), sl, .int .i64 x.same]
/-- .. and its cells. -/
def itemC (x : PItem) (sl : Value) : List Value := [.string (mk x.path), .int .i64 x.kind, .int .i64 x.size, .string (mk x.data), sl, .int .i64 x.same]
/-- Items, where they lie. -/
def ItemsAt (w : World) (ao : Option Addr) (l : List PItem) : Prop :=
  ∀ j x, l[j]? = some x → ∃ g o sl, ao = some ⟨g, o, none⟩ ∧ g < w.heap.size ∧ IntsAt w sl x.pieces ∧ ∀ i c, (itemC x sl)[i]? = some c → w.cell? ⟨g, o + (j * 6 + i), none⟩ = some c
theorem ItemsAt.below {w w' : World} {ao : Option Addr} {l : List PItem} (h : ItemsAt w ao l) (hb : Below w.heap.size w w') : ItemsAt w' ao l := by
  intro j x hx
  obtain ⟨g, o, sl, e, hg, hp, hc⟩ := h j x hx
  exact ⟨g, o, sl, e, by have := hb.size; omega, hp.below hb, fun i c hi => (hb.cell (p := ⟨g, _, none⟩) hg).trans (hc i c hi)⟩
/-- What an item's numbers and texts may be. -/
structure Sane (x : PItem) : Prop where
  kind : -9223372036854775808 ≤ x.kind ∧ x.kind ≤ 9223372036854775807
  size : -9223372036854775808 ≤ x.size ∧ x.size ≤ 9223372036854775807
  same : -9223372036854775808 ≤ x.same ∧ x.same ≤ 9223372036854775807
  pieces : ∀ p ∈ x.pieces, -9223372036854775808 ≤ p ∧ p ≤ 9223372036854775807
  path : x.path.length ≤ 100000000
  data : x.data.length ≤ 100000000
  many : x.pieces.length ≤ 100000000
end Pw
end Go.Proofs.YtnmgdlmicgbapaaDoor
