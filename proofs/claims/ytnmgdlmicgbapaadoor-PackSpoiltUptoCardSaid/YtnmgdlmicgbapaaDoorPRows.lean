/- Rows of items that a call made, each with its own pieces, a mark behind them where they were lent. No program's function in sight. -/
import Derived.Test.YtnmgdlmicgbapaaDoorPItems
import Derived.Test.YtnmgdlmicgbapaaDoorGen
namespace Go.Proofs.YtnmgdlmicgbapaaDoor
open Go.RowKit

namespace Pw
open Pk
def intV (ps : List Int) : List Value := ps.map (.int .i64)
/-- A slice cut to its first n. -/
def cutTo (n : Nat) : Value → Value
  | .slice a _ c => .slice a n c
  | v => v
/-- An item's pieces, the call's own, with a mark behind. -/
def IntsOwn (w : World) (base : Nat) (mk' : List Int) (s : Value) (ps : List Int) : Prop :=
  ∃ p, s = cutTo ps.length p ∧ w.ownsRow base 3 1 p (ps ++ mk').length (intV (ps ++ mk'))
def rowC : List PItem → List Value → List Value
  | x :: l, s :: r => itemC x s ++ rowC l r
  | _, _ => []
theorem itemC_len (x : PItem) (s : Value) : (itemC x s).length = 6 := rfl
theorem rowC_snoc : ∀ (l : List PItem) (r : List Value) (x : PItem) (s : Value), l.length = r.length → rowC (l ++ [x]) (r ++ [s]) = rowC l r ++ itemC x s
  | [], [], x, s, _ => by simp [rowC]
  | y :: l, t :: r, x, s, h => by
    have := rowC_snoc l r x s (by simpa using h)
    simp [rowC, this]
theorem rowC_get : ∀ (l : List PItem) (r : List Value) (j : Nat) (x : PItem) (s : Value), l[j]? = some x → r[j]? = some s → ∀ i c, (itemC x s)[i]? = some c → (rowC l r)[j * 6 + i]? = some c
  | y :: l, t :: r, 0, x, s, h1, h2, i, c, hi => by
    cases h1; cases h2
    have : i < 6 := by have := (List.getElem?_eq_some_iff.1 hi).1; exact this
    rw [rowC, Nat.zero_mul, Nat.zero_add, List.getElem?_append_left (by rw [itemC_len]; exact this)]
    exact hi
  | y :: l, t :: r, j + 1, x, s, h1, h2, i, c, hi => by
    have := rowC_get l r j x s (by simpa using h1) (by simpa using h2) i c hi
    rw [rowC, List.getElem?_append_right (by rw [itemC_len]; omega), itemC_len, show (j + 1) * 6 + i - 6 = j * 6 + i by omega]
    exact this
/-- Items in a row that the call owns. -/
structure ItemsOwn (w0 W : World) (t : TypeId) (mk' : List Int) (v : Value) (l : List PItem) (sls : List Value) : Prop where
  len : l.length = sls.length
  own : W.ownsRow w0.heap.size t 6 v l.length (rowC l sls)
  ints : ∀ (j : Nat) x s, l[j]? = some x → sls[j]? = some s → IntsOwn W w0.heap.size mk' s x.pieces
  below : Below w0.heap.size w0 W
theorem IntsOwn.kept {w w' : World} {base : Nat} {mk' : List Int} {s : Value} {ps : List Int} {row : Option Nat} {t : TypeId} {size n : Nat} {xs : List Value} {v : Value} (h : IntsOwn w base mk' s ps) (hg : w.grownBy w' row) (hv : row = v.ownBlock) (ho : w.ownsRow base t size v n xs) (ht : t ≠ 3) : IntsOwn w' base mk' s ps := by
  obtain ⟨p, hs, hp⟩ := h
  refine ⟨p, hs, hp.kept hg ?_⟩
  rcases hp.2 with ⟨rfl, _⟩ | ⟨g, cap, cur, rfl, _, hh, _⟩
  · exact .inl rfl
  · refine .inr fun e => ?_
    rw [hv] at e
    rcases ho.2 with ⟨rfl, _⟩ | ⟨g', cap', cur', rfl, _, hh', _⟩
    · cases e
    · cases e
      rw [hh] at hh'
      cases hh'
      exact ht rfl
theorem IntsOwn.grown {w w' : World} {base : Nat} {mk' : List Int} {s : Value} {ps : List Int} {B : Nat} (h : IntsOwn w base mk' s ps) (hb : Below B w w') (hB : B = w.heap.size) : IntsOwn w' base mk' s ps := by
  subst hB
  obtain ⟨p, hs, hp⟩ := h
  refine ⟨p, hs, hp.kept (row := none) ⟨hb.os, hb.tape, hb.output, hb.size, fun i hi _ => hb.block i hi⟩ ?_⟩
  cases h : p.ownBlock with
  | none => exact .inl rfl
  | some g => exact .inr (by simp)
theorem own_grown {w w' : World} {base size n : Nat} {e : TypeId} {v : Value} {xs : List Value} (h : w.ownsRow base e size v n xs) (hb : Below w.heap.size w w') : w'.ownsRow base e size v n xs := by
  refine h.kept (row := none) ⟨hb.os, hb.tape, hb.output, hb.size, fun i hi _ => hb.block i hi⟩ ?_
  cases h : v.ownBlock with
  | none => exact .inl rfl
  | some g => exact .inr (by simp)
theorem intV_len (ps : List Int) : (intV ps).length = ps.length := by simp [intV]
/-- .. as numbers that lie somewhere. -/
theorem IntsOwn.at_ {w : World} {base : Nat} {mk' : List Int} {s : Value} {ps : List Int} (h : IntsOwn w base mk' s ps) : IntsAt w s ps := by
  obtain ⟨p, rfl, hp⟩ := h
  have hll : (ps ++ mk').length = ps.length + mk'.length := List.length_append
  rcases hp.2 with ⟨rfl, h0⟩ | ⟨g, cap, cur, rfl, hb, hh, hc, hm, _⟩
  · have : ps.length = 0 := by omega
    exact ⟨none, 0, by simp [cutTo], fun _ => ⟨this, rfl⟩, by omega, Nat.zero_le _, fun j p hj => by
      have := (List.getElem?_eq_some_iff.1 hj).1; omega⟩
  · refine ⟨some ⟨g, 0, none⟩, cap, rfl, (fun e => by cases e), by omega, hm, fun j p hj => ?_⟩
    have hjl := (List.getElem?_eq_some_iff.1 hj).1
    refine ⟨g, 0, rfl, (Array.getElem?_eq_some_iff.1 hh).1, ?_⟩
    rw [Nat.zero_add, hp.cellAt j (by omega)]
    unfold intV
    rw [List.getElem?_map, List.getElem?_append_left hjl, hj]
    rfl
theorem ItemsOwn.at_ {w0 W : World} {t : TypeId} {mk' : List Int} {v : Value} {l : List PItem} {sls : List Value} (h : ItemsOwn w0 W t mk' v l sls) : ∃ ao cap, v = .slice ao l.length cap ∧ ItemsAt W ao l := by
  rcases h.own.2 with ⟨rfl, h0⟩ | ⟨g, cap, cur, rfl, hb, hh, hc, hm, _⟩
  · refine ⟨none, 0, by rw [h0], fun j x hx => ?_⟩
    have := (List.getElem?_eq_some_iff.1 hx).1; omega
  · refine ⟨_, cap, rfl, fun j x hx => ?_⟩
    have hjl := (List.getElem?_eq_some_iff.1 hx).1
    obtain ⟨s, hsj⟩ : ∃ s, sls[j]? = some s := ⟨_, List.getElem?_eq_getElem (by rw [← h.len]; exact hjl)⟩
    refine ⟨g, 0, s, rfl, (Array.getElem?_eq_some_iff.1 hh).1, (h.ints j x s hx hsj).at_, fun i c hi => ?_⟩
    have h6 : i < 6 := (List.getElem?_eq_some_iff.1 hi).1
    rw [Nat.zero_add, h.own.cellAt (j * 6 + i) (by omega)]
    exact rowC_get l sls j x s hx hsj i c hi
theorem ItemsOwn.grown {w0 W W' : World} {t : TypeId} {mk' : List Int} {v : Value} {l : List PItem} {sls : List Value} (h : ItemsOwn w0 W t mk' v l sls) (hb : Below W.heap.size W W') : ItemsOwn w0 W' t mk' v l sls :=
  ⟨h.len, own_grown h.own hb, fun j x s h1 h2 => (h.ints j x s h1 h2).grown hb rfl, h.below.trans (hb.mono h.below.size)⟩
/-- One item more. -/
theorem ItemsOwn.snoc {w0 W W' : World} {t : TypeId} {mk' : List Int} {v v' : Value} {l : List PItem} {sls : List Value} {x : PItem} {s : Value} (h : ItemsOwn w0 W t mk' v l sls) (ht : t ≠ 3) (hs : IntsOwn W w0.heap.size mk' s x.pieces)
    (ho : W'.ownsRow w0.heap.size t 6 v' (l.length + 1) (rowC l sls ++ itemC x s)) (hg : W.grownBy W' v.ownBlock) : ItemsOwn w0 W' t mk' v' (l ++ [x]) (sls ++ [s]) := by
  refine ⟨by rw [List.length_append, List.length_append, h.len]; rfl, ?_, fun j y r h1 h2 => ?_, h.below.grown hg h.below.size fun j e => (h.own.lt j e).1⟩
  · rw [rowC_snoc l sls x s h.len, List.length_append]; exact ho
  · by_cases hj : j < l.length
    · rw [List.getElem?_append_left hj] at h1
      rw [List.getElem?_append_left (by rw [← h.len]; exact hj)] at h2
      exact (h.ints j y r h1 h2).kept hg rfl h.own ht
    · have hj2 : j = l.length := by
        have := (List.getElem?_eq_some_iff.1 h1).1
        rw [List.length_append, List.length_singleton] at this
        omega
      subst hj2
      rw [List.getElem?_append_right (Nat.le_refl _), Nat.sub_self] at h1
      rw [List.getElem?_append_right (by rw [h.len]; exact Nat.le_refl _), h.len, Nat.sub_self] at h2
      cases h1; cases h2
      exact hs.kept hg rfl h.own ht
end Pw
end Go.Proofs.YtnmgdlmicgbapaaDoor
