/- A box that an item is read into, beside the row of the items so far. No program's function in sight. -/
import Derived.Test.YtnmgdlmicgbapaaDoorPInfo
import Derived.Test.YtnmgdlmicgbapaaDoorPWItem
import Derived.Test.YtnmgdlmicgbapaaDoorDBlk
namespace Go.Proofs.YtnmgdlmicgbapaaDoor
open Go.RowKit

namespace Pw
open Pk
theorem cutTo_block (n : Nat) (v : Value) : (cutTo n v).ownBlock = v.ownBlock := by
  cases v with
  | slice a _ _ => cases a <;> rfl
  | _ => rfl
theorem IntsOwn.own {w : World} {base : Nat} {s : Value} {ps : List Int} (h : IntsOwn w base [] s ps) : w.ownsRow base 3 1 s ps.length (intV ps) := by
  obtain ⟨p, rfl, hp⟩ := h
  rw [List.append_nil] at hp
  obtain ⟨a, c, rfl⟩ := own_form hp
  exact hp
theorem IntsOwn.of {w : World} {base : Nat} {s : Value} {ps : List Int} (h : w.ownsRow base 3 1 s ps.length (intV ps)) : IntsOwn w base [] s ps := by
  obtain ⟨a, c, rfl⟩ := own_form h
  exact ⟨_, rfl, by rw [List.append_nil]; exact h⟩
theorem own_base {w : World} {base b2 size n : Nat} {e : TypeId} {v : Value} {xs : List Value} (h : w.ownsRow base e size v n xs) (hb : b2 ≤ base) : w.ownsRow b2 e size v n xs := by
  refine ⟨h.1, ?_⟩
  rcases h.2 with h0 | ⟨g, cap, cur, rfl, hg, h2⟩
  · exact .inl h0
  · exact .inr ⟨g, cap, cur, rfl, by omega, h2⟩
theorem IntsOwn.base {w : World} {base b2 : Nat} {mk' : List Int} {s : Value} {ps : List Int} (h : IntsOwn w base mk' s ps) (hb : b2 ≤ base) : IntsOwn w b2 mk' s ps := by
  obtain ⟨p, hs, hp⟩ := h
  exact ⟨p, hs, own_base hp hb⟩
theorem IntsOwn.keep {w w' : World} {base : Nat} {mk' : List Int} {s : Value} {ps : List Int} {row : Option Nat} (h : IntsOwn w base mk' s ps) (hg : w.grownBy w' row) (hne : s.ownBlock = none ∨ s.ownBlock ≠ row) : IntsOwn w' base mk' s ps := by
  obtain ⟨p, rfl, hp⟩ := h
  rw [cutTo_block] at hne
  exact ⟨p, rfl, hp.kept hg hne⟩
theorem IntsOwn.touch {w w' : World} {base j : Nat} {t : TypeId} {mk' : List Int} {s : Value} {ps : List Int} (h : IntsOwn w base mk' s ps) (hj : Blk w j t) (ht : t ≠ 3) (hg : w.grownBy w' (some j)) : IntsOwn w' base mk' s ps := by
  have h2 := h
  obtain ⟨p, rfl, hp⟩ := h
  exact h2.keep hg (.inr (by rw [cutTo_block]; exact hj.ne hp ht))
theorem ItemsOwn.keep {w0 w w' : World} {t : TypeId} {mk' : List Int} {v : Value} {l : List PItem} {sls : List Value} {row : Option Nat} (h : ItemsOwn w0 w t mk' v l sls) (hg : w.grownBy w' row) (hv : v.ownBlock = none ∨ v.ownBlock ≠ row)
    (hs : ∀ s ∈ sls, s.ownBlock = none ∨ s.ownBlock ≠ row) (hr : ∀ j, row = some j → w0.heap.size ≤ j) : ItemsOwn w0 w' t mk' v l sls :=
  ⟨h.len, h.own.kept hg hv, fun j x s h1 h2 => (h.ints j x s h1 h2).keep hg (hs s (List.mem_of_getElem? h2)), h.below.grown hg h.below.size hr⟩
theorem ItemsOwn.touch {w0 w w' : World} {t tj : TypeId} {mk' : List Int} {v : Value} {l : List PItem} {sls : List Value} {j : Nat} (h : ItemsOwn w0 w t mk' v l sls) (hj : Blk w j tj) (ht : tj ≠ 3) (hv : v.ownBlock ≠ some j) (hg : w.grownBy w' (some j)) (hr : w0.heap.size ≤ j) : ItemsOwn w0 w' t mk' v l sls :=
  ⟨h.len, h.own.kept hg (.inr hv), fun k x s h1 h2 => (h.ints k x s h1 h2).touch hj ht hg, h.below.grown hg h.below.size (fun k e => by cases e; exact hr)⟩
theorem ItemsOwn.slt {w0 w : World} {t : TypeId} {mk' : List Int} {v : Value} {l : List PItem} {sls : List Value} (h : ItemsOwn w0 w t mk' v l sls) : ∀ s g, s ∈ sls → s.ownBlock = some g → w0.heap.size ≤ g ∧ g < w.heap.size := by
  intro s g hs hb
  obtain ⟨j, hj, rfl⟩ := List.getElem_of_mem hs
  have hjl : j < l.length := by rw [h.len]; exact hj
  obtain ⟨p, he, hp⟩ := h.ints j l[j] sls[j] (List.getElem?_eq_getElem hjl) (List.getElem?_eq_getElem hj)
  rw [he, cutTo_block] at hb
  exact hp.lt g hb
/-- The box of an item that is being read, beside the items so far. -/
structure Bx (w0 W : World) (tI : TypeId) (bx : Nat) (x : PItem) (sl v : Value) (l : List PItem) (sls : List Value) : Prop where
  box : BoxAt W bx x sl
  blk : Blk W bx tI
  ints : IntsOwn W bx [] sl x.pieces
  its : ItemsOwn w0 W tI [] v l sls
  vlt : ∀ g, v.ownBlock = some g → g < bx
  slt : ∀ s g, s ∈ sls → s.ownBlock = some g → g < bx
  ge : w0.heap.size ≤ bx
abbrev noItem : PItem := ⟨[], 0, 0, [], [], 0⟩
theorem bx_new {w0 W : World} {tI : TypeId} {v : Value} {l : List PItem} {sls : List Value} (h : ItemsOwn w0 W tI [] v l sls) :
    Bx w0 (W.alloc (.cells #[.string (mk []), .int .i64 0, .int .i64 0, .string (mk []), .slice none 0 0, .int .i64 0] tI)) tI W.heap.size noItem (.slice none 0 0) v l sls :=
  ⟨BoxAt.new W noItem (.slice none 0 0) tI, Blk.new W _ tI, ⟨.slice none 0 0, rfl, World.ownsRow_nil _ _ _ _⟩, h.grown ((Below.refl _ _).alloc (Nat.le_refl _) _), fun g e => (h.own.lt g e).2, fun s g hs e => (h.slt s g hs e).2, h.below.size⟩
theorem Bx.kept {w0 W W' : World} {tI : TypeId} {bx : Nat} {x : PItem} {sl v : Value} {l : List PItem} {sls : List Value} (h : Bx w0 W tI bx x sl v l sls) (hg : W.grownBy W' none) : Bx w0 W' tI bx x sl v l sls := by
  have hb := hg.block bx h.blk.lt (by simp)
  have hn : ∀ v : Value, v.ownBlock = none ∨ v.ownBlock ≠ none := fun v => by cases v.ownBlock <;> simp
  exact ⟨fun i c hi => (World.cell?_of_block (a := ⟨bx, i, none⟩) hb).trans (h.box i c hi), h.blk.kept hg (by simp), h.ints.keep hg (hn _), h.its.keep hg (hn _) (fun s _ => hn s) (fun j e => by cases e), h.vlt, h.slt, h.ge⟩
theorem Bx.read {w0 W W' : World} {tI tR : TypeId} {bx rb : Nat} {x : PItem} {sl v : Value} {l : List PItem} {sls : List Value} (h : Bx w0 W tI bx x sl v l sls) (hr : Blk W rb tR) (h1 : tR ≠ tI) (h2 : tR ≠ 3) (hge : w0.heap.size ≤ rb) (hg : W.grownBy W' (some rb)) : Bx w0 W' tI bx x sl v l sls := by
  have hne : some bx ≠ some rb := by
    intro e
    cases e
    obtain ⟨c1, e1⟩ := hr
    obtain ⟨c2, e2⟩ := h.blk
    rw [e1] at e2
    cases e2
    exact h1 rfl
  have hb := hg.block bx h.blk.lt hne
  exact ⟨fun i c hi => (World.cell?_of_block (a := ⟨bx, i, none⟩) hb).trans (h.box i c hi), h.blk.kept hg hne, h.ints.touch hr h2 hg, h.its.touch hr h2 (hr.ne h.its.own h1) hg hge, h.vlt, h.slt, h.ge⟩
theorem Bx.store {w0 W : World} {tI : TypeId} {bx i : Nat} {c : Value} {x x' : PItem} {sl sl' v : Value} {l : List PItem} {sls : List Value} (h : Bx w0 W tI bx x sl v l sls) (ht : tI ≠ 3) (hi : i < 6) (he : (itemC x sl).set i c = itemC x' sl') (hp : IntsOwn W bx [] sl' x'.pieces) :
    Bx w0 (W.setCell ⟨bx, i, none⟩ c) tI bx x' sl' v l sls := by
  have hg := grown_set W bx i c
  refine ⟨fun k u hk => ?_, h.blk.set bx i c, hp.touch h.blk ht hg, h.its.touch h.blk ht (fun e => Nat.lt_irrefl _ (h.vlt bx e)) hg h.ge, h.vlt, h.slt, h.ge⟩
  rw [← he] at hk
  by_cases e : k = i
  · subst e
    rw [List.getElem?_set_self (by simpa [itemC] using hi)] at hk
    cases hk
    exact World.cell?_setCell_same _ _ _ (h.box k _ (List.getElem?_eq_getElem (by simpa [itemC] using hi)))
  · rw [List.getElem?_set_ne (Ne.symm e)] at hk
    exact (World.cell?_setCell_other _ _ _ _ (by simp)).trans (h.box k u hk)
theorem Bx.grow {w0 W W' : World} {tI : TypeId} {bx : Nat} {x : PItem} {sl sl' v : Value} {l : List PItem} {sls : List Value} {p : Int} (h : Bx w0 W tI bx x sl v l sls) (ht : tI ≠ 3) (hg : W.grownBy W' sl.ownBlock)
    (ho : W'.ownsRow bx 3 1 sl' (x.pieces.length + 1) (intV x.pieces ++ [.int .i64 p])) : Bx w0 (W'.setCell ⟨bx, 4, none⟩ sl') tI bx ⟨x.path, x.kind, x.size, x.data, x.pieces ++ [p], x.same⟩ sl' v l sls := by
  have hne : some bx ≠ sl.ownBlock := fun e => h.blk.ne h.ints.own ht e.symm
  have hb := hg.block bx h.blk.lt hne
  have hlow : ∀ j, sl.ownBlock = some j → bx ≤ j := fun j e => (h.ints.own.lt j e).1
  have hN : Bx w0 W' tI bx ⟨x.path, x.kind, x.size, x.data, x.pieces ++ [p], x.same⟩ sl v l sls → True := fun _ => trivial
  have hints : IntsOwn W' bx [] sl' (x.pieces ++ [p]) := IntsOwn.of (by rw [List.length_append, List.length_singleton, show intV (x.pieces ++ [p]) = intV x.pieces ++ [.int .i64 p] by simp [intV]]; exact ho)
  have hits : ItemsOwn w0 W' tI [] v l sls := h.its.keep hg
    (by cases hv : v.ownBlock with
        | none => exact .inl rfl
        | some g => exact .inr (fun e => by have := h.vlt g hv; have := hlow g e.symm; omega))
    (fun s hs => by
        cases hv : s.ownBlock with
        | none => exact .inl rfl
        | some g => exact .inr (fun e => by have := h.slt s g hs hv; have := hlow g e.symm; omega))
    (fun j e => Nat.le_trans h.ge (hlow j e))
  have hblk := h.blk.kept hg hne
  have hbox : ∀ i c, (itemC x sl)[i]? = some c → W'.cell? ⟨bx, i, none⟩ = some c := fun i c hi => (World.cell?_of_block (a := ⟨bx, i, none⟩) hb).trans (h.box i c hi)
  have hg2 := grown_set W' bx 4 sl'
  refine ⟨fun k u hk => ?_, hblk.set bx 4 sl', hints.touch hblk ht hg2, hits.touch hblk ht (fun e => Nat.lt_irrefl _ (h.vlt bx e)) hg2 h.ge, h.vlt, h.slt, h.ge⟩
  have he : itemC ⟨x.path, x.kind, x.size, x.data, x.pieces ++ [p], x.same⟩ sl' = (itemC x sl).set 4 sl' := rfl
  rw [he] at hk
  by_cases e : k = 4
  · subst e
    rw [List.getElem?_set_self (by simp [itemC])] at hk
    cases hk
    exact World.cell?_setCell_same _ _ _ (hbox 4 _ rfl)
  · rw [List.getElem?_set_ne (Ne.symm e)] at hk
    exact (World.cell?_setCell_other _ _ _ _ (by simp)).trans (hbox k u hk)
/-- The item joins the items. -/
theorem Bx.done {w0 W W' : World} {tI : TypeId} {bx : Nat} {x : PItem} {sl v v' : Value} {l : List PItem} {sls : List Value} (h : Bx w0 W tI bx x sl v l sls) (ht : tI ≠ 3) (ho : W'.ownsRow w0.heap.size tI 6 v' (l.length + 1) (rowC l sls ++ itemC x sl)) (hg : W.grownBy W' v.ownBlock) : ItemsOwn w0 W' tI [] v' (l ++ [x]) (sls ++ [sl]) :=
  h.its.snoc ht (h.ints.base h.ge) ho hg
/-- Items in a row, where they lie now. -/
structure Its (B : Nat) (W : World) (t : TypeId) (v : Value) (l : List PItem) (sls : List Value) : Prop where
  len : l.length = sls.length
  own : W.ownsRow B t 6 v l.length (rowC l sls)
  ints : ∀ (j : Nat) x s, l[j]? = some x → sls[j]? = some s → IntsOwn W B [] s x.pieces
theorem ItemsOwn.its {w0 W : World} {t : TypeId} {v : Value} {l : List PItem} {sls : List Value} (h : ItemsOwn w0 W t [] v l sls) : Its w0.heap.size W t v l sls := ⟨h.len, h.own, h.ints⟩
/-- The blocks that a row and its rows lie in. -/
def Foot (v : Value) (sls : List Value) (g : Nat) : Prop := v.ownBlock = some g ∨ ∃ s ∈ sls, s.ownBlock = some g
theorem ItemsOwn.foot {w0 W : World} {t : TypeId} {v : Value} {l : List PItem} {sls : List Value} (h : ItemsOwn w0 W t [] v l sls) : ∀ g, Foot v sls g → w0.heap.size ≤ g ∧ g < W.heap.size := by
  intro g hg
  rcases hg with e | ⟨s, hs, e⟩
  · exact h.own.lt g e
  · exact h.slt s g hs e
theorem own_heap {w w' : World} {base size n : Nat} {e : TypeId} {v : Value} {xs : List Value} (h : w.ownsRow base e size v n xs) (hk : ∀ g, v.ownBlock = some g → w'.heap[g]? = w.heap[g]?) : w'.ownsRow base e size v n xs := by
  refine ⟨h.1, ?_⟩
  rcases h.2 with h0 | ⟨g, cap, cur, rfl, hg, hh, h2⟩
  · exact .inl h0
  · exact .inr ⟨g, cap, cur, rfl, hg, (hk g rfl).trans hh, h2⟩
theorem IntsOwn.heap {w w' : World} {base : Nat} {mk' : List Int} {s : Value} {ps : List Int} (h : IntsOwn w base mk' s ps) (hk : ∀ g, s.ownBlock = some g → w'.heap[g]? = w.heap[g]?) : IntsOwn w' base mk' s ps := by
  obtain ⟨p, rfl, hp⟩ := h
  rw [cutTo_block] at hk
  exact ⟨p, rfl, own_heap hp hk⟩
theorem Its.heap {B : Nat} {W W' : World} {t : TypeId} {v : Value} {l : List PItem} {sls : List Value} (h : Its B W t v l sls) (hk : ∀ g, Foot v sls g → W'.heap[g]? = W.heap[g]?) : Its B W' t v l sls :=
  ⟨h.len, own_heap h.own (fun g e => hk g (.inl e)), fun j x s h1 h2 => (h.ints j x s h1 h2).heap (fun g e => hk g (.inr ⟨s, List.mem_of_getElem? h2, e⟩))⟩
theorem Its.at_ {B : Nat} {W : World} {t : TypeId} {v : Value} {l : List PItem} {sls : List Value} (h : Its B W t v l sls) : ∃ ao cap, v = .slice ao l.length cap ∧ ItemsAt W ao l := by
  rcases h.own.2 with ⟨rfl, h0⟩ | ⟨g, cap, cur, rfl, hb, hh, hc, hm, _⟩
  · refine ⟨none, 0, by rw [h0], fun j x hx => ?_⟩
    have := (List.getElem?_eq_some_iff.1 hx).1; omega
  · refine ⟨_, cap, rfl, fun j x hx => ?_⟩
    have hjl := (List.getElem?_eq_some_iff.1 hx).1
    obtain ⟨s, hsj⟩ : ∃ s, sls[j]? = some s := ⟨_, List.getElem?_eq_getElem (by rw [← h.len]; exact hjl)⟩
    refine ⟨g, 0, s, rfl, (Array.getElem?_eq_some_iff.1 hh).1, (h.ints j x s hx hsj).at_, fun i c hi => ?_⟩
    have h6 : i < 6 := (List.getElem?_eq_some_iff.1 hi).1
    rw [Nat.zero_add, h.own.cellAt (j * 6 + i) (by omega)]
    exact rowC_get l sls j x s hx hsj i c hi
theorem own_setS {w : World} {base g i size n cap : Nat} {e : TypeId} {xs : List Value} (h : w.ownsRow base e size (.slice (some ⟨g, 0, none⟩) n cap) n xs) (u : Value) : (w.setCell ⟨g, i, none⟩ u).ownsRow base e size (.slice (some ⟨g, 0, none⟩) n cap) n (xs.set i u) := by
  rcases h.2 with ⟨e1, _⟩ | ⟨g', cap', cur, e1, hb, hh, hc, hm, hcs, ht⟩
  · cases e1
  · cases e1
    refine ⟨by rw [List.length_set]; exact h.1, .inr ⟨g, cap, cur.setIfInBounds i u, rfl, hb, heap_setCell_same w g i cur e u hh, hc, hm, by simpa using hcs, ?_⟩⟩
    rw [← ht, Array.toList_setIfInBounds, List.take_set]
/-- Rows that lie apart. -/
def Apart (sls : List Value) : Prop := ∀ (i j : Nat) (s r : Value) (g : Nat), sls[i]? = some s → sls[j]? = some r → s.ownBlock = some g → r.ownBlock = some g → i = j
theorem Apart.nil : Apart [] := fun i j s r g h => by simp at h
theorem Apart.snoc {sls : List Value} {sl : Value} {bx : Nat} (h : Apart sls) (hlt : ∀ s g, s ∈ sls → s.ownBlock = some g → g < bx) (hge : ∀ g, sl.ownBlock = some g → bx ≤ g) : Apart (sls ++ [sl]) := by
  intro i j s r g h1 h2 h3 h4
  have hi := (List.getElem?_eq_some_iff.1 h1).1
  have hj := (List.getElem?_eq_some_iff.1 h2).1
  rw [List.length_append, List.length_singleton] at hi hj
  have key : ∀ (k : Nat) (u : Value), (sls ++ [sl])[k]? = some u → (k < sls.length ∧ sls[k]? = some u ∧ u ∈ sls) ∨ (k = sls.length ∧ u = sl) ∨ sls.length < k := by
    intro k u hk
    rcases Nat.lt_trichotomy k sls.length with hl | hl | hl
    · rw [List.getElem?_append_left hl] at hk
      exact .inl ⟨hl, hk, List.mem_of_getElem? hk⟩
    · subst hl
      rw [List.getElem?_append_right (Nat.le_refl _), Nat.sub_self] at hk
      exact .inr (.inl ⟨rfl, by cases hk; rfl⟩)
    · exact .inr (.inr hl)
  rcases key i s h1 with ⟨a1, a2, a3⟩ | ⟨a1, rfl⟩ | a1
  · rcases key j r h2 with ⟨b1, b2, b3⟩ | ⟨b1, rfl⟩ | b1
    · exact h i j s r g a2 b2 h3 h4
    · have := hlt s g a3 h3
      have := hge g h4
      omega
    · omega
  · rcases key j r h2 with ⟨b1, b2, b3⟩ | ⟨b1, rfl⟩ | b1
    · have := hlt r g b3 h4
      have := hge g h3
      omega
    · omega
    · omega
  · omega
theorem Bx.apart {w0 W : World} {tI : TypeId} {bx : Nat} {x : PItem} {sl v : Value} {l : List PItem} {sls : List Value} (h : Bx w0 W tI bx x sl v l sls) (ha : Apart sls) : Apart (sls ++ [sl]) :=
  ha.snoc h.slt (fun g e => (h.ints.own.lt g e).1)
end Pw
end Go.Proofs.YtnmgdlmicgbapaaDoor
