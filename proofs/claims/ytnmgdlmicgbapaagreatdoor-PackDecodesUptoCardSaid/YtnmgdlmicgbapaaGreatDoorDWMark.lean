/- The walks of the law's marks: marked writes what was answered full; bears looks at what was written. -/
import Derived.Test.YtnmgdlmicgbapaaGreatDoorDRows
import Derived.Test.YtnmgdlmicgbapaaGreatDoorPWAs
namespace Go.Proofs.YtnmgdlmicgbapaaGreatDoor
open Go.RowKit Go.Maps

namespace Pw
open Pk
/-- Of the old blocks only those from lo to hi may have changed. -/
structure Keep (lo hi : Nat) (w w' : World) : Prop where
  os : w'.os = w.os
  tape : w'.tape = w.tape
  output : w'.output = w.output
  size : w.heap.size ≤ w'.heap.size
  block : ∀ i, i < w.heap.size → (i < lo ∨ hi ≤ i) → w'.heap[i]? = w.heap[i]?
theorem Keep.refl (lo hi : Nat) (w : World) : Keep lo hi w w := ⟨rfl, rfl, rfl, Nat.le_refl _, fun _ _ _ => rfl⟩
theorem Keep.grown {lo hi : Nat} {w W W' : World} {row : Option Nat} (h : Keep lo hi w W) (hg : W.grownBy W' row) (hr : ∀ g, row = some g → (lo ≤ g ∧ g < hi) ∨ w.heap.size ≤ g) : Keep lo hi w W' :=
  ⟨hg.os.trans h.os, hg.tape.trans h.tape, hg.output.trans h.output, Nat.le_trans h.size hg.size, fun i hi' hlo => (hg.block i (Nat.lt_of_lt_of_le hi' h.size) (fun e => by rcases hr i e.symm with h1 | h1 <;> omega)).trans (h.block i hi' hlo)⟩
theorem Keep.below {lo hi B : Nat} {w W W' : World} (h : Below B w W) (hk : Keep lo hi W W') (hB : B ≤ lo) (hw : w.heap.size ≤ W.heap.size) (hBw : B ≤ w.heap.size) : Below B w W' :=
  ⟨hk.os.trans h.os, hk.tape.trans h.tape, hk.output.trans h.output, Nat.le_trans h.size hk.size, fun i hi' => (hk.block i (by omega) (.inl (by omega))).trans (h.block i hi')⟩
/-- Items in a row, where they lie now. -/
structure Its (B : Nat) (W : World) (t : TypeId) (v : Value) (l : List PItem) (sls : List Value) : Prop where
  len : l.length = sls.length
  own : W.ownsRow B t 6 v l.length (rowC l sls)
  ints : ∀ (j : Nat) x s, l[j]? = some x → sls[j]? = some s → IntsOwn W B [] s x.pieces
theorem ItemsOwn.its {w0 W : World} {t : TypeId} {v : Value} {l : List PItem} {sls : List Value} (h : ItemsOwn w0 W t [] v l sls) : Its w0.heap.size W t v l sls := ⟨h.len, h.own, h.ints⟩
/-- The blocks that a row and its rows lie in. -/
def Foot (v : Value) (sls : List Value) (g : Nat) : Prop := v.ownBlock = some g ∨ ∃ s ∈ sls, s.ownBlock = some g
theorem ItemsOwn.foot {w0 W : World} {t : TypeId} {v : Value} {l : List PItem} {sls : List Value} (h : ItemsOwn w0 W t [] v l sls) : ∀ g, Foot v sls g → w0.heap.size ≤ g ∧ g < W.heap.size := by
  intro g hg
  rcases hg with e | ⟨s, hs, e⟩
  · exact h.own.lt g e
  · exact h.slt s g hs e
theorem own_heap {w w' : World} {base size n : Nat} {e : TypeId} {v : Value} {xs : List Value} (h : w.ownsRow base e size v n xs) (hk : ∀ g, v.ownBlock = some g → w'.heap[g]? = w.heap[g]?) : w'.ownsRow base e size v n xs := by
  refine ⟨h.1, ?_⟩
  rcases h.2 with h0 | ⟨g, cap, cur, rfl, hg, hh, h2⟩
  · exact .inl h0
  · exact .inr ⟨g, cap, cur, rfl, hg, (hk g rfl).trans hh, h2⟩
theorem IntsOwn.heap {w w' : World} {base : Nat} {mk' : List Int} {s : Value} {ps : List Int} (h : IntsOwn w base mk' s ps) (hk : ∀ g, s.ownBlock = some g → w'.heap[g]? = w.heap[g]?) : IntsOwn w' base mk' s ps := by
  obtain ⟨p, rfl, hp⟩ := h
  rw [cutTo_block] at hk
  exact ⟨p, rfl, own_heap hp hk⟩
theorem Its.heap {B : Nat} {W W' : World} {t : TypeId} {v : Value} {l : List PItem} {sls : List Value} (h : Its B W t v l sls) (hk : ∀ g, Foot v sls g → W'.heap[g]? = W.heap[g]?) : Its B W' t v l sls :=
  ⟨h.len, own_heap h.own (fun g e => hk g (.inl e)), fun j x s h1 h2 => (h.ints j x s h1 h2).heap (fun g e => hk g (.inr ⟨s, List.mem_of_getElem? h2, e⟩))⟩
theorem Its.at_ {B : Nat} {W : World} {t : TypeId} {v : Value} {l : List PItem} {sls : List Value} (h : Its B W t v l sls) : ∃ ao cap, v = .slice ao l.length cap ∧ ItemsAt W ao l := by
  rcases h.own.2 with ⟨rfl, h0⟩ | ⟨g, cap, cur, rfl, hb, hh, hc, hm, _⟩
  · refine ⟨none, 0, by rw [h0], fun j x hx => ?_⟩
    have := (List.getElem?_eq_some_iff.1 hx).1; omega
  · refine ⟨_, cap, rfl, fun j x hx => ?_⟩
    have hjl := (List.getElem?_eq_some_iff.1 hx).1
    obtain ⟨s, hsj⟩ : ∃ s, sls[j]? = some s := ⟨_, List.getElem?_eq_getElem (by rw [← h.len]; exact hjl)⟩
    refine ⟨g, 0, s, rfl, (Array.getElem?_eq_some_iff.1 hh).1, (h.ints j x s hx hsj).at_, fun i c hi => ?_⟩
    have h6 : i < 6 := (List.getElem?_eq_some_iff.1 hi).1
    rw [Nat.zero_add, h.own.cellAt (j * 6 + i) (by omega)]
    exact rowC_get l sls j x s hx hsj i c hi
/-- Rows of one number. -/
structure Marks (W : World) (B : Nat) (va : Value) (rs : List Value) (m : Int) : Prop where
  own : W.ownsRow B 40 1 va rs.length rs
  each : ∀ s ∈ rs, ∃ n, n ≤ 2000002 ∧ IntsOwn W B [] s (List.replicate n m)
theorem Marks.heap {W W' : World} {B : Nat} {va : Value} {rs : List Value} {m : Int} (h : Marks W B va rs m) (hk : ∀ g, Foot va rs g → W'.heap[g]? = W.heap[g]?) : Marks W' B va rs m :=
  ⟨own_heap h.own (fun g e => hk g (.inl e)), fun s hs => by obtain ⟨n, hn, h2⟩ := h.each s hs; exact ⟨n, hn, h2.heap (fun g e => hk g (.inr ⟨s, hs, e⟩))⟩⟩
theorem own_setS {w : World} {base g i size n cap : Nat} {e : TypeId} {xs : List Value} (h : w.ownsRow base e size (.slice (some ⟨g, 0, none⟩) n cap) n xs) (u : Value) : (w.setCell ⟨g, i, none⟩ u).ownsRow base e size (.slice (some ⟨g, 0, none⟩) n cap) n (xs.set i u) := by
  rcases h.2 with ⟨e1, _⟩ | ⟨g', cap', cur, e1, hb, hh, hc, hm, hcs, ht⟩
  · cases e1
  · cases e1
    refine ⟨by rw [List.length_set]; exact h.1, .inr ⟨g, cap, cur.setIfInBounds i u, rfl, hb, heap_setCell_same w g i cur e u hh, hc, hm, by simpa using hcs, ?_⟩⟩
    rw [← ht, Array.toList_setIfInBounds, List.take_set]
theorem replicate_step (n j : Nat) (m : Int) (ps : List Int) (hn : ps.length = n) (hj : j < n) : (intV (List.replicate j m ++ ps.drop j)).set j (.int .i64 m) = intV (List.replicate (j + 1) m ++ ps.drop (j + 1)) := by
  unfold intV
  rw [List.map_append, List.map_append, List.set_append_right _ _ (by simp), List.drop_eq_getElem_cons (by omega : j < ps.length)]
  simp only [List.map_cons, List.length_map, List.length_replicate, Nat.sub_self, List.set_cons_zero, List.replicate_succ', List.map_append, List.map_nil, List.append_assoc, List.cons_append, List.nil_append]
theorem own_ne {w : World} {b1 b2 z1 z2 n1 n2 : Nat} {e1 e2 : TypeId} {v1 v2 : Value} {xs1 xs2 : List Value} (h1 : w.ownsRow b1 e1 z1 v1 n1 xs1) (h2 : w.ownsRow b2 e2 z2 v2 n2 xs2) (he : e1 ≠ e2) : v1.ownBlock = none ∨ v1.ownBlock ≠ v2.ownBlock := by
  rcases h1.2 with ⟨rfl, _⟩ | ⟨g, cap, cur, rfl, _, hh, _⟩
  · exact .inl rfl
  · refine .inr fun e => ?_
    rcases h2.2 with ⟨rfl, _⟩ | ⟨g2, cap2, cur2, rfl, _, hh2, _⟩
    · cases e
    · cases e
      rw [hh] at hh2
      cases hh2
      exact he rfl
/-- The marking, so far. -/
structure Mk (Wc wr : World) (B hi : Nat) (v av : Value) (l : List PItem) (sls rs : List Value) (m : Int) (k : Nat) : Prop where
  row : ∃ xs, wr.ownsRow B 50 6 v l.length xs ∧ ∀ j s, k ≤ j → sls[j]? = some s → xs[j * 6 + 4]? = some s
  ints : ∀ (j : Nat) x s, k ≤ j → l[j]? = some x → sls[j]? = some s → IntsOwn wr B [] s x.pieces
  own : wr.ownsRow Wc.heap.size 40 1 av k rs
  each : ∀ s ∈ rs, ∃ n, n ≤ 2000002 ∧ IntsOwn wr B [] s (List.replicate n m)
  foot : ∀ s ∈ rs, ∀ g, s.ownBlock = some g → (B ≤ g ∧ g < hi) ∨ Wc.heap.size ≤ g
  apart : ∀ s ∈ rs, ∀ (j : Nat) r g, k ≤ j → sls[j]? = some r → s.ownBlock = some g → r.ownBlock ≠ some g
  keep : Keep B hi Wc wr
theorem Mk.start {Wc : World} {B hi : Nat} {v : Value} {l : List PItem} {sls : List Value} (h : Its B Wc 50 v l sls) (m : Int) : Mk Wc Wc B hi v (.slice none 0 0) l sls [] m 0 := by
  refine ⟨⟨_, h.own, fun j s _ hs => ?_⟩, fun j x s _ h1 h2 => h.ints j x s h1 h2, World.ownsRow_nil _ _ _ _, fun s hs => (by cases hs), fun s hs => (by cases hs), fun s hs => (by cases hs), Keep.refl _ _ _⟩
  have hj := (List.getElem?_eq_some_iff.1 hs).1
  rw [← h.len] at hj
  exact rowC_get l sls j l[j] s (List.getElem?_eq_getElem hj) hs 4 _ rfl
theorem Mk.next {Wc wr w2 w3 : World} {B hi k g cap n : Nat} {v av av' v2 s u : Value} {l : List PItem} {sls rs : List Value} {m : Int} {x : PItem} (h : Mk Wc wr B hi v av l sls rs m k) (hA : Apart sls) (hf : ∀ g, Foot v sls g → B ≤ g ∧ g < hi) (hhi : hi ≤ Wc.heap.size)
    (hks : sls[k]? = some s) (hlx : l[k]? = some x) (hg1 : wr.grownBy w2 s.ownBlock) (hn : n ≤ 2000002) (ho2 : w2.ownsRow B 3 1 v2 n (intV (List.replicate n m))) (hat : v2.ownBlock = s.ownBlock ∨ ∃ g, v2.ownBlock = some g ∧ wr.heap.size ≤ g)
    (hg3 : w2.grownBy w3 av.ownBlock) (ho3 : w3.ownsRow Wc.heap.size 40 1 av' (k + 1) (rs ++ [v2])) (hv : v = .slice (some ⟨g, 0, none⟩) l.length cap) : Mk Wc (w3.setCell ⟨g, k * 6, none⟩ u) B hi v av' l sls (rs ++ [v2]) m (k + 1) := by
  obtain ⟨xs, hrow, hxs⟩ := h.row
  have hsI := h.ints k x s (Nat.le_refl _) hlx hks
  have hsO := hsI.own
  have hsm : s ∈ sls := List.mem_of_getElem? hks
  have hsf := fun g e => hf g (.inr ⟨s, hsm, e⟩)
  have hvf := fun g e => hf g (.inl e)
  have hWs := h.keep.size
  have hvg : v.ownBlock = some g := by rw [hv]; rfl
  have avg := fun g e => (h.own.lt g e).1
  -- the rows of int that are to come
  have n1 : ∀ (j : Nat) r, k + 1 ≤ j → sls[j]? = some r → r.ownBlock = none ∨ r.ownBlock ≠ s.ownBlock := by
    intro j r hj hr
    cases hb : r.ownBlock with
    | none => exact .inl rfl
    | some q => exact .inr (fun e => by have := hA j k r s q hr hks hb e.symm; omega)
  have n2 : ∀ r ∈ rs, r.ownBlock = none ∨ r.ownBlock ≠ s.ownBlock := by
    intro r hr
    cases hb : r.ownBlock with
    | none => exact .inl rfl
    | some q => exact .inr (fun e => h.apart r hr k s q (Nat.le_refl _) hks hb e.symm)
  -- behind the first append
  have row2 := hrow.kept hg1 (own_ne hrow hsO (by decide))
  have ints2 : ∀ (j : Nat) x r, k + 1 ≤ j → l[j]? = some x → sls[j]? = some r → IntsOwn w2 B [] r x.pieces := fun j x r hj h1 h2 => (h.ints j x r (by omega) h1 h2).keep hg1 (n1 j r hj h2)
  have own2 := h.own.kept hg1 (own_ne h.own hsO (by decide))
  have each2 : ∀ r ∈ rs, ∃ n, n ≤ 2000002 ∧ IntsOwn w2 B [] r (List.replicate n m) := fun r hr => by obtain ⟨n, hn, hI⟩ := h.each r hr; exact ⟨n, hn, hI.keep hg1 (n2 r hr)⟩
  have keep2 := h.keep.grown hg1 (fun q e => .inl (hsf q e))
  have hv2 : IntsOwn w2 B [] v2 (List.replicate n m) := IntsOwn.of (by rw [List.length_replicate]; exact ho2)
  -- behind the second
  have ne2 : ∀ {r : Value} {ps : List Int}, IntsOwn w2 B [] r ps → r.ownBlock = none ∨ r.ownBlock ≠ av.ownBlock := fun hI => own_ne hI.own own2 (by decide)
  have row3 := row2.kept hg3 (own_ne row2 own2 (by decide))
  have ints3 : ∀ (j : Nat) x r, k + 1 ≤ j → l[j]? = some x → sls[j]? = some r → IntsOwn w3 B [] r x.pieces := fun j x r hj h1 h2 => (ints2 j x r hj h1 h2).keep hg3 (ne2 (ints2 j x r hj h1 h2))
  have each3 : ∀ r ∈ rs ++ [v2], ∃ n, n ≤ 2000002 ∧ IntsOwn w3 B [] r (List.replicate n m) := by
    intro r hr
    rcases List.mem_append.1 hr with hr | hr
    · obtain ⟨n, hn, hI⟩ := each2 r hr
      exact ⟨n, hn, hI.keep hg3 (ne2 hI)⟩
    · have : r = v2 := by simpa using hr
      subst this
      exact ⟨n, hn, hv2.keep hg3 (ne2 hv2)⟩
  have keep3 := keep2.grown hg3 (fun q e => .inr (avg q e))
  -- behind the store
  have hg4 := grown_set w3 g (k * 6) u
  have ne4 : ∀ {r : Value} {ps : List Int}, IntsOwn w3 B [] r ps → r.ownBlock = none ∨ r.ownBlock ≠ some g := fun hI => by rw [← hvg]; exact own_ne hI.own row3 (by decide)
  subst hv
  refine ⟨⟨_, own_setS row3 u, fun j r hj hr => ?_⟩, fun j x r hj h1 h2 => (ints3 j x r hj h1 h2).keep hg4 (ne4 (ints3 j x r hj h1 h2)), ho3.kept hg4 (by rw [← hvg]; exact own_ne ho3 row3 (by decide)), fun r hr => ?_, fun r hr q e => ?_, fun r hr j t q hj ht e => ?_, keep3.grown hg4 (fun q e => by cases e; exact .inl (hvf g hvg))⟩
  · rw [List.getElem?_set_ne (by omega)]
    exact hxs j r (by omega) hr
  · obtain ⟨n, hn, hI⟩ := each3 r hr
    exact ⟨n, hn, hI.keep hg4 (ne4 hI)⟩
  · rcases List.mem_append.1 hr with hr | hr
    · exact h.foot r hr q e
    · have : r = v2 := by simpa using hr
      subst this
      rcases hat with e2 | ⟨g2, e2, hg2⟩
      · exact .inl (hsf q (by rw [← e2]; exact e))
      · rw [e2] at e; cases e; exact .inr (by omega)
  · rcases List.mem_append.1 hr with hr | hr
    · exact h.apart r hr j t q (by omega) ht e
    · have : r = v2 := by simpa using hr
      subst this
      intro e3
      rcases hat with e2 | ⟨g2, e2, hg2⟩
      · have := hA j k t s q ht hks e3 (by rw [← e2]; exact e)
        omega
      · rw [e2] at e; cases e
        have := (hf _ (.inr ⟨t, List.mem_of_getElem? ht, e3⟩)).2
        omega
/-- What marked answers. -/
def MarkAns (Wc W : World) (B hi len : Nat) (m : Int) (e : Ending) : Prop := ∃ va rs, e = .returned va ∧ Marks W B va rs m ∧ rs.length = len ∧ Keep B hi Wc W ∧ ∀ g, Foot va rs g → (B ≤ g ∧ g < hi) ∨ Wc.heap.size ≤ g
theorem Mk.ans {Wc wr : World} {B hi : Nat} {v av : Value} {l : List PItem} {sls rs : List Value} {m : Int} {k : Nat} (h : Mk Wc wr B hi v av l sls rs m k) (hB : B ≤ Wc.heap.size) : MarkAns Wc wr B hi k m (.returned av) := by
  have hlen : rs.length = k := by have := h.own.1; omega
  refine ⟨av, rs, rfl, ⟨by rw [hlen]; exact own_base h.own hB, h.each⟩, hlen, h.keep, fun g hg => ?_⟩
  rcases hg with e | ⟨s, hs, e⟩
  · exact .inr (h.own.lt g e).1
  · exact h.foot s hs g e
theorem rowInfo : ∃ i0, Tryz.prog.info? 40 = some i0 ∧ i0.zero = some (.slice none 0 0) ∧ i0.size = 1 ∧ i0.bytes = 24 := info3 (by kernel_rfl)
set_option maxRecDepth 100000 in
set_option maxHeartbeats 4000000 in
theorem bears_any (W : World) (B : Nat) (va : Value) (rs : List Value) (m : Int) (h : Marks W B va rs m) (hl : rs.length ≤ 2000000) :
    Calls Tryz.prog 8 #[va, .int .i64 m] W fun e w' => e = .returned (.bool true) ∧ W = w' := by
  obtain ⟨a, c, rfl⟩ := own_form h.own
  go_enter Tryz.func8, Tryz.ntmps8
  go_wp2
  go_loop [11] (fun i => ∃ k : Nat, k ≤ rs.length ∧ i = .int .i64 k) (fun i => rs.length - (intOf i).toNat)
  case atStart => exact ⟨0, Nat.zero_le _, rfl⟩
  case round =>
    obtain ⟨k, hk, rfl⟩ := hrel
    by_cases hlt : k < rs.length
    · obtain ⟨s, hs⟩ : ∃ s, rs[k]? = some s := ⟨_, List.getElem?_eq_getElem hlt⟩
      obtain ⟨n, hn, hI⟩ := h.each s (List.mem_of_getElem? hs)
      obtain ⟨g, cap, e1, hBg, hgl, hcn, hcm, hcell, _⟩ := own_at h.own (by omega)
      cases e1
      have hki : (k : Int) < (rs.length : Int) := by omega
      have d0 := (hcell k (by omega)).trans hs
      have hO := hI.own
      rw [List.length_replicate] at hO
      obtain ⟨sa, sc, rfl⟩ := own_form hO
      have hcl : ∀ j, j < n → ∃ g2, sa = some ⟨g2, 0, none⟩ ∧ W.cell? ⟨g2, j, none⟩ = some (.int .i64 m) ∧ n ≤ sc ∧ sc ≤ 9223372036854775807 := by
        intro j hj
        obtain ⟨g2, c2, e2, _, _, h5, h6, hc2, _⟩ := own_at hO (by omega)
        cases e2
        refine ⟨g2, rfl, ?_, h5, h6⟩
        rw [hc2 j (by omega)]
        simp [intV, hj]
      clear hcell hs hI hO
      go_wp2
      go_loop [17] (fun i => ∃ j : Nat, j ≤ n ∧ i = .int .i64 j) (fun i => n - (intOf i).toNat)
      case atStart => exact ⟨0, Nat.zero_le _, rfl⟩
      case round =>
        obtain ⟨j, hj, rfl⟩ := hrel
        by_cases hjl : j < n
        · obtain ⟨g2, rfl, hc3, h5, h6⟩ := hcl j hjl
          have hji : (j : Int) < (n : Int) := by omega
          clear hcl
          go_wp2
          go_round
          case rel => exact ⟨j + 1, by omega, by go_num⟩
          case measure => simp [intOf]; omega
        · clear hcl
          go_wp2
          go_round
          case rel => exact ⟨k + 1, by omega, by go_num⟩
          case measure => simp [intOf]; omega
    · go_wp2
      go_ret
      exact ⟨rfl, rfl⟩
theorem grown_any {W W' : World} (h : W.grownBy W' none) (row : Option Nat) : W.grownBy W' row := ⟨h.os, h.tape, h.output, h.size, fun k hk _ => h.block k hk (by simp)⟩
theorem rep2 (n : Nat) (m : Int) : intV (List.replicate n m) ++ [.int .i64 m, .int .i64 m] = intV (List.replicate (n + 2) m) := by
  unfold intV
  rw [show List.replicate (n + 2) m = List.replicate n m ++ [m, m] by rw [List.replicate_succ', List.replicate_succ']; simp]
  simp
set_option maxRecDepth 100000 in
set_option maxHeartbeats 4000000 in
theorem marked_any (Wc : World) (B hi : Nat) (v : Value) (l : List PItem) (sls : List Value) (m : Int) (h : Its B Wc 50 v l sls) (hA : Apart sls) (hf : ∀ g, Foot v sls g → B ≤ g ∧ g < hi) (hhi : hi ≤ Wc.heap.size) (hB : B ≤ Wc.heap.size) (hs : ∀ x ∈ l, Sane x) (hl : l.length ≤ 2000000) :
    Calls Tryz.prog 7 #[v, .int .i64 m] Wc fun e w' => MarkAns Wc w' B hi l.length m e := by
  obtain ⟨i0, hi0, hz0, hz1, hz2⟩ := intInfo
  obtain ⟨j0, hj0, hy0, hy1, hy2⟩ := rowInfo
  have hS := Mk.start (hi := hi) h m
  obtain ⟨va, vc, rfl⟩ := own_form h.own
  have HLn := Lib.hid h.len
  clear h
  go_enter Tryz.func7, Tryz.ntmps7
  go_wp2
  go_loopw [5, 11] (fun av iv wr => ∃ (k : Nat) (rs : List Value), k ≤ l.length ∧ iv = .int .i64 k ∧ Mk Wc wr B hi (.slice va l.length vc) av l sls rs m k) (fun _ i _ => l.length - (intOf i).toNat)
  case atStart => exact ⟨0, [], Nat.zero_le _, rfl, hS⟩
  case round =>
    obtain ⟨k, rs, hk, rfl, hM⟩ := hrel
    clear hS
    by_cases hlt : k < l.length
    · obtain ⟨x, hx⟩ : ∃ x, l[k]? = some x := ⟨_, List.getElem?_eq_getElem hlt⟩
      have hki : (k : Int) < (l.length : Int) := by omega
      have hmany := (hs x (List.mem_of_getElem? hx)).many
      obtain ⟨xs, hrow, hxs⟩ := hM.row
      obtain ⟨s, hks⟩ : ∃ s, sls[k]? = some s := ⟨_, List.getElem?_eq_getElem (by rw [← HLn.out]; exact hlt)⟩
      have hsI := (hM.ints k x s (Nat.le_refl _) hx hks).own
      obtain ⟨g, cap, e1, hBg, hgl, hcn, hcm, hcell, hfz⟩ := own_at hrow (by omega)
      cases e1
      have d4 : wr.cell? ⟨g, k * 6 + 4, none⟩ = some s := (hcell (k * 6 + 4) (by omega)).trans (hxs k s (Nat.le_refl _) hks)
      obtain ⟨sa, sc, rfl⟩ := own_form hsI
      have hkr := hk
      clear hcell hfz hxs
      obtain ⟨wo, rfl⟩ : ∃ wo : World, wo = wr := ⟨_, rfl⟩
      go_wp2
      go_loopw [21] (fun iv wy => ∃ j : Nat, j ≤ x.pieces.length ∧ iv = .int .i64 j ∧ wy.ownsRow B 3 1 (.slice sa x.pieces.length sc) x.pieces.length (intV (List.replicate j m ++ x.pieces.drop j)) ∧ wo.grownBy wy (Value.slice sa x.pieces.length sc).ownBlock) (fun i _ => x.pieces.length - (intOf i).toNat)
      case atStart => exact ⟨0, Nat.zero_le _, rfl, hsI, World.grownBy.refl _ _⟩
      case round =>
        obtain ⟨j, hj, rfl, hO, hG⟩ := hrel
        by_cases hjl : j < x.pieces.length
        · obtain ⟨g2, c2, e2, _, hg2l, hc2n, hc2m, hcell2, hfz2⟩ := own_at hO (by omega)
          cases e2
          have hji : (j : Int) < (x.pieces.length : Int) := by omega
          obtain ⟨u, hu⟩ : ∃ u, wr.cell? ⟨g2, j, none⟩ = some u := ⟨_, (hcell2 j (by omega)).trans (List.getElem?_eq_getElem (by have := hO.1; omega))⟩
          have f2 := hfz2 j
          have hO2 := own_setS (i := j) hO (.int .i64 m)
          rw [replicate_step x.pieces.length j m x.pieces rfl hjl] at hO2
          have hG2 := hG.trans (grown_set wr g2 j (.int .i64 m))
          clear hcell2 hfz2 hO hG hsI hrow
          go_wp2
          go_roundw
          case rel => exact ⟨j + 1, by omega, by go_num, hO2, hG2⟩
          case measure => simp [intOf]; omega
        · obtain rfl : j = x.pieces.length := by omega
          rw [List.drop_length, List.append_nil] at hO
          have hmm := hO.alloc (.cells #[.int .i64 m, .int .i64 m] 3)
          have hws := hM.keep.size
          have hbw : B ≤ (wr.alloc (.cells #[.int .i64 m, .int .i64 m] 3)).heap.size := by have := hG.size; rw [World.size_alloc]; omega
          have hO2 := (hM.own.kept hG (own_ne hM.own hsI (by decide))).alloc (.cells #[.int .i64 m, .int .i64 m] 3)
          have hR2 := (hrow.kept hG (own_ne hrow hsI (by decide))).alloc (.cells #[.int .i64 m, .int .i64 m] 3)
          have hG2 := hG.trans (grown_any (grown_alloc wr (.cells #[.int .i64 m, .int .i64 m] 3)) (Value.slice sa x.pieces.length sc).ownBlock)
          have hzG := hG.size
          have hW2 : (wr.alloc (.cells #[.int .i64 m, .int .i64 m] 3)).heap.size = wr.heap.size + 1 := by simp
          have HW2 := Lib.hid hW2
          clear hW2 d4 hG hO
          go_wp2_with (first
            | (at_builtin; refine wpList_append_own_at _ rfl (.tmp 30) (.tmp 33) 40 rfl B 3 i0 (.int .i64 0) 1 8 Tryz.underlying40 hi0 hz0 hz1 hz2 rfl (by decide) _ x.pieces.length _ rfl hmm ⟨wr.heap.size, 0, none⟩ 2 2 [.int .i64 m, .int .i64 m] rfl rfl (news_new _ _ _) (intV_one [m, m]) (by unfold maxLen; omega) (by omega) hbw ?_; intro v2 w2 ho2 hg2 _ hat2; obtain ⟨v2a, v2c, rfl⟩ := own_form ho2; have hO3 := hO2.kept hg2 (own_ne hO2 hmm (by decide)); have hO4 := hO3.alloc (.cells #[.slice v2a (x.pieces.length + 2) v2c] 40); have hR3 := hR2.kept hg2 (own_ne hR2 hmm (by decide)); have hR4 := hR3.alloc (.cells #[.slice v2a (x.pieces.length + 2) v2c] 40); have hz4 : Wc.heap.size ≤ (w2.alloc (.cells #[.slice v2a (x.pieces.length + 2) v2c] 40)).heap.size := (by have h1 := hg2.size; have h2 := HW2.out; rw [World.size_alloc]; omega))
            | (at_builtin; refine wpList_append_own_at _ rfl (.tmp 29) (.tmp 35) 31 rfl Wc.heap.size 40 j0 (.slice none 0 0) 1 24 Tryz.underlying31 hj0 hy0 hy1 hy2 rfl (by decide) _ k _ rfl hO4 ⟨w2.heap.size, 0, none⟩ 1 1 [.slice v2a (x.pieces.length + 2) v2c] rfl rfl (news_new _ _ _) (by intro u hu; rw [List.mem_singleton] at hu; subst hu; rfl) (by unfold maxLen; omega) (by omega) hz4 ?_; intro v3 w3 ho3 hg3 _ _; have hR5 := hR4.kept hg3 (own_ne hR4 hO4 (by decide)); obtain ⟨g6, c6, e6, _, _, _, _, hcell6, hfz6⟩ := own_at hR5 (by omega); cases e6; obtain ⟨u6, hu6⟩ : ∃ u, w3.cell? ⟨g, k * 6, none⟩ = some u := ⟨_, (hcell6 (k * 6) (by omega)).trans (List.getElem?_eq_getElem (by have := hR5.1; omega))⟩; have f6 := hfz6 (k * 6); clear hcell6 hfz6))
          rw [rep2] at ho2
          have hat : (Value.slice v2a (x.pieces.length + 2) v2c).ownBlock = (Value.slice sa x.pieces.length sc).ownBlock ∨ ∃ g, (Value.slice v2a (x.pieces.length + 2) v2c).ownBlock = some g ∧ wo.heap.size ≤ g := by
            rcases hat2 with e | e
            · exact .inl e
            · exact .inr ⟨_, e, by rw [HW2.out]; omega⟩
          have hN := hM.next (u := .string ⟨#[33]⟩) hA hf hhi hks hx (hG2.trans hg2) (by omega) ho2 hat ((grown_any (grown_alloc w2 (.cells #[.slice v2a (x.pieces.length + 2) v2c] 40)) _).trans hg3) ho3 rfl
          go_roundw
          case rel => exact ⟨k + 1, _, by omega, by go_num, hN⟩
          case measure => simp [intOf]; omega
    · obtain rfl : k = l.length := by omega
      go_wp2
      go_ret
      exact hM.ans hB
end Pw
end Go.Proofs.YtnmgdlmicgbapaaGreatDoor
