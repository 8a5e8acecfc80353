/- The walk of Parse: a line as a call. -/
import Derived.Test.YtjloonijnbfhhaaDoorRPrint
import Derived.Test.YtjloonijnbfhhaaDoorRPieces
import Derived.IntWalk
namespace Go.Proofs.YtjloonijnbfhhaaDoor
open Go.RowKit Go.Maps Go.WideShapes Qw

namespace Rw
/-- What Parse answers. -/
def PParse (w : World) (o : Option Cl.PCall) (e : Ending) (w' : World) : Prop :=
  Below w.heap.size w w' ∧ e = .returned (.tuple #[cv (o.getD (Cl.zero 0)), .int .i64 (if o.isSome then 0 else 250)])
theorem pparse_none {w w' : World} {o : Option Cl.PCall} (h : o = none) (hb : Below w.heap.size w w') : PParse w o (.returned (.tuple #[.agg #[.int .i64 0, .string ⟨#[]⟩, .string ⟨#[]⟩, .int .i64 0, .int .i64 0, .string ⟨#[]⟩], .int .i64 250])) w' := by
  subst h; exact ⟨hb, rfl⟩
theorem pparse_some {w w' : World} {o : Option Cl.PCall} {c : Cl.PCall} (h : o = some c) (hb : Below w.heap.size w w') : PParse w o (.returned (.tuple #[.agg #[.int .i64 c.kind, .string (mk c.path), .string (mk c.other), .int .i64 c.off, .int .i64 c.size, .string (mk c.data)], .int .i64 0])) w' := by
  subst h; exact ⟨hb, rfl⟩
theorem parse_cut {l : List UInt8} {o : Option (List (List UInt8))} (h : Cl.toks Cl.tokP l = o) : Cl.parse l = o.bind Cl.parseToks := by
  unfold Cl.parse; rw [h]
/-- The words of a line, where they lie. -/
theorem strs_at {w : World} {base : Nat} {v : Value} {t : List UInt8} {ts : List (List UInt8)} (h : w.ownsRow base 9 1 v (strsV (t :: ts)).length (strsV (t :: ts))) :
    ∃ g cap, v = .slice (some ⟨g, 0, none⟩) (ts.length + 1) cap ∧ base ≤ g ∧ g < w.heap.size ∧ ts.length + 1 ≤ cap ∧ cap ≤ 9223372036854775807 ∧ w.cell? ⟨g, 0, none⟩ = some (.string (mk t)) ∧ ∀ j u, ts[j]? = some u → w.cell? ⟨g, 1 + j, none⟩ = some (.string (mk u)) := by
  have e : (strsV (t :: ts)).length = ts.length + 1 := by simp [strsV]
  rw [e] at h
  obtain ⟨g, cap, h1, h2, h3, h4, h5, h6, _⟩ := own_at h (by omega)
  refine ⟨g, cap, h1, h2, h3, h4, h5, (h6 0 (by omega)).trans rfl, fun j u hj => ?_⟩
  have hl := (List.getElem?_eq_some_iff.1 hj).1
  rw [h6 (1 + j) (by omega), Nat.add_comm 1 j]
  exact strsV_at (l := t :: ts) (j := j + 1) hj
theorem strs_none {w : World} {base : Nat} {v : Value} (h : w.ownsRow base 9 1 v (strsV []).length (strsV [])) : ∃ a c, v = .slice a 0 c := by
  rcases h.2 with ⟨h, _⟩ | ⟨g, cap, _, h, _⟩
  · exact ⟨_, _, h⟩
  · exact ⟨_, _, h⟩

/-- While a row's places are read: the call lies in block g3, the row's own things in the blocks ahead of it. -/
structure Inner (w1 : World) (N r g3 : Nat) (cmd : List UInt8) (ps : List Nat) (ao : Option Addr) (f : Nat) (wx : World) : Prop where
  below : Below w1.heap.size w1 wx
  le : w1.heap.size ≤ g3
  lt : g3 < wx.heap.size
  old : ∃ W3 D, W3.heap.size = g3 ∧ Tab N W3 W3 15 D ∧ SliceP N W3 (.slice ao ps.length ps.length) ps ∧ W3.heap[r]? = some (.cells #[.string (mk cmd), .slice ao ps.length ps.length, fn f] 69 (0, 0)) ∧ ∀ b, b < g3 → wx.heap[b]? = W3.heap[b]?
theorem Inner.facts {w1 : World} {N r g3 : Nat} {cmd : List UInt8} {ps : List Nat} {ao : Option Addr} {f : Nat} {wx : World} (h : Inner w1 N r g3 cmd ps ao f wx) :
    (∃ D, Tab N wx wx 15 D) ∧ SliceP N wx (.slice ao ps.length ps.length) ps ∧ wx.cell? ⟨r, 1, none⟩ = some (.slice ao ps.length ps.length) ∧ (∀ gp, ao = some ⟨gp, 0, none⟩ → gp < g3) ∧ r < g3 := by
  obtain ⟨W3, D, hs, hT, hS, hr, hb⟩ := h.old
  have hlt := h.lt
  refine ⟨⟨D, tab_far hT (by omega) (fun b _ hlt => hb b (by omega))⟩, slice_far hS (by omega) (fun b _ hlt => hb b (by omega)), ?_⟩
  have hgp : ∀ gp, ao = some ⟨gp, 0, none⟩ → gp < g3 := by
    intro gp e
    rcases hS with ⟨_, h⟩ | ⟨g, h, h1, _⟩
    · rw [e] at h; cases h
    · rw [e] at h; cases h; omega
  have hrl : r < g3 := by
    by_cases e : r < W3.heap.size
    · omega
    · rw [Array.getElem?_eq_none (by omega)] at hr; cases hr
  have : wx.heap[r]? = _ := (hb r hrl).trans hr
  exact ⟨by simp [World.cell?, this], hgp, hrl⟩
theorem grown_cell {W w' : World} {g b o : Nat} (hg : W.grownBy w' (some g)) (hb : b < W.heap.size) (hne : b ≠ g) : w'.cell? ⟨b, o, none⟩ = W.cell? ⟨b, o, none⟩ :=
  World.cell?_of_block (hg.block b hb (fun e => hne (by injection e)))
theorem vars_drew {W : World} (h : Vars W) : Vars W.drew := ⟨h.tab, h.bad, h.out⟩
theorem grown_drew {W w' : World} {g n : Nat} (hg : (W.drewN n).grownBy w' (some g)) : W.grownBy w' (some g) := ⟨hg.os, hg.tape, hg.output, hg.size, hg.block⟩
theorem grown_drew1 {W w' : World} {g : Nat} (hg : W.drew.grownBy w' (some g)) : W.grownBy w' (some g) := ⟨hg.os, hg.tape, hg.output, hg.size, hg.block⟩
theorem Inner.step {w1 : World} {N r g3 : Nat} {cmd : List UInt8} {ps : List Nat} {ao : Option Addr} {f : Nat} {wx wy : World} (h : Inner w1 N r g3 cmd ps ao f wx) (hg : wx.grownBy wy (some g3)) : Inner w1 N r g3 cmd ps ao f wy where
  below := h.below.grown hg h.below.size (fun j hj => by cases hj; exact h.le)
  le := h.le
  lt := Nat.lt_of_lt_of_le h.lt hg.size
  old := by
    obtain ⟨W3, D, hs, hT, hS, hr, hb⟩ := h.old
    exact ⟨W3, D, hs, hT, hS, hr, fun b hlt => (hg.block b (by have := h.lt; omega) (fun e => by injection e with e; omega)).trans (hb b hlt)⟩
/-- How far the places are filled. -/
def Filled (z : Cl.PCall) (ps : List Nat) (ts : List (List UInt8)) (g3 i : Nat) (b : Bool) (wx : World) : Prop :=
  (b = true ∧ ps.length = ts.length ∧ ∃ d, Holds wx g3 d ∧ Cl.fill z ps ts = Cl.fill d (ps.drop i) (ts.drop i)) ∨ (b = false ∧ Cl.fill z ps ts = none)
theorem fill_len : ∀ (ps : List Nat) (ts : List (List UInt8)) (d : Cl.PCall), ps.length ≠ ts.length → Cl.fill d ps ts = none
  | [], [], d, h => absurd rfl h
  | [], _ :: _, d, h => rfl
  | _ :: _, [], d, h => rfl
  | p :: ps, t :: ts, d, h => by
    simp only [Cl.fill]
    cases Cl.put d t p with
    | none => rfl
    | some e => exact fill_len ps ts e (fun h' => h (by simp [h']))
theorem filled0 {z : Cl.PCall} {ps : List Nat} {ts : List (List UInt8)} {g3 : Nat} {wx : World} {b : Bool} (h : Holds wx g3 z) (hb : b = decide (ts.length = ps.length)) : Filled z ps ts g3 0 b wx := by
  subst hb
  by_cases e : ts.length = ps.length
  · exact .inl ⟨by simp [e], e.symm, z, h, rfl⟩
  · exact .inr ⟨by simp [e], fill_len _ _ _ (fun h => e h.symm)⟩
theorem filled_step {z d : Cl.PCall} {ps : List Nat} {ts : List (List UInt8)} {g3 i p : Nat} {t : List UInt8} {wy : World} (hp : ps[i]? = some p) (ht : ts[i]? = some t) (hl : ps.length = ts.length) (hf : Cl.fill z ps ts = Cl.fill d (ps.drop i) (ts.drop i))
    (hy : ∀ e, Cl.put d t p = some e → Holds wy g3 e) : Filled z ps ts g3 (i + 1) (Cl.put d t p).isSome wy := by
  have e1 : ps.drop i = p :: ps.drop (i + 1) := by
    obtain ⟨h1, h2⟩ := List.getElem?_eq_some_iff.1 hp
    rw [List.drop_eq_getElem_cons h1, h2]
  have e2 : ts.drop i = t :: ts.drop (i + 1) := by
    obtain ⟨h1, h2⟩ := List.getElem?_eq_some_iff.1 ht
    rw [List.drop_eq_getElem_cons h1, h2]
  rw [e1, e2] at hf
  simp only [Cl.fill] at hf
  cases hq : Cl.put d t p with
  | none => rw [hq] at hf; exact .inr ⟨rfl, hf⟩
  | some e => rw [hq] at hf; exact .inl ⟨rfl, hl, e, hy e hq, hf⟩
theorem filled_end {z d : Cl.PCall} {ps : List Nat} {ts : List (List UInt8)} (hl : ps.length = ts.length) (hf : Cl.fill z ps ts = Cl.fill d (ps.drop ps.length) (ts.drop ps.length)) : Cl.fill z ps ts = some d := by
  rw [hf, List.drop_length, hl, List.drop_length]; rfl
theorem parse_none {t : List UInt8} {ts : List (List UInt8)} (h : ∀ m, m < 15 → ∀ r, Cl.rowsT[m]? = some r → r.1 ≠ t) : Cl.parseToks (t :: ts) = none := by
  simp only [Cl.parseToks]
  cases hk : Cl.kindOf t with
  | none => rfl
  | some k =>
    obtain ⟨ps, hps⟩ := Cl.kindOf_at hk
    exact absurd rfl (h k (List.getElem?_eq_some_iff.1 hps).1 _ hps)
theorem parse_fill {t : List UInt8} {ts : List (List UInt8)} {n : Nat} {ps : List Nat} (h : Cl.rowsT[n]? = some (t, ps)) : Cl.parseToks (t :: ts) = Cl.fill (Cl.zero ((n : Int) + 1)) ps ts := by
  simp only [Cl.parseToks, (Cl.rows_at h).1, h]
theorem none_of_ne {t : List UInt8} {n : Nat} {r : List UInt8 × List Nat} (h : ∀ m, m < n → ∀ r, Cl.rowsT[m]? = some r → r.1 ≠ t) (hr : Cl.rowsT[n]? = some r) (hne : r.1 ≠ t) : ∀ m, m < n + 1 → ∀ r, Cl.rowsT[m]? = some r → r.1 ≠ t := by
  intro m hm q hq
  by_cases e : m = n
  · subst e; rw [hr] at hq; cases hq; exact hne
  · exact h m (by omega) q hq
theorem tellF_at {n : Nat} (hn : n < 15) : ∃ f, tellF[n]? = some f := ⟨_, List.getElem?_eq_getElem (by exact hn)⟩
theorem rowsT_at {n : Nat} (hn : n < 15) : ∃ cmd ps, Cl.rowsT[n]? = some (cmd, ps) := ⟨_, _, List.getElem?_eq_getElem (by exact hn)⟩
/-- The block of the result. -/
theorem res_at {w w1 wx : World} {t : TypeId} {cs : Array Value} (hb1 : Below (w.alloc (.cells cs t)).heap.size (w.alloc (.cells cs t)) w1) (hbx : Below w1.heap.size w1 wx) : wx.heap[w.heap.size]? = some (.cells cs t (0, 0)) :=
  (hbx.block w.heap.size (by have := hb1.size; simp at this; omega)).trans ((hb1.block w.heap.size (by simp)).trans (heap_alloc_new w _))
theorem res_cells {w1 : World} {b : Nat} {z : Cl.PCall} (h : Holds w1 b z) (v0 v1 v2 v3 v4 v5 : Value) :
    (w1.setCell ⟨b, 0, none⟩ v0).cell? ⟨b, 0, none⟩ = some v0 ∧
    ((w1.setCell ⟨b, 0, none⟩ v0).setCell ⟨b, 1, none⟩ v1).cell? ⟨b, 1, none⟩ = some v1 ∧
    (((w1.setCell ⟨b, 0, none⟩ v0).setCell ⟨b, 1, none⟩ v1).setCell ⟨b, 2, none⟩ v2).cell? ⟨b, 2, none⟩ = some v2 ∧
    ((((w1.setCell ⟨b, 0, none⟩ v0).setCell ⟨b, 1, none⟩ v1).setCell ⟨b, 2, none⟩ v2).setCell ⟨b, 3, none⟩ v3).cell? ⟨b, 3, none⟩ = some v3 ∧
    (((((w1.setCell ⟨b, 0, none⟩ v0).setCell ⟨b, 1, none⟩ v1).setCell ⟨b, 2, none⟩ v2).setCell ⟨b, 3, none⟩ v3).setCell ⟨b, 4, none⟩ v4).cell? ⟨b, 4, none⟩ = some v4 ∧
    ((((((w1.setCell ⟨b, 0, none⟩ v0).setCell ⟨b, 1, none⟩ v1).setCell ⟨b, 2, none⟩ v2).setCell ⟨b, 3, none⟩ v3).setCell ⟨b, 4, none⟩ v4).setCell ⟨b, 5, none⟩ v5).cell? ⟨b, 5, none⟩ = some v5 := by
  have h0 := heap_setCell_same _ _ 0 _ _ v0 h
  have h1 := heap_setCell_same _ _ 1 _ _ v1 h0
  have h2 := heap_setCell_same _ _ 2 _ _ v2 h1
  have h3 := heap_setCell_same _ _ 3 _ _ v3 h2
  have h4 := heap_setCell_same _ _ 4 _ _ v4 h3
  have h5 := heap_setCell_same _ _ 5 _ _ v5 h4
  refine ⟨?_, ?_, ?_, ?_, ?_, ?_⟩
  · simp [World.cell?, h0, cvs]
  · simp [World.cell?, h1, cvs]
  · simp [World.cell?, h2, cvs]
  · simp [World.cell?, h3, cvs]
  · simp [World.cell?, h4, cvs]
  · simp [World.cell?, h5, cvs]
theorem below_res {w w1 : World} {o : Obj} {v0 v1 v2 v3 v4 v5 : Value} (h : Below (w.alloc o).heap.size (w.alloc o) w1) : Below w.heap.size w ((((((w1.setCell ⟨w.heap.size, 0, none⟩ v0).setCell ⟨w.heap.size, 1, none⟩ v1).setCell ⟨w.heap.size, 2, none⟩ v2).setCell ⟨w.heap.size, 3, none⟩ v3).setCell ⟨w.heap.size, 4, none⟩ v4).setCell ⟨w.heap.size, 5, none⟩ v5) :=
  ((((((below_over h).setCell (Nat.le_refl _) _).setCell (Nat.le_refl _) _).setCell (Nat.le_refl _) _).setCell (Nat.le_refl _) _).setCell (Nat.le_refl _) _).setCell (Nat.le_refl _) _
theorem ne_list {a b : List UInt8} (h : a ≠ b) : ((mk a).toList == (mk b).toList) = false := by
  rw [toList_bs, toList_bs, bs_mk, bs_mk, beq_eq_false_iff_ne]; exact h
theorem holds_new (W : World) (k : Int) (g : Nat) (hg : g = W.heap.size) : Holds (W.alloc (.cells #[.int .i64 k, .string ⟨#[]⟩, .string ⟨#[]⟩, .int .i64 0, .int .i64 0, .string ⟨#[]⟩] 23)) g (Cl.zero k) := by
  subst hg; exact heap_alloc_new _ _
theorem inner_new {w1 wr w2 : World} {D : DataW Value} {cmd : List UInt8} {ps : List Nat} {ao : Option Addr} {f nq : Nat} {cs : Array Value} (hT : Tab wr.heap.size wr w2 15 D) (hS : SliceP wr.heap.size w2 (.slice ao ps.length ps.length) ps) (hb : Below w1.heap.size w1 w2) :
    Inner w1 wr.heap.size w2.heap.size (w2.heap.size + 1) cmd ps ao f (((w2.alloc (.cells #[.string (mk cmd), .slice ao ps.length ps.length, fn f] 69)).drewN nq).alloc (.cells cs 23)) where
  below := (below_drewN (hb.alloc hb.size _) _).alloc (by have := hb.size; simp; omega) _
  le := by have := hb.size; omega
  lt := by simp
  old := ⟨w2.alloc (.cells #[.string (mk cmd), .slice ao ps.length ps.length, fn f] 69), D, by simp, tab_alloc hT _, slice_far hS (by simp) (fun b _ hb => heap_alloc_old _ _ hb), heap_alloc_new _ _, fun b hlt => heap_alloc_old _ _ (by simpa using hlt)⟩

set_option maxRecDepth 100000 in
set_option maxHeartbeats 4000000 in
theorem parse_bad (s : ByteArray) (w : World) (hs : s.size ≤ 1000000000000) (h : Cl.toks Cl.tokP (bs s) = none) : Calls Tryd.prog 13 #[.string s] w (PParse w (Cl.parse (bs s))) := by
  have HP := Lib.hid (parse_cut h)
  have HT := Lib.hid h
  clear h
  go_enter Tryd.func13, Tryd.ntmps13
  go_wp2_with (go_at_call 31; refine (pieces_any _ _ hs).mono ?_; rw [HT.out]; rintro e w1 ⟨hb1, v, rfl, hv⟩; have hH : Holds w1 w.heap.size (Cl.zero 0) := res_at hb1 (Below.refl _ _); have k0 : w1.cell? ⟨w.heap.size, 0, none⟩ = some (.int .i64 0) := hH.c0; have k1 : w1.cell? ⟨w.heap.size, 1, none⟩ = some (.string ⟨#[]⟩) := hH.c1; have k2 : w1.cell? ⟨w.heap.size, 2, none⟩ = some (.string ⟨#[]⟩) := hH.c2; have k3 : w1.cell? ⟨w.heap.size, 3, none⟩ = some (.int .i64 0) := hH.c3; have k4 : w1.cell? ⟨w.heap.size, 4, none⟩ = some (.int .i64 0) := hH.c4; have k5 : w1.cell? ⟨w.heap.size, 5, none⟩ = some (.string ⟨#[]⟩) := hH.c5; have kz := hH.z; clear hv)
  exact bodyPost_ret (v := .tuple #[.agg #[.int .i64 0, .string ⟨#[]⟩, .string ⟨#[]⟩, .int .i64 0, .int .i64 0, .string ⟨#[]⟩], .int .i64 250]) (by simp [results, Tryd.results13, go_sem, res_cells hH (.int .i64 0) (.string ⟨#[]⟩) (.string ⟨#[]⟩) (.int .i64 0) (.int .i64 0) (.string ⟨#[]⟩)]) rfl (pparse_none HP.out (below_res hb1))

set_option maxRecDepth 100000 in
set_option maxHeartbeats 4000000 in
theorem parse_nil (s : ByteArray) (w : World) (hs : s.size ≤ 1000000000000) (h : Cl.toks Cl.tokP (bs s) = some []) : Calls Tryd.prog 13 #[.string s] w (PParse w (Cl.parse (bs s))) := by
  have HP := Lib.hid (parse_cut h)
  have HT := Lib.hid h
  clear h
  go_enter Tryd.func13, Tryd.ntmps13
  go_wp2_with (go_at_call 31; refine (pieces_any _ _ hs).mono ?_; rw [HT.out]; rintro e w1 ⟨hb1, v, rfl, hv⟩; obtain ⟨a, c, rfl⟩ := strs_none (hv _ rfl); have hH : Holds w1 w.heap.size (Cl.zero 0) := res_at hb1 (Below.refl _ _); have k0 : w1.cell? ⟨w.heap.size, 0, none⟩ = some (.int .i64 0) := hH.c0; have k1 : w1.cell? ⟨w.heap.size, 1, none⟩ = some (.string ⟨#[]⟩) := hH.c1; have k2 : w1.cell? ⟨w.heap.size, 2, none⟩ = some (.string ⟨#[]⟩) := hH.c2; have k3 : w1.cell? ⟨w.heap.size, 3, none⟩ = some (.int .i64 0) := hH.c3; have k4 : w1.cell? ⟨w.heap.size, 4, none⟩ = some (.int .i64 0) := hH.c4; have k5 : w1.cell? ⟨w.heap.size, 5, none⟩ = some (.string ⟨#[]⟩) := hH.c5; have kz := hH.z; clear hv)
  exact bodyPost_ret (v := .tuple #[.agg #[.int .i64 0, .string ⟨#[]⟩, .string ⟨#[]⟩, .int .i64 0, .int .i64 0, .string ⟨#[]⟩], .int .i64 250]) (by simp [results, Tryd.results13, go_sem, res_cells hH (.int .i64 0) (.string ⟨#[]⟩) (.string ⟨#[]⟩) (.int .i64 0) (.int .i64 0) (.string ⟨#[]⟩)]) rfl (pparse_none HP.out (below_res hb1))

set_option maxRecDepth 100000 in
set_option maxHeartbeats 4000000 in
theorem parse_go (s : ByteArray) (w : World) (hs : s.size ≤ 1000000000000) (hv : Vars w) (t0 : List UInt8) (ts : List (List UInt8)) (h : Cl.toks Cl.tokP (bs s) = some (t0 :: ts)) : Calls Tryd.prog 13 #[.string s] w (PParse w (Cl.parseToks (t0 :: ts))) := by
  have HT := Lib.hid h
  have HS := Lib.hid (fun t ht => Cl.toks_size (bs s) _ h t ht)
  clear h
  go_enter Tryd.func13, Tryd.ntmps13
  go_wp2_with (go_at_call 31; refine (pieces_any _ _ hs).mono ?_; rw [HT.out]; rintro e w1 ⟨hb1, v, rfl, hv1⟩; obtain ⟨gl, cap, rfl, hgb, hgl, hcap, hcm, hc0, hcs⟩ := strs_at (hv1 _ rfl); have HC := Lib.hid hcs; clear hcs hv1)
  go_loopg [6] 15 (fun g s6 wx => ∃ n : Nat, n + g = 15 ∧ s6 = .int .i64 ((n : Int) + 1) ∧ Hid (∀ m, m < n → ∀ r, Cl.rowsT[m]? = some r → r.1 ≠ t0) ∧ Below w1.heap.size w1 wx)
  case atStart => exact ⟨0, rfl, rfl, fun m h => absurd h (Nat.not_lt_zero _), Below.refl _ _⟩
  case round =>
    obtain ⟨n, hng, rfl, HM, hnx⟩ := hrel
    obtain ⟨wo, rfl⟩ : ∃ wo : World, wo = wr := ⟨_, rfl⟩
    have hsz := hnx.size
    cases gk with
    | zero =>
      obtain rfl : n = 15 := by omega
      have HK := Lib.hid (parse_none (ts := ts) HM.out)
      have hH : Holds wo w.heap.size (Cl.zero 0) := res_at hb1 hnx
      have k0 : wo.cell? ⟨w.heap.size, 0, none⟩ = some (.int .i64 0) := hH.c0
      have k1 : wo.cell? ⟨w.heap.size, 1, none⟩ = some (.string ⟨#[]⟩) := hH.c1
      have k2 : wo.cell? ⟨w.heap.size, 2, none⟩ = some (.string ⟨#[]⟩) := hH.c2
      have k3 : wo.cell? ⟨w.heap.size, 3, none⟩ = some (.int .i64 0) := hH.c3
      have k4 : wo.cell? ⟨w.heap.size, 4, none⟩ = some (.int .i64 0) := hH.c4
      have k5 : wo.cell? ⟨w.heap.size, 5, none⟩ = some (.string ⟨#[]⟩) := hH.c5
      have kz := hH.z
      go_wp2
      exact bodyPost_ret (v := .tuple #[.agg #[.int .i64 0, .string ⟨#[]⟩, .string ⟨#[]⟩, .int .i64 0, .int .i64 0, .string ⟨#[]⟩], .int .i64 250]) (by simp [results, Tryd.results13, go_sem, res_cells hH (.int .i64 0) (.string ⟨#[]⟩) (.string ⟨#[]⟩) (.int .i64 0) (.int .i64 0) (.string ⟨#[]⟩)]) rfl (pparse_none HK.out (below_res (hb1.trans (hnx.mono hb1.size))))
    | succ g' =>
      have hn : n < 15 := by omega
      obtain ⟨cmd, ps, hrow⟩ := rowsT_at hn
      obtain ⟨f, hf⟩ := tellF_at hn
      by_cases hcmd : cmd = t0
      · obtain rfl : t0 = cmd := hcmd.symm
        clear hcmd
        have HPF := Lib.hid (parse_fill (ts := ts) hrow)
        have hps3 : (ps.length : Int) ≤ 3 := by have := (Cl.rows_small hrow).2; omega
        go_wp2_with fail
        refine (rows_any _).mono ?_
        rintro e w2 ⟨rfl, D, hT⟩
        obtain ⟨cmd', ps', f', ao, he1, he2, hS, hlook⟩ := tab_look_in hT n hn false
        rw [hrow] at he1
        rw [hf] at he2
        cases he1
        cases he2
        simp only [Bool.false_eq_true, if_false] at hlook
        have hb2 := hnx.trans (hT.below.mono hsz)
        have hs2 := hb2.size
        have hg2 : gl < w2.heap.size := by omega
        have hc2 : w2.cell? ⟨gl, 0, none⟩ = some (.string (mk t0)) := (hb2.cell (p := ⟨gl, 0, none⟩) hgl).trans hc0
        go_wp2
        go_quiet (fail)
        go_wp2
        have hE : Inner w1 wo.heap.size w2.heap.size (w2.heap.size + 1) t0 ps ao f (((w2.alloc (.cells #[.string (mk t0), .slice ao ps.length ps.length, fn f] 69)).drewN nq).alloc (.cells #[.int .i64 ((n : Int) + 1), .string ⟨#[]⟩, .string ⟨#[]⟩, .int .i64 0, .int .i64 0, .string ⟨#[]⟩] 23)) := inner_new hT hS hb2
        clear hT hS hlook hc2
        go_loopg [9, 10] ps.length (fun g s9 s10 wx => ∃ (i : Nat) (b : Bool), i + g = ps.length ∧ s9 = .bool b ∧ s10 = .int .i64 i ∧ Inner w1 wo.heap.size w2.heap.size (w2.heap.size + 1) t0 ps ao f wx ∧ Hid (Filled (Cl.zero ((n : Int) + 1)) ps ts (w2.heap.size + 1) i b wx))
        case atStart => exact ⟨0, _, by omega, rfl, rfl, hE, filled0 (holds_new _ _ _ (by simp)) (by rw [Bool.eq_iff_iff]; simp <;> omega)⟩
        case round =>
          obtain ⟨i, b, hig, rfl, rfl, hI, HF⟩ := hrel
          obtain ⟨⟨D2, hT2⟩, hS2, hrow2, hgpl, hrl⟩ := hI.facts
          have hH : Holds wr w.heap.size (Cl.zero 0) := res_at hb1 hI.below
          rcases HF.out with ⟨rfl, hlen, d, hd, hfill⟩ | ⟨rfl, hnone⟩
          · cases gk with
            | zero =>
              obtain rfl : i = ps.length := by omega
              have HFE := Lib.hid (HPF.out.trans (filled_end hlen hfill))
              have k0 : wr.cell? ⟨w.heap.size, 0, none⟩ = some (.int .i64 0) := hH.c0
              have k1 : wr.cell? ⟨w.heap.size, 1, none⟩ = some (.string ⟨#[]⟩) := hH.c1
              have k2 : wr.cell? ⟨w.heap.size, 2, none⟩ = some (.string ⟨#[]⟩) := hH.c2
              have k3 : wr.cell? ⟨w.heap.size, 3, none⟩ = some (.int .i64 0) := hH.c3
              have k4 : wr.cell? ⟨w.heap.size, 4, none⟩ = some (.int .i64 0) := hH.c4
              have k5 : wr.cell? ⟨w.heap.size, 5, none⟩ = some (.string ⟨#[]⟩) := hH.c5
              have kz := hH.z
              have m0 := hd.c0
              have m1 := hd.c1
              have m2 := hd.c2
              have m3 := hd.c3
              have m4 := hd.c4
              have m5 := hd.c5
              clear hlen hfill hT2 hS2
              go_wp2
              exact bodyPost_ret (v := .tuple #[.agg #[.int .i64 d.kind, .string (mk d.path), .string (mk d.other), .int .i64 d.off, .int .i64 d.size, .string (mk d.data)], .int .i64 0]) (by simp [results, Tryd.results13, go_sem, res_cells hH (.int .i64 d.kind) (.string (mk d.path)) (.string (mk d.other)) (.int .i64 d.off) (.int .i64 d.size) (.string (mk d.data))]) rfl (pparse_some HFE.out (below_res (hb1.trans (hI.below.mono hb1.size))))
            | succ gi =>
              have hip : i < ps.length := by omega
              have hkk : ps[i]? = some ps[i] := List.getElem?_eq_getElem hip
              have hpk : ps[i] < 5 := (Cl.rows_at hrow).2.2.2 _ (List.getElem_mem hip)
              obtain ⟨t, ht⟩ : ∃ t, ts[i]? = some t := ⟨_, List.getElem?_eq_getElem (by omega)⟩
              have hts : (mk t).size ≤ 1000000000000 := by
                have h1 := HS.out t (List.mem_cons_of_mem _ (List.mem_of_getElem? ht))
                rw [bs_len] at h1
                show t.length ≤ _
                omega
              obtain ⟨gp, hao, hgp1, hgN, hcell⟩ : ∃ g, ao = some ⟨g, 0, none⟩ ∧ g < wr.heap.size ∧ wo.heap.size + 1 + 1 + 1 + 1 + 1 + 1 + 1 + 1 + 1 + 1 + 1 + 1 + 1 + 1 + 1 < g ∧ ∀ j, j < 2 * ps.length → wr.cell? ⟨g, j, none⟩ = (cellsP (wo.heap.size) ps)[j]? := by
                rcases hS2 with ⟨h, _⟩ | ⟨g, h, h1, h2, h3⟩
                · rw [h] at hip; cases hip
                · exact ⟨g, by injection h, h1, h2, h3⟩
              obtain ⟨hcp, _⟩ := cellsP_at wo.heap.size ps i _ hkk
              have v0 : wr.cell? ⟨gp, i * 2, none⟩ = some (rd wo.heap.size ps[i]) := (by rw [Nat.mul_comm]; exact (hcell _ (by omega)).trans hcp)
              subst hao
              have hgp2 := hgpl gp rfl
              have hil := hI.lt
              have hile := hI.le
              have hib := hI.below.size
              have hr1 : w2.heap.size < wr.heap.size := by omega
              have hgl1 : gl < wr.heap.size := by omega
              have hcl : wr.cell? ⟨gl, 1 + i, none⟩ = some (.string (mk t)) := (hI.below.cell (p := ⟨gl, 1 + i, none⟩) hgl).trans (HC.out i t ht)
              have hvr : Vars wr := (hv.below (below_over hb1) hv.lt).below hI.below (by have := hv.lt; have := (below_over hb1).size; omega)
              have hTl := hT2.lt
              generalize hpe : ps[i] = p at hkk hpk v0
              clear hpe hS2 hcell hcp hH
              have hcount : (i : Int) + 1 ≤ (ps.length : Int) := by omega
              have hx1 : (0 : Int) ≤ 1 + (i : Int) := by omega
              have hx2 : 1 + (i : Int) < (ts.length : Int) + 1 := by omega
              have hx3 : (1 + (i : Int)).toNat = 1 + i := by omega
              have HLN := Lib.hid hlen
              have hx4 : IntKind.i64.wrap (1 + (i : Int)) = 1 + (i : Int) := IntWalk.i64_in _ (by omega)
              have X3 := Lib.hid hx3
              have X4 := Lib.hid hx4
              clear hx3 hx4 hlen
              have hn1 : w2.heap.size ≠ (w2.heap.size + 1) := by omega
              have hn2 : gp ≠ (w2.heap.size + 1) := by omega
              have hn3 : gl ≠ (w2.heap.size + 1) := by omega
              have hy1 : i + 1 + gi = ps.length := by omega
              obtain rfl | rfl | rfl | rfl | rfl : p = 0 ∨ p = 1 ∨ p = 2 ∨ p = 3 ∨ p = 4 := by omega
              · have v0' : wr.cell? ⟨gp, i * 2, none⟩ = some (.func (Fn.func 75) #[] #[.pointer (some ⟨wo.heap.size, 0, none⟩)]) := v0
                clear v0
                have hbl : wo.heap.size < wr.heap.size := by omega
                go_wp2
                have hx3 := X3.out
                have hx4 := X4.out
                go_region_held3 (fun w' => w'.cell? ⟨w2.heap.size, 1, none⟩ = some (.slice (some ⟨gp, 0, none⟩) ps.length ps.length) ∧ w'.cell? ⟨gp, i * 2, none⟩ = some (.func (Fn.func 75) #[] #[.pointer (some ⟨wo.heap.size, 0, none⟩)]) ∧ w'.cell? ⟨gl, 1 + i, none⟩ = some (.string (mk t))) (go_keep) ((go_at_call 75; refine (read0 (mk t) (wo.heap.size) (w2.heap.size + 1) d _ hts (by exact hbl) (by exact hT2.b0) (by exact hd)).mono ?_; rintro e w' ⟨rfl, hg0, hy⟩; have hg := grown_drew1 hg0; have q1 := (grown_cell (o := 1) hg hr1 hn1).trans hrow2; have q2 := (grown_cell (o := i * 2) hg hgp1 hn2).trans v0'; have q3 := (grown_cell (o := 1 + i) hg hgl1 hn3).trans hcl))
                all_goals
                  clear hx3 hx4
                  go_wp2
                  go_roundg gi
                  case measure => omega
                  case rel => exact ⟨i + 1, _, hy1, rfl, by go_num, hI.step hg, filled_step hkk ht HLN.out hfill hy⟩
              · have v0' : wr.cell? ⟨gp, i * 2, none⟩ = some (.func (Fn.func 75) #[] #[.pointer (some ⟨wo.heap.size + 1 + 1 + 1, 0, none⟩)]) := v0
                clear v0
                have hbl : wo.heap.size + 1 + 1 + 1 < wr.heap.size := by omega
                go_wp2
                have hx3 := X3.out
                have hx4 := X4.out
                go_region_held3 (fun w' => w'.cell? ⟨w2.heap.size, 1, none⟩ = some (.slice (some ⟨gp, 0, none⟩) ps.length ps.length) ∧ w'.cell? ⟨gp, i * 2, none⟩ = some (.func (Fn.func 75) #[] #[.pointer (some ⟨wo.heap.size + 1 + 1 + 1, 0, none⟩)]) ∧ w'.cell? ⟨gl, 1 + i, none⟩ = some (.string (mk t))) (go_keep) ((go_at_call 75; refine (read1 (mk t) (wo.heap.size + 1 + 1 + 1) (w2.heap.size + 1) d _ hts (by exact hbl) (by exact hT2.b1) (by exact hd)).mono ?_; rintro e w' ⟨rfl, hg0, hy⟩; have hg := grown_drew1 hg0; have q1 := (grown_cell (o := 1) hg hr1 hn1).trans hrow2; have q2 := (grown_cell (o := i * 2) hg hgp1 hn2).trans v0'; have q3 := (grown_cell (o := 1 + i) hg hgl1 hn3).trans hcl))
                all_goals
                  clear hx3 hx4
                  go_wp2
                  go_roundg gi
                  case measure => omega
                  case rel => exact ⟨i + 1, _, hy1, rfl, by go_num, hI.step hg, filled_step hkk ht HLN.out hfill hy⟩
              · have v0' : wr.cell? ⟨gp, i * 2, none⟩ = some (.func (Fn.func 75) #[] #[.pointer (some ⟨wo.heap.size + 1 + 1 + 1 + 1 + 1 + 1, 0, none⟩)]) := v0
                clear v0
                have hbl : wo.heap.size + 1 + 1 + 1 + 1 + 1 + 1 < wr.heap.size := by omega
                go_wp2
                have hx3 := X3.out
                have hx4 := X4.out
                go_region_held3 (fun w' => w'.cell? ⟨w2.heap.size, 1, none⟩ = some (.slice (some ⟨gp, 0, none⟩) ps.length ps.length) ∧ w'.cell? ⟨gp, i * 2, none⟩ = some (.func (Fn.func 75) #[] #[.pointer (some ⟨wo.heap.size + 1 + 1 + 1 + 1 + 1 + 1, 0, none⟩)]) ∧ w'.cell? ⟨gl, 1 + i, none⟩ = some (.string (mk t))) (go_keep) ((go_at_call 75; refine (read2 (mk t) (wo.heap.size + 1 + 1 + 1 + 1 + 1 + 1) (w2.heap.size + 1) d _ hts (by exact hbl) (by exact hT2.b2) (by exact hd)).mono ?_; rintro e w' ⟨rfl, hg0, hy⟩; have hg := grown_drew1 hg0; have q1 := (grown_cell (o := 1) hg hr1 hn1).trans hrow2; have q2 := (grown_cell (o := i * 2) hg hgp1 hn2).trans v0'; have q3 := (grown_cell (o := 1 + i) hg hgl1 hn3).trans hcl))
                all_goals
                  clear hx3 hx4
                  go_wp2
                  go_roundg gi
                  case measure => omega
                  case rel => exact ⟨i + 1, _, hy1, rfl, by go_num, hI.step hg, filled_step hkk ht HLN.out hfill hy⟩
              · have v0' : wr.cell? ⟨gp, i * 2, none⟩ = some (.func (Fn.func 77) #[] #[.pointer (some ⟨wo.heap.size + 1 + 1 + 1 + 1 + 1 + 1 + 1 + 1 + 1, 0, none⟩)]) := v0
                clear v0
                have hbl : wo.heap.size + 1 + 1 + 1 + 1 + 1 + 1 + 1 + 1 + 1 < wr.heap.size := by omega
                go_wp2
                have hx3 := X3.out
                have hx4 := X4.out
                go_region_held3 (fun w' => w'.cell? ⟨w2.heap.size, 1, none⟩ = some (.slice (some ⟨gp, 0, none⟩) ps.length ps.length) ∧ w'.cell? ⟨gp, i * 2, none⟩ = some (.func (Fn.func 77) #[] #[.pointer (some ⟨wo.heap.size + 1 + 1 + 1 + 1 + 1 + 1 + 1 + 1 + 1, 0, none⟩)]) ∧ w'.cell? ⟨gl, 1 + i, none⟩ = some (.string (mk t))) (go_keep) ((go_at_call 77; refine (read3 (mk t) (wo.heap.size + 1 + 1 + 1 + 1 + 1 + 1 + 1 + 1 + 1) (w2.heap.size + 1) d _ hts (vars_drew hvr) (by exact hbl) (by exact hT2.b3) (by exact hd)).mono ?_; rintro e w' ⟨rfl, hg0, hy⟩; have hg := grown_drew1 hg0; have q1 := (grown_cell (o := 1) hg hr1 hn1).trans hrow2; have q2 := (grown_cell (o := i * 2) hg hgp1 hn2).trans v0'; have q3 := (grown_cell (o := 1 + i) hg hgl1 hn3).trans hcl))
                all_goals
                  clear hx3 hx4
                  go_wp2
                  go_roundg gi
                  case measure => omega
                  case rel => exact ⟨i + 1, _, hy1, rfl, by go_num, hI.step hg, filled_step hkk ht HLN.out hfill hy⟩
              · have v0' : wr.cell? ⟨gp, i * 2, none⟩ = some (.func (Fn.func 77) #[] #[.pointer (some ⟨wo.heap.size + 1 + 1 + 1 + 1 + 1 + 1 + 1 + 1 + 1 + 1 + 1 + 1, 0, none⟩)]) := v0
                clear v0
                have hbl : wo.heap.size + 1 + 1 + 1 + 1 + 1 + 1 + 1 + 1 + 1 + 1 + 1 + 1 < wr.heap.size := by omega
                go_wp2
                have hx3 := X3.out
                have hx4 := X4.out
                go_region_held3 (fun w' => w'.cell? ⟨w2.heap.size, 1, none⟩ = some (.slice (some ⟨gp, 0, none⟩) ps.length ps.length) ∧ w'.cell? ⟨gp, i * 2, none⟩ = some (.func (Fn.func 77) #[] #[.pointer (some ⟨wo.heap.size + 1 + 1 + 1 + 1 + 1 + 1 + 1 + 1 + 1 + 1 + 1 + 1, 0, none⟩)]) ∧ w'.cell? ⟨gl, 1 + i, none⟩ = some (.string (mk t))) (go_keep) ((go_at_call 77; refine (read4 (mk t) (wo.heap.size + 1 + 1 + 1 + 1 + 1 + 1 + 1 + 1 + 1 + 1 + 1 + 1) (w2.heap.size + 1) d _ hts (vars_drew hvr) (by exact hbl) (by exact hT2.b4) (by exact hd)).mono ?_; rintro e w' ⟨rfl, hg0, hy⟩; have hg := grown_drew1 hg0; have q1 := (grown_cell (o := 1) hg hr1 hn1).trans hrow2; have q2 := (grown_cell (o := i * 2) hg hgp1 hn2).trans v0'; have q3 := (grown_cell (o := 1 + i) hg hgl1 hn3).trans hcl))
                all_goals
                  clear hx3 hx4
                  go_wp2
                  go_roundg gi
                  case measure => omega
                  case rel => exact ⟨i + 1, _, hy1, rfl, by go_num, hI.step hg, filled_step hkk ht HLN.out hfill hy⟩
          · have HNO := Lib.hid (HPF.out.trans hnone)
            have k0 : wr.cell? ⟨w.heap.size, 0, none⟩ = some (.int .i64 0) := hH.c0
            have k1 : wr.cell? ⟨w.heap.size, 1, none⟩ = some (.string ⟨#[]⟩) := hH.c1
            have k2 : wr.cell? ⟨w.heap.size, 2, none⟩ = some (.string ⟨#[]⟩) := hH.c2
            have k3 : wr.cell? ⟨w.heap.size, 3, none⟩ = some (.int .i64 0) := hH.c3
            have k4 : wr.cell? ⟨w.heap.size, 4, none⟩ = some (.int .i64 0) := hH.c4
            have k5 : wr.cell? ⟨w.heap.size, 5, none⟩ = some (.string ⟨#[]⟩) := hH.c5
            have kz := hH.z
            clear hnone hT2 hS2
            go_wp2
            exact bodyPost_ret (v := .tuple #[.agg #[.int .i64 0, .string ⟨#[]⟩, .string ⟨#[]⟩, .int .i64 0, .int .i64 0, .string ⟨#[]⟩], .int .i64 250]) (by simp [results, Tryd.results13, go_sem, res_cells hH (.int .i64 0) (.string ⟨#[]⟩) (.string ⟨#[]⟩) (.int .i64 0) (.int .i64 0) (.string ⟨#[]⟩)]) rfl (pparse_none HNO.out (below_res (hb1.trans (hI.below.mono hb1.size))))
      · have HN := Lib.hid (none_of_ne HM.out hrow hcmd)
        go_wp2_with fail
        refine (rows_any _).mono ?_
        rintro e w2 ⟨rfl, D, hT⟩
        obtain ⟨cmd', ps', f', ao, he1, he2, hS, hlook⟩ := tab_look_in hT n hn false
        rw [hrow] at he1
        rw [hf] at he2
        cases he1
        cases he2
        simp only [Bool.false_eq_true, if_false] at hlook
        have hb2 := hnx.trans (hT.below.mono hsz)
        have hs2 := hb2.size
        have hg2 : gl < w2.heap.size := by omega
        have hc2 : w2.cell? ⟨gl, 0, none⟩ = some (.string (mk t0)) := (hb2.cell (p := ⟨gl, 0, none⟩) hgl).trans hc0
        go_wp2
        have hne : ((mk cmd).toList == (mk t0).toList) = false := ne_list hcmd
        go_quiet (fail)
        go_wp2
        go_roundg g'
        case measure => omega
        case rel => exact ⟨n + 1, by omega, by go_num, HN.out, below_drewN (hb2.alloc hs2 _) _⟩
end Rw
end Go.Proofs.YtjloonijnbfhhaaDoor
