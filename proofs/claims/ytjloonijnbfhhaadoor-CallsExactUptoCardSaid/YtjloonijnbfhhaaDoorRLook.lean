/- What the table of rows has for a kind; its places. -/
import Derived.Test.YtjloonijnbfhhaaDoorRPlaces
namespace Go.Proofs.YtjloonijnbfhhaaDoor
open Go.RowKit Go.Maps Go.WideShapes Qw

namespace Rw
/-! ### what the table has for a kind -/
theorem zeroRow (w : World) : (zeroValue 69).run Tryd.prog w = .ok (.agg #[.string (mk []), .slice none 0 0, .nilFunc]) w := by kernel_rfl
theorem tab_look_in {N : Nat} {w0 w : World} {D : DataW Value} (h : Tab N w0 w 15 D) (n : Nat) (hn : n < 15) (ok : Bool) : ∃ cmd ps f ao, Cl.rowsT[n]? = some (cmd, ps) ∧ tellF[n]? = some f ∧ SliceP N w (.slice ao ps.length ps.length) ps ∧
    (Instr.lookup 70 (.map (some (N + 1 + 1 + 1 + 1 + 1 + 1 + 1 + 1 + 1 + 1 + 1 + 1 + 1 + 1 + 1))) (.int .i64 ((n : Int) + 1)) ok).run Tryd.prog w = .ok (if ok then .tuple #[.agg #[.string (mk cmd), .slice ao ps.length ps.length, fn f], .bool true] else .agg #[.string (mk cmd), .slice ao ps.length ps.length, fn f]) w := by
  obtain ⟨v, h1, h2, cmd, ps, f, sl, h3, h4, h5, h6⟩ := h.rows n hn
  have hsl : ∃ ao, sl = .slice ao ps.length ps.length := by
    rcases h6 with ⟨e, h⟩ | ⟨g, h, _⟩
    · exact ⟨none, by rw [h, e]; rfl⟩
    · exact ⟨_, h⟩
  obtain ⟨ao, rfl⟩ := hsl
  refine ⟨cmd, ps, f, ao, h3, h4, h6, ?_⟩
  have hz := zeroRow w
  have hkey : keyOf Tryd.prog 3 (.int .i64 ((n : Int) + 1)) = some (.int .i64 ((n : Int) + 1)) := keyOf_int_mk Tryd.underlying3 (key_wf (by omega) (by omega))
  cases ok with
  | true =>
    obtain ⟨u, ps', hrun, hu⟩ := h.map.look_ok (Maps.int_keyed Tryd.underlying3) Tryd.underlying70 hz (zd := .held _) (zp := []) rfl hkey
    rw [h1] at hu
    rw [h2] at hrun
    simp only [rawElem, Option.some.injEq, Prod.mk.injEq, DataW.held.injEq] at hu
    rw [hrun, hu.1, h5]
    rfl
  | false =>
    obtain ⟨u, ps', hrun, hu⟩ := h.map.lookup (Maps.int_keyed Tryd.underlying3) Tryd.underlying70 hz (zd := .held _) (zp := []) rfl hkey
    rw [h1] at hu
    simp only [rawElem, Option.some.injEq, Prod.mk.injEq, DataW.held.injEq] at hu
    rw [hrun, hu.1, h5]
    rfl
theorem tab_look_out {N : Nat} {w0 w : World} {D : DataW Value} (h : Tab N w0 w 15 D) (k : Int) (hk : ¬ (1 ≤ k ∧ k ≤ 15)) (hr : Cl.inRange k) :
    (Instr.lookup 70 (.map (some (N + 1 + 1 + 1 + 1 + 1 + 1 + 1 + 1 + 1 + 1 + 1 + 1 + 1 + 1 + 1))) (.int .i64 k) true).run Tryd.prog w = .ok (.tuple #[.agg #[.string (mk []), .slice none 0 0, .nilFunc], .bool false]) w := by
  obtain ⟨h1, h2⟩ := h.miss k (by omega)
  have hz := zeroRow w
  have hkey : keyOf Tryd.prog 3 (.int .i64 k) = some (.int .i64 k) := keyOf_int_mk Tryd.underlying3 (WalkArith.wf_i64 hr)
  obtain ⟨u, ps', hrun, hu⟩ := h.map.look_ok (Maps.int_keyed Tryd.underlying3) Tryd.underlying70 hz (zd := .held _) (zp := []) rfl hkey
  rw [h2] at hu
  rw [h1] at hrun
  simp only [rawElem, Option.some.injEq, Prod.mk.injEq, DataW.held.injEq] at hu
  rw [hrun, ← hu.1]
/-- A place of a row: where it is read and written. -/
theorem cellsP_at (N : Nat) : ∀ (ps : List Nat) (i p : Nat), ps[i]? = some p → (cellsP N ps)[2 * i]? = some (rd N p) ∧ (cellsP N ps)[2 * i + 1]? = some (wt N p)
  | [], i, p, h => by simp at h
  | q :: ps, 0, p, h => by
    have : q = p := by simpa using h
    subst this
    exact ⟨rfl, rfl⟩
  | q :: ps, i + 1, p, h => by
    have := cellsP_at N ps i p (by simpa using h)
    simp only [cellsP, List.flatMap_cons, List.cons_append, List.nil_append] at *
    rw [show 2 * (i + 1) = 2 * i + 1 + 1 by omega, List.getElem?_cons_succ, List.getElem?_cons_succ, List.getElem?_cons_succ, List.getElem?_cons_succ]
    exact this
/-- The same answer in a later world that has the same table. -/
theorem tab_look_ok {N : Nat} {w0 w0' w w2 : World} {D : DataW Value} (h : Tab N w0 w 15 D) (h2 : Tab N w0' w2 15 D) {n : Nat} {u v : Value} (hl : (Instr.lookup 70 (.map (some (N + 1 + 1 + 1 + 1 + 1 + 1 + 1 + 1 + 1 + 1 + 1 + 1 + 1 + 1 + 1))) (.int .i64 ((n : Int) + 1)) true).run Tryd.prog w = .ok (.tuple #[u, v]) w) (hn : n < 15) :
    (Instr.lookup 70 (.map (some (N + 1 + 1 + 1 + 1 + 1 + 1 + 1 + 1 + 1 + 1 + 1 + 1 + 1 + 1 + 1))) (.int .i64 ((n : Int) + 1)) true).run Tryd.prog w2 = .ok (.tuple #[u, v]) w2 := by
  obtain ⟨v1, h1, h2', _⟩ := h.rows n hn
  have hkey : keyOf Tryd.prog 3 (.int .i64 ((n : Int) + 1)) = some (.int .i64 ((n : Int) + 1)) := keyOf_int_mk Tryd.underlying3 (key_wf (by omega) (by omega))
  obtain ⟨a, _, hrun, hu⟩ := h.map.look_ok (Maps.int_keyed Tryd.underlying3) Tryd.underlying70 (zeroRow w) (zd := .held _) (zp := []) rfl hkey
  obtain ⟨b, _, hrun2, hu2⟩ := h2.map.look_ok (Maps.int_keyed Tryd.underlying3) Tryd.underlying70 (zeroRow w2) (zd := .held _) (zp := []) rfl hkey
  rw [h1] at hu hu2
  simp only [rawElem, Option.some.injEq, Prod.mk.injEq, DataW.held.injEq] at hu hu2
  rw [hrun] at hl
  rw [hrun2, hu2.1, ← hu.1]
  rw [(Result.ok.inj hl).1]
/-- The table stays where its own blocks stay. -/
theorem tab_far {N : Nat} {w0 w w2 : World} {n : Nat} {D : DataW Value} (h : Tab N w0 w n D) (hs : w.heap.size ≤ w2.heap.size) (hb : ∀ b, N ≤ b → b < w.heap.size → w2.heap[b]? = w.heap[b]?) : Tab N w2 w2 n D := by
  have hlt := h.lt
  have hk : ∀ b o, N ≤ b → b < w.heap.size → w2.cell? ⟨b, o, none⟩ = w.cell? ⟨b, o, none⟩ := fun b o h1 h2 => World.cell?_of_block (hb b h1 h2)
  obtain ⟨es, clock, hm, F, hes, hD⟩ := h.map
  exact {
    below := Below.refl _ _
    lt := by omega
    map := ⟨es, clock, (hb _ (by omega) (by omega)).trans hm, F, hes, hD⟩
    b0 := (hk _ _ (by omega) (by omega)).trans h.b0
    r0 := (hk _ _ (by omega) (by omega)).trans h.r0
    t0 := (hk _ _ (by omega) (by omega)).trans h.t0
    b1 := (hk _ _ (by omega) (by omega)).trans h.b1
    r1 := (hk _ _ (by omega) (by omega)).trans h.r1
    t1 := (hk _ _ (by omega) (by omega)).trans h.t1
    b2 := (hk _ _ (by omega) (by omega)).trans h.b2
    r2 := (hk _ _ (by omega) (by omega)).trans h.r2
    t2 := (hk _ _ (by omega) (by omega)).trans h.t2
    b3 := (hk _ _ (by omega) (by omega)).trans h.b3
    r3 := (hk _ _ (by omega) (by omega)).trans h.r3
    t3 := (hk _ _ (by omega) (by omega)).trans h.t3
    b4 := (hk _ _ (by omega) (by omega)).trans h.b4
    r4 := (hk _ _ (by omega) (by omega)).trans h.r4
    t4 := (hk _ _ (by omega) (by omega)).trans h.t4
    rows := fun k hk' => by
      obtain ⟨v, h1, h2, cmd, ps, f, sl, h3, h4, h5, h6⟩ := h.rows k hk'
      refine ⟨v, h1, h2, cmd, ps, f, sl, h3, h4, h5, ?_⟩
      rcases h6 with h6 | ⟨g, g1, g2, g3, g4⟩
      · exact .inl h6
      · exact .inr ⟨g, g1, by omega, g3, fun j hj => (hk _ _ (by omega) g2).trans (g4 j hj)⟩
    miss := h.miss }
theorem slice_far {N : Nat} {w w2 : World} {sl : Value} {ps : List Nat} (h : SliceP N w sl ps) (hs : w.heap.size ≤ w2.heap.size) (hb : ∀ b, N ≤ b → b < w.heap.size → w2.heap[b]? = w.heap[b]?) : SliceP N w2 sl ps := by
  rcases h with h6 | ⟨g, g1, g2, g3, g4⟩
  · exact .inl h6
  · exact .inr ⟨g, g1, by omega, g3, fun j hj => (World.cell?_of_block (a := ⟨g, j, none⟩) (hb g (by omega) g2)).trans (g4 j hj)⟩
theorem tab_alloc {N : Nat} {w0 w : World} {n : Nat} {D : DataW Value} (h : Tab N w0 w n D) (o : Obj) : Tab N (w.alloc o) (w.alloc o) n D :=
  tab_far h (by simp) (fun b _ hb => heap_alloc_old w o hb)
end Rw
end Go.Proofs.YtjloonijnbfhhaaDoor
