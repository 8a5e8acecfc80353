/- The walk of the table of rows: each kind's command, its places, and how its answer is told. -/
import Derived.Test.YtjloonijnbfhhaaDoorQQuote
import Derived.Test.YtjloonijnbfhhaaDoorCallsRows
import Derived.Test.YtjloonijnbfhhaaDoorMapMore
import Derived.Laws.EntriesVeiled
namespace Go.Proofs.YtjloonijnbfhhaaDoor
open Go.RowKit Go.Maps Go.WideShapes

namespace Rw
/-- A function of the program, as a value. -/
abbrev fn (f : Nat) : Value := .func (Fn.func f) #[] #[]
/-- .. that has captured the variable at block b. -/
abbrev cl (f b : Nat) : Value := .func (Fn.func f) #[] #[.pointer (some ⟨b, 0, none⟩)]
/-- The functions that give a field's address. -/
def fldF : Nat → Nat
  | 0 => 51
  | 1 => 52
  | 2 => 53
  | 3 => 55
  | _ => 56
/-- How a place is read, and written, the table's own blocks beginning at N. -/
def rd (N p : Nat) : Value := cl (if p < 3 then 75 else 77) (N + 3 * p)
def wt (N p : Nat) : Value := cl (if p < 3 then 76 else 79) (N + 3 * p)
/-- How an answer of each kind is told. -/
def tellF : List Nat := [57, 57, 58, 57, 59, 59, 59, 59, 59, 57, 58, 60, 60, 61, 62]
/-- The cells of places. -/
def cellsP (N : Nat) (ps : List Nat) : List Value := ps.flatMap fun p => [rd N p, wt N p]

theorem word_any (f : Nat) (w : World) : Calls Tryd.prog 50 #[fn f] w fun e w' => e = .returned (.agg #[cl 75 w.heap.size, cl 76 w.heap.size]) ∧
    w' = (w.alloc (.cells #[fn f] 101)).alloc (.cells #[cl 75 w.heap.size, cl 76 w.heap.size] 75) := by
  skip
  go_enter Tryd.func50, Tryd.ntmps50
  go_wp2
  simp [bodyPost, results, Tryd.results50, go_sem]
theorem number_any (f : Nat) (w : World) : Calls Tryd.prog 54 #[fn f] w fun e w' => e = .returned (.agg #[cl 77 w.heap.size, cl 79 w.heap.size]) ∧
    w' = (w.alloc (.cells #[fn f] 104)).alloc (.cells #[cl 77 w.heap.size, cl 79 w.heap.size] 75) := by
  skip
  go_enter Tryd.func54, Tryd.ntmps54
  go_wp2
  simp [bodyPost, results, Tryd.results54, go_sem]

/-- A slice of places. -/
def SliceP (N : Nat) (w : World) (sl : Value) (ps : List Nat) : Prop :=
  (ps = [] ∧ sl = .slice none 0 0) ∨ ∃ g, sl = .slice (some ⟨g, 0, none⟩) ps.length ps.length ∧ g < w.heap.size ∧ N + 1 + 1 + 1 + 1 + 1 + 1 + 1 + 1 + 1 + 1 + 1 + 1 + 1 + 1 + 1 < g ∧ ∀ j, j < 2 * ps.length → w.cell? ⟨g, j, none⟩ = (cellsP N ps)[j]?
/-- The row of the kind k + 1. -/
def Row (N : Nat) (w : World) (k : Nat) (v : Value) : Prop :=
  ∃ cmd ps f sl, Cl.rowsT[k]? = some (cmd, ps) ∧ tellF[k]? = some f ∧ v = .agg #[.string (mk cmd), sl, fn f] ∧ SliceP N w sl ps
/-- The table while it is made: the places' own blocks from N on, the map in block N + 15, n rows in it. -/
structure Tab (N : Nat) (w0 w : World) (n : Nat) (D : DataW Value) : Prop where
  below : Below N w0 w
  lt : N + 1 + 1 + 1 + 1 + 1 + 1 + 1 + 1 + 1 + 1 + 1 + 1 + 1 + 1 + 1 < w.heap.size
  map : w.ownsMap Tryd.prog 3 rawElem (N + 1 + 1 + 1 + 1 + 1 + 1 + 1 + 1 + 1 + 1 + 1 + 1 + 1 + 1 + 1) n D
  b0 : w.cell? ⟨N, 0, none⟩ = some (fn (fldF 0))
  r0 : w.cell? ⟨N + 1 + 1, 0, none⟩ = some (rd N 0)
  t0 : w.cell? ⟨N + 1 + 1, 1, none⟩ = some (wt N 0)
  b1 : w.cell? ⟨N + 1 + 1 + 1, 0, none⟩ = some (fn (fldF 1))
  r1 : w.cell? ⟨N + 1 + 1 + 1 + 1 + 1, 0, none⟩ = some (rd N 1)
  t1 : w.cell? ⟨N + 1 + 1 + 1 + 1 + 1, 1, none⟩ = some (wt N 1)
  b2 : w.cell? ⟨N + 1 + 1 + 1 + 1 + 1 + 1, 0, none⟩ = some (fn (fldF 2))
  r2 : w.cell? ⟨N + 1 + 1 + 1 + 1 + 1 + 1 + 1 + 1, 0, none⟩ = some (rd N 2)
  t2 : w.cell? ⟨N + 1 + 1 + 1 + 1 + 1 + 1 + 1 + 1, 1, none⟩ = some (wt N 2)
  b3 : w.cell? ⟨N + 1 + 1 + 1 + 1 + 1 + 1 + 1 + 1 + 1, 0, none⟩ = some (fn (fldF 3))
  r3 : w.cell? ⟨N + 1 + 1 + 1 + 1 + 1 + 1 + 1 + 1 + 1 + 1 + 1, 0, none⟩ = some (rd N 3)
  t3 : w.cell? ⟨N + 1 + 1 + 1 + 1 + 1 + 1 + 1 + 1 + 1 + 1 + 1, 1, none⟩ = some (wt N 3)
  b4 : w.cell? ⟨N + 1 + 1 + 1 + 1 + 1 + 1 + 1 + 1 + 1 + 1 + 1 + 1, 0, none⟩ = some (fn (fldF 4))
  r4 : w.cell? ⟨N + 1 + 1 + 1 + 1 + 1 + 1 + 1 + 1 + 1 + 1 + 1 + 1 + 1 + 1, 0, none⟩ = some (rd N 4)
  t4 : w.cell? ⟨N + 1 + 1 + 1 + 1 + 1 + 1 + 1 + 1 + 1 + 1 + 1 + 1 + 1 + 1, 1, none⟩ = some (wt N 4)
  rows : ∀ k, k < n → ∃ v, (∀ z, D.atKey (.int .i64 ((k : Int) + 1)) z = .held v) ∧ Maps.has D (.int .i64 ((k : Int) + 1)) = true ∧ Row N w k v
  miss : ∀ k : Int, (k < 1 ∨ (n : Int) < k) → Maps.has D (.int .i64 k) = false ∧ ∀ z, D.atKey (.int .i64 k) z = z
theorem Tab.facts {N : Nat} {w0 w : World} {n : Nat} {D : DataW Value} (h : Tab N w0 w n D) :
    w.cell? ⟨N + 1 + 1, 0, none⟩ = some (.func (Fn.func 75) #[] #[.pointer (some ⟨N, 0, none⟩)]) ∧ w.cell? ⟨N + 1 + 1, 1, none⟩ = some (.func (Fn.func 76) #[] #[.pointer (some ⟨N, 0, none⟩)]) ∧ w.cell? ⟨N + 1 + 1 + 1 + 1 + 1, 0, none⟩ = some (.func (Fn.func 75) #[] #[.pointer (some ⟨N + 1 + 1 + 1, 0, none⟩)]) ∧ w.cell? ⟨N + 1 + 1 + 1 + 1 + 1, 1, none⟩ = some (.func (Fn.func 76) #[] #[.pointer (some ⟨N + 1 + 1 + 1, 0, none⟩)]) ∧ w.cell? ⟨N + 1 + 1 + 1 + 1 + 1 + 1 + 1 + 1, 0, none⟩ = some (.func (Fn.func 75) #[] #[.pointer (some ⟨N + 1 + 1 + 1 + 1 + 1 + 1, 0, none⟩)]) ∧ w.cell? ⟨N + 1 + 1 + 1 + 1 + 1 + 1 + 1 + 1, 1, none⟩ = some (.func (Fn.func 76) #[] #[.pointer (some ⟨N + 1 + 1 + 1 + 1 + 1 + 1, 0, none⟩)]) ∧ w.cell? ⟨N + 1 + 1 + 1 + 1 + 1 + 1 + 1 + 1 + 1 + 1 + 1, 0, none⟩ = some (.func (Fn.func 77) #[] #[.pointer (some ⟨N + 1 + 1 + 1 + 1 + 1 + 1 + 1 + 1 + 1, 0, none⟩)]) ∧ w.cell? ⟨N + 1 + 1 + 1 + 1 + 1 + 1 + 1 + 1 + 1 + 1 + 1, 1, none⟩ = some (.func (Fn.func 79) #[] #[.pointer (some ⟨N + 1 + 1 + 1 + 1 + 1 + 1 + 1 + 1 + 1, 0, none⟩)]) ∧ w.cell? ⟨N + 1 + 1 + 1 + 1 + 1 + 1 + 1 + 1 + 1 + 1 + 1 + 1 + 1 + 1, 0, none⟩ = some (.func (Fn.func 77) #[] #[.pointer (some ⟨N + 1 + 1 + 1 + 1 + 1 + 1 + 1 + 1 + 1 + 1 + 1 + 1, 0, none⟩)]) ∧ w.cell? ⟨N + 1 + 1 + 1 + 1 + 1 + 1 + 1 + 1 + 1 + 1 + 1 + 1 + 1 + 1, 1, none⟩ = some (.func (Fn.func 79) #[] #[.pointer (some ⟨N + 1 + 1 + 1 + 1 + 1 + 1 + 1 + 1 + 1 + 1 + 1 + 1, 0, none⟩)]) :=
  ⟨h.r0, h.t0, h.r1, h.t1, h.r2, h.t2, h.r3, h.t3, h.r4, h.t4⟩

theorem cellsP_len (N : Nat) (ps : List Nat) : (cellsP N ps).length = 2 * ps.length := by
  induction ps with
  | nil => rfl
  | cons p r ih => simp only [cellsP, List.flatMap_cons, List.length_append, List.length_cons, List.length_nil] at *; omega
theorem SliceP.kept {N : Nat} {w w' : World} {sl : Value} {ps : List Nat} (h : SliceP N w sl ps) (hs : w.heap.size ≤ w'.heap.size) (hk : ∀ b o, b < w.heap.size → b ≠ N + 1 + 1 + 1 + 1 + 1 + 1 + 1 + 1 + 1 + 1 + 1 + 1 + 1 + 1 + 1 → w'.cell? ⟨b, o, none⟩ = w.cell? ⟨b, o, none⟩) : SliceP N w' sl ps := by
  rcases h with h | ⟨g, h1, h2, h3, h4⟩
  · exact .inl h
  · exact .inr ⟨g, h1, by omega, h3, fun j hj => (hk g j h2 (by omega)).trans (h4 j hj)⟩
theorem Row.kept {N : Nat} {w w' : World} {k : Nat} {v : Value} (h : Row N w k v) (hs : w.heap.size ≤ w'.heap.size) (hk : ∀ b o, b < w.heap.size → b ≠ N + 1 + 1 + 1 + 1 + 1 + 1 + 1 + 1 + 1 + 1 + 1 + 1 + 1 + 1 + 1 → w'.cell? ⟨b, o, none⟩ = w.cell? ⟨b, o, none⟩) : Row N w' k v := by
  obtain ⟨cmd, ps, f, sl, h1, h2, h3, h4⟩ := h
  exact ⟨cmd, ps, f, sl, h1, h2, h3, h4.kept hs hk⟩
theorem isKey (k : Int) : WideAt.IsKeyLit (Lit.int .i64 k) := trivial
theorem key_wf {k : Int} (h0 : -3 ≤ k) (h1 : k ≤ 20000) : (Lit.int .i64 k).wf = true := WalkArith.wf_i64 (by omega)

/-- A row more, the map's block alone being written behind W. -/
theorem Tab.step {N : Nat} {w0 w W w2 : World} {n : Nat} {D : DataW Value} (h : Tab N w0 w n D) (hb : Below w.heap.size w W) (hg : W.grownBy w2 (some (N + 1 + 1 + 1 + 1 + 1 + 1 + 1 + 1 + 1 + 1 + 1 + 1 + 1 + 1 + 1))) (v : Value) (d : DataW Value) (hd : d = .held v)
    (hm : w2.ownsMap Tryd.prog 3 rawElem (N + 1 + 1 + 1 + 1 + 1 + 1 + 1 + 1 + 1 + 1 + 1 + 1 + 1 + 1 + 1) (n + 1) (D.put (.int .i64 ((n : Int) + 1)) d)) (hrow : Row N w2 n v) : Tab N w0 w2 (n + 1) (D.put (.int .i64 ((n : Int) + 1)) d) := by
  have hs : w.heap.size ≤ w2.heap.size := Nat.le_trans hb.size hg.size
  have hkk : ∀ b o, b < w.heap.size → b ≠ N + 1 + 1 + 1 + 1 + 1 + 1 + 1 + 1 + 1 + 1 + 1 + 1 + 1 + 1 + 1 → w2.cell? ⟨b, o, none⟩ = w.cell? ⟨b, o, none⟩ := fun b o hlt hne =>
    (World.cell?_of_block (hg.block b (by have := hb.size; omega) (fun e => hne (by injection e)))).trans (hb.cell (p := ⟨b, o, none⟩) hlt)
  have hk : ∀ b o, b < w.heap.size → b ≠ N + 1 + 1 + 1 + 1 + 1 + 1 + 1 + 1 + 1 + 1 + 1 + 1 + 1 + 1 + 1 → ∀ {u : Value}, w.cell? ⟨b, o, none⟩ = some u → w2.cell? ⟨b, o, none⟩ = some u := fun b o hlt hne u hu => (hkk b o hlt hne).trans hu
  have hlt := h.lt
  exact {
    below := (h.below.trans (hb.mono (by omega))).grown hg (by have := hb.size; omega) (fun j hj => by cases hj; omega)
    lt := by omega
    map := hm
    b0 := hk _ _ (by omega) (by omega) h.b0
    r0 := hk _ _ (by omega) (by omega) h.r0
    t0 := hk _ _ (by omega) (by omega) h.t0
    b1 := hk _ _ (by omega) (by omega) h.b1
    r1 := hk _ _ (by omega) (by omega) h.r1
    t1 := hk _ _ (by omega) (by omega) h.t1
    b2 := hk _ _ (by omega) (by omega) h.b2
    r2 := hk _ _ (by omega) (by omega) h.r2
    t2 := hk _ _ (by omega) (by omega) h.t2
    b3 := hk _ _ (by omega) (by omega) h.b3
    r3 := hk _ _ (by omega) (by omega) h.r3
    t3 := hk _ _ (by omega) (by omega) h.t3
    b4 := hk _ _ (by omega) (by omega) h.b4
    r4 := hk _ _ (by omega) (by omega) h.r4
    t4 := hk _ _ (by omega) (by omega) h.t4
    rows := by
      intro k hk'
      by_cases e : k = n
      · subst e hd
        exact ⟨v, fun z => Maps.atKey_put_same h.map.isMap (isKey _) _ _, Maps.has_put_same h.map.isMap (isKey _) _, hrow⟩
      · obtain ⟨u, h1, h2, h3⟩ := h.rows k (by omega)
        have hne : (Lit.int .i64 ((k : Int) + 1)) ≠ Lit.int .i64 ((n : Int) + 1) := by intro e'; injection e' with _ e'; omega
        exact ⟨u, fun z => (Maps.atKey_put_other hne _ _).trans (h1 z), (Maps.has_put_other hne _).trans h2, h3.kept hs hkk⟩
    miss := by
      intro k hk'
      have hne : (Lit.int .i64 k) ≠ Lit.int .i64 ((n : Int) + 1) := by intro e'; injection e' with _ e'; omega
      obtain ⟨h1, h2⟩ := h.miss k (by omega)
      exact ⟨(Maps.has_put_other hne _).trans h1, fun z => (Maps.atKey_put_other hne _ _).trans (h2 z)⟩ }

/-- A row's insertion, its slice of places just made. -/
theorem wpList_row {N : Nat} {w0 w1 : World} {n : Nat} {D : DataW Value} (hI : Tab N w0 w1 n D) (hn : n ≤ 14) (cmd : List UInt8) (ps : List Nat) (f : Nat) (hrow : Cl.rowsT[n]? = some (cmd, ps)) (hf : tellF[n]? = some f) (cs : Array Value) (hcs : cs = (cellsP N ps).toArray)
    {ops : Array Oper} {rest : List Oper} {o : Oper} {a : Act} {Q : Exit → Act → World → Prop} (hg : o.guard = none) (m x v : Operand) (hop : o.op = Op.insert 70 m x v) (hm : a.eval m = .map (some (N + 1 + 1 + 1 + 1 + 1 + 1 + 1 + 1 + 1 + 1 + 1 + 1 + 1 + 1 + 1))) (hx : a.eval x = .int .i64 ((n : Int) + 1))
    (hv : a.eval v = .agg #[.string (mk cmd), .slice (some ⟨w1.heap.size, 0, none⟩) ps.length ps.length, fn f])
    (hK : ∀ w2 D2, Tab N w0 w2 (n + 1) D2 → wpList Tryd.prog ops Q rest (a.put o.dst undef) w2) : wpList Tryd.prog ops Q (o :: rest) a (w1.alloc (.cells cs 75)) := by
  have hb : Below w1.heap.size w1 (w1.alloc (.cells cs 75)) := (Below.refl _ _).alloc (Nat.le_refl _) _
  have hlt := hI.lt
  refine wpList_insert_own _ hg m x v 70 hop 3 69 (Maps.int_keyed Tryd.underlying3) Tryd.underlying70 rawElem (N + 1 + 1 + 1 + 1 + 1 + 1 + 1 + 1 + 1 + 1 + 1 + 1 + 1 + 1 + 1) n D hm (hI.map.alloc _) (by unfold maxLen; omega) _ _ (.int .i64 ((n : Int) + 1)) hx hv
    (keyOf_int_mk Tryd.underlying3 (key_wf (by omega) (by omega))) _ _ rfl ?_
  intro w2 ho hg2
  refine hK w2 _ (hI.step hb hg2 _ _ rfl ho ?_)
  refine ⟨cmd, ps, f, _, hrow, hf, rfl, .inr ⟨w1.heap.size, rfl, by have := hg2.size; simp at this; omega, hlt, fun j hj => ?_⟩⟩
  rw [World.cell?_of_block (hg2.block w1.heap.size (by simp) (fun e => by injection e with e; omega))]
  subst hcs
  simp only [World.cell?]
  rw [heap_alloc_new]
  simp
/-- .. of the kind that has none. -/
theorem wpList_row0 {N : Nat} {w0 w1 : World} {n : Nat} {D : DataW Value} (hI : Tab N w0 w1 n D) (hn : n ≤ 14) (cmd : List UInt8) (f : Nat) (hrow : Cl.rowsT[n]? = some (cmd, [])) (hf : tellF[n]? = some f)
    {ops : Array Oper} {rest : List Oper} {o : Oper} {a : Act} {Q : Exit → Act → World → Prop} (hg : o.guard = none) (m x v : Operand) (hop : o.op = Op.insert 70 m x v) (hm : a.eval m = .map (some (N + 1 + 1 + 1 + 1 + 1 + 1 + 1 + 1 + 1 + 1 + 1 + 1 + 1 + 1 + 1))) (hx : a.eval x = .int .i64 ((n : Int) + 1))
    (hv : a.eval v = .agg #[.string (mk cmd), .slice none 0 0, fn f])
    (hK : ∀ w2 D2, Tab N w0 w2 (n + 1) D2 → wpList Tryd.prog ops Q rest (a.put o.dst undef) w2) : wpList Tryd.prog ops Q (o :: rest) a w1 := by
  refine wpList_insert_own _ hg m x v 70 hop 3 69 (Maps.int_keyed Tryd.underlying3) Tryd.underlying70 rawElem (N + 1 + 1 + 1 + 1 + 1 + 1 + 1 + 1 + 1 + 1 + 1 + 1 + 1 + 1 + 1) n D hm hI.map (by unfold maxLen; omega) _ _ (.int .i64 ((n : Int) + 1)) hx hv
    (keyOf_int_mk Tryd.underlying3 (key_wf (by omega) (by omega))) _ _ rfl ?_
  intro w2 ho hg2
  exact hK w2 _ (hI.step (Below.refl _ _) hg2 _ _ rfl ho ⟨cmd, [], f, _, hrow, hf, rfl, .inl ⟨rfl, rfl⟩⟩)
/-- The map's making. -/
theorem wpList_makeMap_to {P : Program} (W : World) {ops : Array Oper} {rest : List Oper} {o : Oper} {a : Act} {Q : Exit → Act → World → Prop} (hg : o.guard = none) (t : TypeId) (hop : o.op = Op.makeMap t none) (Φ : World → Prop) (hΦ : Φ (W.alloc (.map #[] 0)))
    (h : ∀ w1, Φ w1 → wpList P ops Q rest (a.put o.dst (.map (some W.heap.size))) w1) : wpList P ops Q (o :: rest) a W := by
  refine wpList_plain hg fun K' hK' => ?_
  unfold Oper.wp
  simp [execOp, hop, run_makeMap, Result.andThen]
  exact hK' _ _ (h _ hΦ)

/-! The region of the table itself, by hand: the slots that matter. -/
structure Regs (N : Nat) (a : Act) : Prop where
  size : a.tmps.size = 64
  defers : a.defers = []
  p0 : a.eval (.tmp 1) = .pointer (some ⟨N + 1 + 1, 0, none⟩)
  p1 : a.eval (.tmp 2) = .pointer (some ⟨N + 1 + 1 + 1 + 1 + 1, 0, none⟩)
  p2 : a.eval (.tmp 3) = .pointer (some ⟨N + 1 + 1 + 1 + 1 + 1 + 1 + 1 + 1, 0, none⟩)
  p3 : a.eval (.tmp 4) = .pointer (some ⟨N + 1 + 1 + 1 + 1 + 1 + 1 + 1 + 1 + 1 + 1 + 1, 0, none⟩)
  p4 : a.eval (.tmp 5) = .pointer (some ⟨N + 1 + 1 + 1 + 1 + 1 + 1 + 1 + 1 + 1 + 1 + 1 + 1 + 1 + 1, 0, none⟩)
  m : a.eval (.tmp 11) = .map (some (N + 1 + 1 + 1 + 1 + 1 + 1 + 1 + 1 + 1 + 1 + 1 + 1 + 1 + 1 + 1))
theorem eval_put_ne (a : Act) (s t : Nat) (v : Value) (h : s ≠ t) : (a.put (some s) v).eval (.tmp t) = a.eval (.tmp t) := by
  simp [Act.put, Act.eval, Array.getD_eq_getD_getElem?, h]
theorem eval_put_eq (a : Act) (s : Nat) (v : Value) (h : s < a.tmps.size) : (a.put (some s) v).eval (.tmp s) = v := by
  simp [Act.put, Act.eval, Array.getD_eq_getD_getElem?, h]
theorem size_put (a : Act) (s : Nat) (v : Value) : (a.put (some s) v).tmps.size = a.tmps.size := by
  simp [Act.put]
theorem Regs.put {N : Nat} {a : Act} (h : Regs N a) (s : Nat) (hs : 11 < s) (v : Value) : Regs N (a.put (some s) v) where
  size := (size_put a s v).trans h.size
  defers := h.defers
  p0 := (eval_put_ne a s 1 v (by omega)).trans h.p0
  p1 := (eval_put_ne a s 2 v (by omega)).trans h.p1
  p2 := (eval_put_ne a s 3 v (by omega)).trans h.p2
  p3 := (eval_put_ne a s 4 v (by omega)).trans h.p3
  p4 := (eval_put_ne a s 5 v (by omega)).trans h.p4
  m := (eval_put_ne a s 11 v (by omega)).trans h.m
/-- A place's slot and block. -/
def atP (N : Nat) : Nat → Nat × Nat
  | 0 => (1, N + 1 + 1)
  | 1 => (2, N + 1 + 1 + 1 + 1 + 1)
  | 2 => (3, N + 1 + 1 + 1 + 1 + 1 + 1 + 1 + 1)
  | 3 => (4, N + 1 + 1 + 1 + 1 + 1 + 1 + 1 + 1 + 1 + 1 + 1)
  | _ => (5, N + 1 + 1 + 1 + 1 + 1 + 1 + 1 + 1 + 1 + 1 + 1 + 1 + 1 + 1)
theorem Regs.at {N : Nat} {a : Act} (h : Regs N a) {p : Nat} (hp : p < 5) : a.eval (.tmp (atP N p).1) = .pointer (some ⟨(atP N p).2, 0, none⟩) := by
  obtain rfl | rfl | rfl | rfl | rfl : p = 0 ∨ p = 1 ∨ p = 2 ∨ p = 3 ∨ p = 4 := by omega
  · exact h.p0
  · exact h.p1
  · exact h.p2
  · exact h.p3
  · exact h.p4
theorem Tab.at {N : Nat} {w0 w : World} {n : Nat} {D : DataW Value} (h : Tab N w0 w n D) {p : Nat} (hp : p < 5) : w.cell? ⟨(atP N p).2, 0, none⟩ = some (rd N p) ∧ w.cell? ⟨(atP N p).2, 1, none⟩ = some (wt N p) := by
  obtain rfl | rfl | rfl | rfl | rfl : p = 0 ∨ p = 1 ∨ p = 2 ∨ p = 3 ∨ p = 4 := by omega
  · exact ⟨h.r0, h.t0⟩
  · exact ⟨h.r1, h.t1⟩
  · exact ⟨h.r2, h.t2⟩
  · exact ⟨h.r3, h.t3⟩
  · exact ⟨h.r4, h.t4⟩
/-- A place is read into a slot. -/
theorem wpList_place {b : Nat} {v0 v1 : Value} {w : World} (h0 : w.cell? ⟨b, 0, none⟩ = some v0) (h1 : w.cell? ⟨b, 1, none⟩ = some v1)
    {ops : Array Oper} {rest : List Oper} {o : Oper} {a : Act} {Q : Exit → Act → World → Prop} (hg : o.guard = none) (t : Nat) (hop : o.op = Op.load 75 (.tmp t)) (ht : a.eval (.tmp t) = .pointer (some ⟨b, 0, none⟩))
    (hK : wpList Tryd.prog ops Q rest (a.put o.dst (.agg #[v0, v1])) w) : wpList Tryd.prog ops Q (o :: rest) a w := by
  refine wpList_plain hg fun K' hK' => ?_
  unfold Oper.wp
  simp only [execOp, hop, ht]
  simp [go_sem, h0, h1]
  exact hK' _ _ hK
theorem wpList_slice1 {w : World} {v0 v1 : Value} {ops : Array Oper} {rest : List Oper} {o : Oper} {a : Act} {Q : Exit → Act → World → Prop} (hg : o.guard = none) (s0 : Nat) (hop : o.op = Op.buildSlice 66 1 #[(0, .tmp s0)]) (h0 : a.eval (.tmp s0) = .agg #[v0, v1])
    (hK : wpList Tryd.prog ops Q rest (a.put o.dst (.slice (some ⟨w.heap.size, 0, none⟩) 1 1)) (w.alloc (.cells #[v0, v1] 75))) : wpList Tryd.prog ops Q (o :: rest) a w := by
  refine wpList_plain hg fun K' hK' => ?_
  unfold Oper.wp
  simp only [execOp, hop, List.map_toArray, List.map_cons, List.map_nil, h0]
  simp [go_sem]

  exact hK' _ _ hK
theorem wpList_slice2 {w : World} {v0 v1 v2 v3 : Value} {ops : Array Oper} {rest : List Oper} {o : Oper} {a : Act} {Q : Exit → Act → World → Prop} (hg : o.guard = none) (s0 s1 : Nat) (hop : o.op = Op.buildSlice 66 2 #[(0, .tmp s0), (1, .tmp s1)]) (h0 : a.eval (.tmp s0) = .agg #[v0, v1]) (h1 : a.eval (.tmp s1) = .agg #[v2, v3])
    (hK : wpList Tryd.prog ops Q rest (a.put o.dst (.slice (some ⟨w.heap.size, 0, none⟩) 2 2)) (w.alloc (.cells #[v0, v1, v2, v3] 75))) : wpList Tryd.prog ops Q (o :: rest) a w := by
  refine wpList_plain hg fun K' hK' => ?_
  unfold Oper.wp
  simp only [execOp, hop, List.map_toArray, List.map_cons, List.map_nil, h0, h1]
  simp [go_sem]

  exact hK' _ _ hK
theorem wpList_slice3 {w : World} {v0 v1 v2 v3 v4 v5 : Value} {ops : Array Oper} {rest : List Oper} {o : Oper} {a : Act} {Q : Exit → Act → World → Prop} (hg : o.guard = none) (s0 s1 s2 : Nat) (hop : o.op = Op.buildSlice 66 3 #[(0, .tmp s0), (1, .tmp s1), (2, .tmp s2)]) (h0 : a.eval (.tmp s0) = .agg #[v0, v1]) (h1 : a.eval (.tmp s1) = .agg #[v2, v3]) (h2 : a.eval (.tmp s2) = .agg #[v4, v5])
    (hK : wpList Tryd.prog ops Q rest (a.put o.dst (.slice (some ⟨w.heap.size, 0, none⟩) 3 3)) (w.alloc (.cells #[v0, v1, v2, v3, v4, v5] 75))) : wpList Tryd.prog ops Q (o :: rest) a w := by
  refine wpList_plain hg fun K' hK' => ?_
  unfold Oper.wp
  simp only [execOp, hop, List.map_toArray, List.map_cons, List.map_nil, h0, h1, h2]
  simp [go_sem]

  exact hK' _ _ hK
/-- A row is built. -/
theorem wpList_build {w : World} {so : Option Addr} {n m : Nat} {ops : Array Oper} {rest : List Oper} {o : Oper} {a : Act} {Q : Exit → Act → World → Prop} (hg : o.guard = none) (cmd : List UInt8) (s f : Nat)
    (hop : o.op = Op.build 69 #[(0, .const (.string (mk cmd))), (1, .tmp s), (2, .func f)]) (h0 : a.eval (.tmp s) = .slice so n m)
    (hK : wpList Tryd.prog ops Q rest (a.put o.dst (.agg #[.string (mk cmd), .slice so n m, fn f])) w) : wpList Tryd.prog ops Q (o :: rest) a w := by
  refine wpList_plain hg fun K' hK' => ?_
  unfold Oper.wp
  simp only [execOp, hop, List.map_toArray, List.map_cons, List.map_nil, h0]
  simp [go_sem]
  exact hK' _ _ hK
theorem wpList_build0 {w : World} {ops : Array Oper} {rest : List Oper} {o : Oper} {a : Act} {Q : Exit → Act → World → Prop} (hg : o.guard = none) (cmd : List UInt8) (f : Nat)
    (hop : o.op = Op.build 69 #[(0, .const (.string (mk cmd))), (1, .const (.slice none 0 0)), (2, .func f)])
    (hK : wpList Tryd.prog ops Q rest (a.put o.dst (.agg #[.string (mk cmd), .slice none 0 0, fn f])) w) : wpList Tryd.prog ops Q (o :: rest) a w := by
  refine wpList_plain hg fun K' hK' => ?_
  unfold Oper.wp
  simp only [execOp, hop, List.map_toArray, List.map_cons, List.map_nil]
  simp [go_sem]
  exact hK' _ _ hK
theorem wpList_row1p {N : Nat} {w0 w1 : World} {n : Nat} {D : DataW Value} (hI : Tab N w0 w1 n D) (hn : n ≤ 14) (cmd : List UInt8) (p0 : Nat) (hp0 : p0 < 5) (f : Nat) (hrow : Cl.rowsT[n]? = some (cmd, [p0])) (hf : tellF[n]? = some f)
    {ops : Array Oper} {rest : List Oper} {a : Act} {Q : Exit → Act → World → Prop} (hR : Regs N a) (s0 s1 s2 : Nat) (hs0 : 11 < s0 ∧ s0 < 64) (hs1 : 11 < s1 ∧ s1 < 64) (hs2 : 11 < s2 ∧ s2 < 64)  {y0 : TypeId} {q0 : String} {z0 : Array Edge} {y1 : TypeId} {q1 : String} {z1 : Array Edge} {y2 : TypeId} {q2 : String} {z2 : Array Edge} {y3 : TypeId} {q3 : String} {z3 : Array Edge}
    (hK : ∀ w2 D2 a2, Tab N w0 w2 (n + 1) D2 → Regs N a2 → wpList Tryd.prog ops Q rest a2 w2) :
    wpList Tryd.prog ops Q (⟨some s0, Op.load 75 (.tmp (atP N p0).1), y0, q0, z0, none⟩ :: ⟨some s1, Op.buildSlice 66 1 #[(0, .tmp s0)], y1, q1, z1, none⟩ :: ⟨some s2, Op.build 69 #[(0, .const (.string (mk cmd))), (1, .tmp s1), (2, .func f)], y2, q2, z2, none⟩ ::
      ⟨none, Op.insert 70 (.tmp 11) (.const (.int .i64 ((n : Int) + 1))) (.tmp s2), y3, q3, z3, none⟩ :: rest) a w1 := by
  refine wpList_place (hI.at hp0).1 (hI.at hp0).2 rfl _ rfl (hR.at hp0) ?_
  refine wpList_slice1 rfl s0 rfl (eval_put_eq _ s0 _ (by rw [hR.size]; exact hs0.2)) ?_
  refine wpList_build rfl cmd s1 f rfl (eval_put_eq _ s1 _ (by rw [(hR.put s0 hs0.1 _).size]; exact hs1.2)) ?_
  refine wpList_row (o := ⟨none, Op.insert _ _ _ _, _, _, _, _⟩) hI hn cmd [p0] f hrow hf _ (by rfl) rfl _ _ _ rfl (((hR.put s0 hs0.1 _).put s1 hs1.1 _).put s2 hs2.1 _).m rfl (eval_put_eq _ s2 _ (by rw [((hR.put s0 hs0.1 _).put s1 hs1.1 _).size]; exact hs2.2)) ?_
  intro w2 D2 h2
  exact hK _ _ _ h2 (((hR.put s0 hs0.1 _).put s1 hs1.1 _).put s2 hs2.1 _)
theorem wpList_row2p {N : Nat} {w0 w1 : World} {n : Nat} {D : DataW Value} (hI : Tab N w0 w1 n D) (hn : n ≤ 14) (cmd : List UInt8) (p0 p1 : Nat) (hp0 : p0 < 5) (hp1 : p1 < 5) (f : Nat) (hrow : Cl.rowsT[n]? = some (cmd, [p0, p1])) (hf : tellF[n]? = some f)
    {ops : Array Oper} {rest : List Oper} {a : Act} {Q : Exit → Act → World → Prop} (hR : Regs N a) (s0 s1 s2 s3 : Nat) (hs0 : 11 < s0 ∧ s0 < 64) (hs1 : 11 < s1 ∧ s1 < 64) (hs2 : 11 < s2 ∧ s2 < 64) (hs3 : 11 < s3 ∧ s3 < 64) (h01 : s1 ≠ s0) {y0 : TypeId} {q0 : String} {z0 : Array Edge} {y1 : TypeId} {q1 : String} {z1 : Array Edge} {y2 : TypeId} {q2 : String} {z2 : Array Edge} {y3 : TypeId} {q3 : String} {z3 : Array Edge} {y4 : TypeId} {q4 : String} {z4 : Array Edge}
    (hK : ∀ w2 D2 a2, Tab N w0 w2 (n + 1) D2 → Regs N a2 → wpList Tryd.prog ops Q rest a2 w2) :
    wpList Tryd.prog ops Q (⟨some s0, Op.load 75 (.tmp (atP N p0).1), y0, q0, z0, none⟩ :: ⟨some s1, Op.load 75 (.tmp (atP N p1).1), y1, q1, z1, none⟩ :: ⟨some s2, Op.buildSlice 66 2 #[(0, .tmp s0), (1, .tmp s1)], y2, q2, z2, none⟩ :: ⟨some s3, Op.build 69 #[(0, .const (.string (mk cmd))), (1, .tmp s2), (2, .func f)], y3, q3, z3, none⟩ ::
      ⟨none, Op.insert 70 (.tmp 11) (.const (.int .i64 ((n : Int) + 1))) (.tmp s3), y4, q4, z4, none⟩ :: rest) a w1 := by
  refine wpList_place (hI.at hp0).1 (hI.at hp0).2 rfl _ rfl (hR.at hp0) ?_
  refine wpList_place (hI.at hp1).1 (hI.at hp1).2 rfl _ rfl ((hR.put s0 hs0.1 _).at hp1) ?_
  refine wpList_slice2 rfl s0 s1 rfl ((eval_put_ne _ s1 s0 _ h01).trans (eval_put_eq _ s0 _ (by rw [hR.size]; exact hs0.2))) (eval_put_eq _ s1 _ (by rw [(hR.put s0 hs0.1 _).size]; exact hs1.2)) ?_
  refine wpList_build rfl cmd s2 f rfl (eval_put_eq _ s2 _ (by rw [((hR.put s0 hs0.1 _).put s1 hs1.1 _).size]; exact hs2.2)) ?_
  refine wpList_row (o := ⟨none, Op.insert _ _ _ _, _, _, _, _⟩) hI hn cmd [p0, p1] f hrow hf _ (by rfl) rfl _ _ _ rfl ((((hR.put s0 hs0.1 _).put s1 hs1.1 _).put s2 hs2.1 _).put s3 hs3.1 _).m rfl (eval_put_eq _ s3 _ (by rw [(((hR.put s0 hs0.1 _).put s1 hs1.1 _).put s2 hs2.1 _).size]; exact hs3.2)) ?_
  intro w2 D2 h2
  exact hK _ _ _ h2 ((((hR.put s0 hs0.1 _).put s1 hs1.1 _).put s2 hs2.1 _).put s3 hs3.1 _)
set_option maxHeartbeats 1000000 in
theorem wpList_row3p {N : Nat} {w0 w1 : World} {n : Nat} {D : DataW Value} (hI : Tab N w0 w1 n D) (hn : n ≤ 14) (cmd : List UInt8) (p0 p1 p2 : Nat) (hp0 : p0 < 5) (hp1 : p1 < 5) (hp2 : p2 < 5) (f : Nat) (hrow : Cl.rowsT[n]? = some (cmd, [p0, p1, p2])) (hf : tellF[n]? = some f)
    {ops : Array Oper} {rest : List Oper} {a : Act} {Q : Exit → Act → World → Prop} (hR : Regs N a) (s0 s1 s2 s3 s4 : Nat) (hs0 : 11 < s0 ∧ s0 < 64) (hs1 : 11 < s1 ∧ s1 < 64) (hs2 : 11 < s2 ∧ s2 < 64) (hs3 : 11 < s3 ∧ s3 < 64) (hs4 : 11 < s4 ∧ s4 < 64) (h01 : s1 ≠ s0) (h02 : s2 ≠ s0) (h12 : s2 ≠ s1) {y0 : TypeId} {q0 : String} {z0 : Array Edge} {y1 : TypeId} {q1 : String} {z1 : Array Edge} {y2 : TypeId} {q2 : String} {z2 : Array Edge} {y3 : TypeId} {q3 : String} {z3 : Array Edge} {y4 : TypeId} {q4 : String} {z4 : Array Edge} {y5 : TypeId} {q5 : String} {z5 : Array Edge}
    (hK : ∀ w2 D2 a2, Tab N w0 w2 (n + 1) D2 → Regs N a2 → wpList Tryd.prog ops Q rest a2 w2) :
    wpList Tryd.prog ops Q (⟨some s0, Op.load 75 (.tmp (atP N p0).1), y0, q0, z0, none⟩ :: ⟨some s1, Op.load 75 (.tmp (atP N p1).1), y1, q1, z1, none⟩ :: ⟨some s2, Op.load 75 (.tmp (atP N p2).1), y2, q2, z2, none⟩ :: ⟨some s3, Op.buildSlice 66 3 #[(0, .tmp s0), (1, .tmp s1), (2, .tmp s2)], y3, q3, z3, none⟩ :: ⟨some s4, Op.build 69 #[(0, .const (.string (mk cmd))), (1, .tmp s3), (2, .func f)], y4, q4, z4, none⟩ ::
      ⟨none, Op.insert 70 (.tmp 11) (.const (.int .i64 ((n : Int) + 1))) (.tmp s4), y5, q5, z5, none⟩ :: rest) a w1 := by
  refine wpList_place (hI.at hp0).1 (hI.at hp0).2 rfl _ rfl (hR.at hp0) ?_
  refine wpList_place (hI.at hp1).1 (hI.at hp1).2 rfl _ rfl ((hR.put s0 hs0.1 _).at hp1) ?_
  refine wpList_place (hI.at hp2).1 (hI.at hp2).2 rfl _ rfl (((hR.put s0 hs0.1 _).put s1 hs1.1 _).at hp2) ?_
  refine wpList_slice3 rfl s0 s1 s2 rfl ((eval_put_ne _ s2 s0 _ h02).trans ((eval_put_ne _ s1 s0 _ h01).trans (eval_put_eq _ s0 _ (by rw [hR.size]; exact hs0.2)))) ((eval_put_ne _ s2 s1 _ h12).trans (eval_put_eq _ s1 _ (by rw [(hR.put s0 hs0.1 _).size]; exact hs1.2))) (eval_put_eq _ s2 _ (by rw [((hR.put s0 hs0.1 _).put s1 hs1.1 _).size]; exact hs2.2)) ?_
  refine wpList_build rfl cmd s3 f rfl (eval_put_eq _ s3 _ (by rw [(((hR.put s0 hs0.1 _).put s1 hs1.1 _).put s2 hs2.1 _).size]; exact hs3.2)) ?_
  refine wpList_row (o := ⟨none, Op.insert _ _ _ _, _, _, _, _⟩) hI hn cmd [p0, p1, p2] f hrow hf _ (by rfl) rfl _ _ _ rfl (((((hR.put s0 hs0.1 _).put s1 hs1.1 _).put s2 hs2.1 _).put s3 hs3.1 _).put s4 hs4.1 _).m rfl (eval_put_eq _ s4 _ (by rw [((((hR.put s0 hs0.1 _).put s1 hs1.1 _).put s2 hs2.1 _).put s3 hs3.1 _).size]; exact hs4.2)) ?_
  intro w2 D2 h2
  exact hK _ _ _ h2 (((((hR.put s0 hs0.1 _).put s1 hs1.1 _).put s2 hs2.1 _).put s3 hs3.1 _).put s4 hs4.1 _)
theorem wpList_row0p {N : Nat} {w0 w1 : World} {n : Nat} {D : DataW Value} (hI : Tab N w0 w1 n D) (hn : n ≤ 14) (cmd : List UInt8) (f : Nat) (hrow : Cl.rowsT[n]? = some (cmd, [])) (hf : tellF[n]? = some f)
    {ops : Array Oper} {rest : List Oper} {a : Act} {Q : Exit → Act → World → Prop} (hR : Regs N a) (s : Nat) (hs : 11 < s ∧ s < 64) {y0 : TypeId} {q0 : String} {z0 : Array Edge} {y1 : TypeId} {q1 : String} {z1 : Array Edge}
    (hK : ∀ w2 D2 a2, Tab N w0 w2 (n + 1) D2 → Regs N a2 → wpList Tryd.prog ops Q rest a2 w2) :
    wpList Tryd.prog ops Q (⟨some s, Op.build 69 #[(0, .const (.string (mk cmd))), (1, .const (.slice none 0 0)), (2, .func f)], y0, q0, z0, none⟩ ::
      ⟨none, Op.insert 70 (.tmp 11) (.const (.int .i64 ((n : Int) + 1))) (.tmp s), y1, q1, z1, none⟩ :: rest) a w1 := by
  refine wpList_build0 rfl cmd f rfl ?_
  refine wpList_row0 (o := ⟨none, Op.insert _ _ _ _, _, _, _, _⟩) hI hn cmd f hrow hf rfl _ _ _ rfl (hR.put s hs.1 _).m rfl (eval_put_eq _ s _ (by rw [hR.size]; exact hs.2)) ?_
  intro w2 D2 h2
  exact hK _ _ _ h2 (hR.put s hs.1 _)
/-- The map moved to the result. -/
theorem wpList_out {N : Nat} {w : World} {ops : Array Oper} {a : Act} {Q : Exit → Act → World → Prop} (hR : Regs N a) {y0 : TypeId} {q0 : String} {z0 : Array Edge} {y1 : TypeId} {q1 : String} {z1 : Array Edge}
    (hK : ∀ a2, a2.defers = a.defers → a2.eval (.tmp 0) = .map (some (N + 1 + 1 + 1 + 1 + 1 + 1 + 1 + 1 + 1 + 1 + 1 + 1 + 1 + 1 + 1)) → Q .normal a2 w) :
    wpList Tryd.prog ops Q [⟨some 63, Op.move (.tmp 11), y0, q0, z0, none⟩, ⟨some 0, Op.assign (.tmp 63), y1, q1, z1, none⟩] a w := by
  refine wpList_plain rfl fun K' hK' => ?_
  unfold Oper.wp
  simp only [execOp, hR.m]
  refine hK' _ _ (wpList_plain rfl fun K2 hK2 => ?_)
  unfold Oper.wp
  simp only [execOp, eval_put_eq _ 63 _ (show 63 < a.tmps.size by rw [hR.size]; decide)]
  refine hK2 _ _ (wpList_nil (hK _ rfl ?_))
  exact eval_put_eq _ 0 _ (by rw [size_put, hR.size]; decide)

set_option maxRecDepth 100000 in
set_option maxHeartbeats 4000000 in
theorem rows_any (w : World) : Calls Tryd.prog 32 #[] w fun e w' => e = .returned (.map (some (w.heap.size + 1 + 1 + 1 + 1 + 1 + 1 + 1 + 1 + 1 + 1 + 1 + 1 + 1 + 1 + 1))) ∧ ∃ D, Tab w.heap.size w w' 15 D := by
  go_enter Tryd.func32, Tryd.ntmps32
  go_wp2_with fail
  refine (word_any _ _).mono ?_
  rintro e w' ⟨rfl, rfl⟩
  go_wp2_with fail
  refine (word_any _ _).mono ?_
  rintro e w' ⟨rfl, rfl⟩
  go_wp2_with fail
  refine (word_any _ _).mono ?_
  rintro e w' ⟨rfl, rfl⟩
  go_wp2_with fail
  refine (number_any _ _).mono ?_
  rintro e w' ⟨rfl, rfl⟩
  go_wp2_with fail
  refine (number_any _ _).mono ?_
  rintro e w' ⟨rfl, rfl⟩
  go_wp2_with fail
  rename_i Q' K1 hK1 K2 hK2
  rw [run_makeMap]
  refine hK2 _ _ ?_
  generalize hWW : World.alloc _ (.map #[] 0) = W
  have hI : Tab w.heap.size w W 0 (.map []) := by
    clear hK2 hK1
    subst hWW
    have hbel : Below w.heap.size w w := Below.refl _ _
    refine { below := ?_, lt := ?_, map := ownsMap_last _ _ _ _ _ ?_, b0 := ?_, r0 := ?_, t0 := ?_, b1 := ?_, r1 := ?_, t1 := ?_, b2 := ?_, r2 := ?_, t2 := ?_, b3 := ?_, r3 := ?_, t3 := ?_, b4 := ?_, r4 := ?_, t4 := ?_, rows := fun k hk => absurd hk (Nat.not_lt_zero _), miss := fun k _ => ⟨rfl, fun z => rfl⟩ }
    · iterate 16 refine Below.alloc ?_ (by first | exact Nat.le_refl _ | (simp <;> omega)) _
      exact hbel
    all_goals simp [go_sem, rd, wt, cl, fldF]
  clear hWW
  generalize hAA : Act.put _ _ _ = A
  have hR : Regs w.heap.size A := by
    subst hAA
    constructor
    all_goals simp [Act.put, Act.eval]
  clear hAA
  refine wpList_row1p hI (by decide) _ 0 (by decide) _ (by rfl) (by rfl) hR 12 13 14 (by decide) (by decide) (by decide)  ?_
  clear hI hR
  intro w1 D1 a1 hI hR
  refine wpList_row1p hI (by decide) _ 0 (by decide) _ (by rfl) (by rfl) hR 15 16 17 (by decide) (by decide) (by decide)  ?_
  clear hI hR
  intro w1 D1 a1 hI hR
  refine wpList_row3p hI (by decide) _ 0 3 4 (by decide) (by decide) (by decide) _ (by rfl) (by rfl) hR 18 19 20 21 22 (by decide) (by decide) (by decide) (by decide) (by decide) (by decide) (by decide) (by decide) ?_
  clear hI hR
  intro w1 D1 a1 hI hR
  refine wpList_row3p hI (by decide) _ 0 3 2 (by decide) (by decide) (by decide) _ (by rfl) (by rfl) hR 23 24 25 26 27 (by decide) (by decide) (by decide) (by decide) (by decide) (by decide) (by decide) (by decide) ?_
  clear hI hR
  intro w1 D1 a1 hI hR
  refine wpList_row2p hI (by decide) _ 0 4 (by decide) (by decide) _ (by rfl) (by rfl) hR 28 29 30 31 (by decide) (by decide) (by decide) (by decide) (by decide) ?_
  clear hI hR
  intro w1 D1 a1 hI hR
  refine wpList_row1p hI (by decide) _ 0 (by decide) _ (by rfl) (by rfl) hR 32 33 34 (by decide) (by decide) (by decide)  ?_
  clear hI hR
  intro w1 D1 a1 hI hR
  refine wpList_row1p hI (by decide) _ 0 (by decide) _ (by rfl) (by rfl) hR 35 36 37 (by decide) (by decide) (by decide)  ?_
  clear hI hR
  intro w1 D1 a1 hI hR
  refine wpList_row2p hI (by decide) _ 0 1 (by decide) (by decide) _ (by rfl) (by rfl) hR 38 39 40 41 (by decide) (by decide) (by decide) (by decide) (by decide) ?_
  clear hI hR
  intro w1 D1 a1 hI hR
  refine wpList_row2p hI (by decide) _ 0 1 (by decide) (by decide) _ (by rfl) (by rfl) hR 42 43 44 45 (by decide) (by decide) (by decide) (by decide) (by decide) ?_
  clear hI hR
  intro w1 D1 a1 hI hR
  refine wpList_row2p hI (by decide) _ 1 0 (by decide) (by decide) _ (by rfl) (by rfl) hR 46 47 48 49 (by decide) (by decide) (by decide) (by decide) (by decide) ?_
  clear hI hR
  intro w1 D1 a1 hI hR
  refine wpList_row1p hI (by decide) _ 0 (by decide) _ (by rfl) (by rfl) hR 50 51 52 (by decide) (by decide) (by decide)  ?_
  clear hI hR
  intro w1 D1 a1 hI hR
  refine wpList_row1p hI (by decide) _ 0 (by decide) _ (by rfl) (by rfl) hR 53 54 55 (by decide) (by decide) (by decide)  ?_
  clear hI hR
  intro w1 D1 a1 hI hR
  refine wpList_row1p hI (by decide) _ 0 (by decide) _ (by rfl) (by rfl) hR 56 57 58 (by decide) (by decide) (by decide)  ?_
  clear hI hR
  intro w1 D1 a1 hI hR
  refine wpList_row1p hI (by decide) _ 0 (by decide) _ (by rfl) (by rfl) hR 59 60 61 (by decide) (by decide) (by decide)  ?_
  clear hI hR
  intro w1 D1 a1 hI hR
  refine wpList_row0p hI (by decide) _ _ (by rfl) (by rfl) hR 62 (by decide) ?_
  clear hI hR
  intro w1 D1 a1 hI hR
  refine wpList_out hR ?_
  intro a2 hd h0
  have hd2 : a2.defers = [] := hd.trans hR.defers
  refine hK1 _ _ ?_
  clear hK1 hK2 K1 K2
  go_wp2
  simp only [Act.eval] at h0
  simp [bodyPost, results, Tryd.results32, go_sem, hd2]
  exact ⟨by simpa [Array.getD_eq_getD_getElem?] using h0, D1, hI⟩
end Rw
end Go.Proofs.YtjloonijnbfhhaaDoor
