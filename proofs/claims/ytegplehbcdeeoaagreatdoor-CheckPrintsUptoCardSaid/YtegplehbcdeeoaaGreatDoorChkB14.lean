/- What a checker has found out: what a store does. -/
import Derived.Test.YtegplehbcdeeoaaGreatDoorChkB13
import Derived.Test.YtegplehbcdeeoaaGreatDoorChkB12
import Derived.Lib.SlBytesConst
namespace Go.Proofs.YtegplehbcdeeoaaGreatDoor
open Go.RowKit Go.Maps

namespace Ck
open Pk Pw
section
variable {W W' W'' : World} {A : Adr} {G G' G'' : Gh} {s : St} {N : Nat} {o : Ow}
theorem Sim.kept_one (_h : Sim N W A G s) {x : Nat} (hx : G.who x = o) (hg : W.grownBy W' (some x)) : Kept o W W' G :=
  ⟨hg.os, hg.tape, hg.output, hg.size, fun b h1 _ h3 => hg.block b h1 (fun e => h3 (by cases e; exact hx))⟩
theorem MapF.not_cells {κ κ' ν : Type} [DecidableEq κ'] [Fs.Key κ'] {P : Program} {b : Nat} {k : TypeId} {ev : ν → Value} {en : κ → κ'} {V : κ → Prop} {f : κ → Option ν} (h : MapF P k ev en V W b N f) (cs : Array Value) (t : TypeId) (fr : Nat × Nat) : W.heap[b]? ≠ some (.cells cs t fr) := by
  obtain ⟨m, h1, _⟩ := h
  obtain ⟨es, clock, hb, _⟩ := h1.1
  rw [hb]
  simp
theorem Sim.stp_one (_h : Sim N W A G s) {x : Nat} (hx : G.who x = o) (ho : o ≠ .other) (hg : W.grownBy W' (some x)) (hnc : ∀ cs t fr, W.heap[x]? ≠ some (.cells cs t fr)) : Stp W G W' G :=
  ⟨hg.os, hg.tape, hg.output, hg.size, fun _ _ e => e, fun b h1 h2 => hg.block b h1 (fun e => ho (by cases e; rw [← hx]; exact h2)), fun _ c b hB hw => by
    obtain ⟨cs, t, fr, e⟩ := c b hB hw
    exact ⟨cs, t, fr, (hg.block b (lt_of_block e) (fun e2 => by cases e2; exact hnc _ _ _ e)).trans e⟩⟩
theorem Sim.putNodes (h : Sim N W A G s) {f : Nat → Option Rc} (hm : MapI (fun x => .agg (recC x)) W' A.nodes (N + 1) f) (hg : W.grownBy W' (some A.nodes)) : Sim (N + 1) W' A G { s with nodes := f } ∧ Stp W G W' G := by
  have k := h.stp_one h.wNodes (by decide) hg (fun cs t fr => (h.nodes (by decide)).not_cells cs t fr)
  have m := (SimX.move h (h.kept_one h.wNodes hg) (by decide) (h.kvs k)).mono (Nat.le_succ N)
  exact ⟨{
    nodes := fun _ => hm
    blk := fun _ => m.blk (by decide), fnd := fun _ => m.fnd (by decide), had := fun _ => m.had (by decide), blocks := fun _ => m.blocks (by decide), cells := fun _ => m.cells (by decide), depth := fun _ => m.depth (by decide), seen := fun _ => m.seen (by decide), names := fun _ => m.names (by decide)
    img := m.img, rows := fun a v b _ => m.rows a v b (by simp), rowN := m.rowN, wFnd := m.wFnd, wRow := m.wRow, wC := m.wC, wImg := m.wImg, wNodes := m.wNodes, wHad := m.wHad, wBlocks := m.wBlocks, wCells := m.wCells, wDepth := m.wDepth, wSeen := m.wSeen, wNames := m.wNames
    low := m.low, lenF := m.lenF, lenC := m.lenC, kv := m.kv, t1 := m.t1, t2 := m.t2, len := m.len, n1 := m.n1, n2 := m.n2, cap := m.cap, base := m.base }, k⟩
theorem Sim.putHad (h : Sim N W A G s) {f : Nat → Option Nat} (hm : MapI iv W' A.had (N + 1) f) (hg : W.grownBy W' (some A.had)) : Sim (N + 1) W' A G { s with had := f } ∧ Stp W G W' G := by
  have k := h.stp_one h.wHad (by decide) hg (fun cs t fr => (h.had (by decide)).not_cells cs t fr)
  have m := (SimX.move h (h.kept_one h.wHad hg) (by decide) (h.kvs k)).mono (Nat.le_succ N)
  exact ⟨{
    had := fun _ => hm
    blk := fun _ => m.blk (by decide), fnd := fun _ => m.fnd (by decide), nodes := fun _ => m.nodes (by decide), blocks := fun _ => m.blocks (by decide), cells := fun _ => m.cells (by decide), depth := fun _ => m.depth (by decide), seen := fun _ => m.seen (by decide), names := fun _ => m.names (by decide)
    img := m.img, rows := fun a v b _ => m.rows a v b (by simp), rowN := m.rowN, wFnd := m.wFnd, wRow := m.wRow, wC := m.wC, wImg := m.wImg, wNodes := m.wNodes, wHad := m.wHad, wBlocks := m.wBlocks, wCells := m.wCells, wDepth := m.wDepth, wSeen := m.wSeen, wNames := m.wNames
    low := m.low, lenF := m.lenF, lenC := m.lenC, kv := m.kv, t1 := m.t1, t2 := m.t2, len := m.len, n1 := m.n1, n2 := m.n2, cap := m.cap, base := m.base }, k⟩
theorem Sim.putBlocks (h : Sim N W A G s) {f : Nat × Nat → Option Nat} (hm : MapP W' A.blocks (N + 1) f) (hg : W.grownBy W' (some A.blocks)) : Sim (N + 1) W' A G { s with blocks := f } ∧ Stp W G W' G := by
  have k := h.stp_one h.wBlocks (by decide) hg (fun cs t fr => (h.blocks (by decide)).not_cells cs t fr)
  have m := (SimX.move h (h.kept_one h.wBlocks hg) (by decide) (h.kvs k)).mono (Nat.le_succ N)
  exact ⟨{
    blocks := fun _ => hm
    blk := fun _ => m.blk (by decide), fnd := fun _ => m.fnd (by decide), nodes := fun _ => m.nodes (by decide), had := fun _ => m.had (by decide), cells := fun _ => m.cells (by decide), depth := fun _ => m.depth (by decide), seen := fun _ => m.seen (by decide), names := fun _ => m.names (by decide)
    img := m.img, rows := fun a v b _ => m.rows a v b (by simp), rowN := m.rowN, wFnd := m.wFnd, wRow := m.wRow, wC := m.wC, wImg := m.wImg, wNodes := m.wNodes, wHad := m.wHad, wBlocks := m.wBlocks, wCells := m.wCells, wDepth := m.wDepth, wSeen := m.wSeen, wNames := m.wNames
    low := m.low, lenF := m.lenF, lenC := m.lenC, kv := m.kv, t1 := m.t1, t2 := m.t2, len := m.len, n1 := m.n1, n2 := m.n2, cap := m.cap, base := m.base }, k⟩
theorem Sim.putDepth (h : Sim N W A G s) {f : Nat → Option Nat} (hm : MapI iv W' A.depth (N + 1) f) (hg : W.grownBy W' (some A.depth)) : Sim (N + 1) W' A G { s with depth := f } ∧ Stp W G W' G := by
  have k := h.stp_one h.wDepth (by decide) hg (fun cs t fr => (h.depth (by decide)).not_cells cs t fr)
  have m := (SimX.move h (h.kept_one h.wDepth hg) (by decide) (h.kvs k)).mono (Nat.le_succ N)
  exact ⟨{
    depth := fun _ => hm
    blk := fun _ => m.blk (by decide), fnd := fun _ => m.fnd (by decide), nodes := fun _ => m.nodes (by decide), had := fun _ => m.had (by decide), blocks := fun _ => m.blocks (by decide), cells := fun _ => m.cells (by decide), seen := fun _ => m.seen (by decide), names := fun _ => m.names (by decide)
    img := m.img, rows := fun a v b _ => m.rows a v b (by simp), rowN := m.rowN, wFnd := m.wFnd, wRow := m.wRow, wC := m.wC, wImg := m.wImg, wNodes := m.wNodes, wHad := m.wHad, wBlocks := m.wBlocks, wCells := m.wCells, wDepth := m.wDepth, wSeen := m.wSeen, wNames := m.wNames
    low := m.low, lenF := m.lenF, lenC := m.lenC, kv := m.kv, t1 := m.t1, t2 := m.t2, len := m.len, n1 := m.n1, n2 := m.n2, cap := m.cap, base := m.base }, k⟩
theorem Sim.putSeen (h : Sim N W A G s) {f : Nat → Option Nat} (hm : MapI iv W' A.seen (N + 1) f) (hg : W.grownBy W' (some A.seen)) : Sim (N + 1) W' A G { s with seen := f } ∧ Stp W G W' G := by
  have k := h.stp_one h.wSeen (by decide) hg (fun cs t fr => (h.seen (by decide)).not_cells cs t fr)
  have m := (SimX.move h (h.kept_one h.wSeen hg) (by decide) (h.kvs k)).mono (Nat.le_succ N)
  exact ⟨{
    seen := fun _ => hm
    blk := fun _ => m.blk (by decide), fnd := fun _ => m.fnd (by decide), nodes := fun _ => m.nodes (by decide), had := fun _ => m.had (by decide), blocks := fun _ => m.blocks (by decide), cells := fun _ => m.cells (by decide), depth := fun _ => m.depth (by decide), names := fun _ => m.names (by decide)
    img := m.img, rows := fun a v b _ => m.rows a v b (by simp), rowN := m.rowN, wFnd := m.wFnd, wRow := m.wRow, wC := m.wC, wImg := m.wImg, wNodes := m.wNodes, wHad := m.wHad, wBlocks := m.wBlocks, wCells := m.wCells, wDepth := m.wDepth, wSeen := m.wSeen, wNames := m.wNames
    low := m.low, lenF := m.lenF, lenC := m.lenC, kv := m.kv, t1 := m.t1, t2 := m.t2, len := m.len, n1 := m.n1, n2 := m.n2, cap := m.cap, base := m.base }, k⟩
theorem Sim.putNames (h : Sim N W A G s) {f : Nat → Option Nat} (hm : MapI iv W' A.names (N + 1) f) (hg : W.grownBy W' (some A.names)) : Sim (N + 1) W' A G { s with names := f } ∧ Stp W G W' G := by
  have k := h.stp_one h.wNames (by decide) hg (fun cs t fr => (h.names (by decide)).not_cells cs t fr)
  have m := (SimX.move h (h.kept_one h.wNames hg) (by decide) (h.kvs k)).mono (Nat.le_succ N)
  exact ⟨{
    names := fun _ => hm
    blk := fun _ => m.blk (by decide), fnd := fun _ => m.fnd (by decide), nodes := fun _ => m.nodes (by decide), had := fun _ => m.had (by decide), blocks := fun _ => m.blocks (by decide), cells := fun _ => m.cells (by decide), depth := fun _ => m.depth (by decide), seen := fun _ => m.seen (by decide)
    img := m.img, rows := fun a v b _ => m.rows a v b (by simp), rowN := m.rowN, wFnd := m.wFnd, wRow := m.wRow, wC := m.wC, wImg := m.wImg, wNodes := m.wNodes, wHad := m.wHad, wBlocks := m.wBlocks, wCells := m.wCells, wDepth := m.wDepth, wSeen := m.wSeen, wNames := m.wNames
    low := m.low, lenF := m.lenF, lenC := m.lenC, kv := m.kv, t1 := m.t1, t2 := m.t2, len := m.len, n1 := m.n1, n2 := m.n2, cap := m.cap, base := m.base }, k⟩
theorem own_lt {base : Nat} {e : TypeId} {k : Nat} {v : Value} {n : Nat} {xs : List Value} (h : W.ownsRow base e k v n xs) {g : Nat} (hg : v.ownBlock = some g) : base ≤ g ∧ g < W.heap.size := by
  rcases h.2 with ⟨rfl, _⟩ | ⟨g', cap, cur, rfl, hb, hh, _⟩
  · cases hg
  · cases hg; exact ⟨hb, lt_of_block hh⟩
theorem own_cells {base : Nat} {e : TypeId} {k : Nat} {v : Value} {n : Nat} {xs : List Value} (h : W.ownsRow base e k v n xs) {g : Nat} (hg : v.ownBlock = some g) : ∃ cs, W.heap[g]? = some (.cells cs e (0, 0)) := by
  rcases h.2 with ⟨rfl, _⟩ | ⟨g', cap, cur, rfl, hb, hh, _⟩
  · cases hg
  · cases hg; exact ⟨_, hh⟩
/-- A finding is told: the row grows, the checker has the new row. -/
theorem Sim.told2 (h : Sim N W A G s) {v' : Value} {f : Fnd} (hown : W'.ownsRow A.base 34 4 v' (s.found.length + 1) (fndsV s.found ++ fndV f)) (hg : W.grownBy W' G.found.ownBlock) (hl : v'.ownBlock = G.found.ownBlock ∨ v'.ownBlock = some W.heap.size) :
    ∃ G', Sim (N + 1) (W'.setCell ⟨A.c, 6, none⟩ v') A G' { s with found := s.found ++ [f] } ∧ Stp W G (W'.setCell ⟨A.c, 6, none⟩ v') G' ∧ (∀ b k, G.who b = .row k → (W'.setCell ⟨A.c, 6, none⟩ v').heap[b]? = W.heap[b]? ∧ G'.who b = .row k) := by
  have hcl : A.c < W.heap.size := (h.low _ (by rw [h.wC]; decide)).2
  have hw1 : ∀ b, b < W.heap.size → v'.ownBlock = some b → G.who b = .found := fun b hb e => by
    rcases hl with hl | hl
    · exact h.wFnd b (by rw [← hl]; exact e)
    · rw [hl] at e; cases e; omega
  have hof : ∀ b, G.found.ownBlock = some b → G.who b = .found := h.wFnd
  have hwho : ∀ b, b < W.heap.size → G.who b = .other → (if v'.ownBlock = some b then Ow.found else if G.found.ownBlock = some b then Ow.other else G.who b) = .other := fun b hb e => by
    split
    · rename_i e1; rw [hw1 b hb e1] at e; cases e
    · split
      · rfl
      · exact e
  have hne : ∀ b r, G.who b = r → r ≠ .other → r ≠ .found → W'.heap[b]? = W.heap[b]? := fun b r e h1 h2 =>
    hg.block b (h.low b (by rw [e]; exact h1)).2 (fun c => h2 (by rw [← e]; exact h.wFnd b c.symm))
  have hne2 : ∀ b r, G.who b = r → r ≠ .other → r ≠ .found → r ≠ .chk → (W'.setCell ⟨A.c, 6, none⟩ v').heap[b]? = W.heap[b]? := fun b r e h1 h2 h3 =>
    (setCell_heap _ _ _ _ _ (fun c => h3 (by rw [← e, c]; exact h.wC))).trans (hne b r e h1 h2)
  have hlt : ∀ b r, G.who b = r → r ≠ .other → b < W.heap.size := fun b r e h1 => (h.low b (by rw [e]; exact h1)).2
  have wk : ∀ b r, G.who b = r → r ≠ .other → r ≠ .found → (if v'.ownBlock = some b then Ow.found else if G.found.ownBlock = some b then Ow.other else G.who b) = r := fun b r e h1 h2 => by
    split
    · rename_i e1; exact absurd ((hw1 b (hlt b r e h1) e1).symm.trans e).symm h2
    · split
      · rename_i _ e2; exact absurd ((hof b e2).symm.trans e).symm h2
      · exact e
  have hfA : ∀ g, v'.ownBlock = some g → g ≠ A.c := fun g e c => by
    subst c
    have := hw1 _ hcl e
    rw [h.wC] at this
    cases this
  have hst : Stp W G (W'.setCell ⟨A.c, 6, none⟩ v') { G with found := v', who := fun b => if v'.ownBlock = some b then .found else if G.found.ownBlock = some b then .other else G.who b } :=
    ⟨hg.os, hg.tape, hg.output, by simpa using hg.size, hwho, fun b h1 h2 => (setCell_heap _ _ _ _ _ (fun c => by rw [c, h.wC] at h2; cases h2)).trans (hg.block b h1 (fun c => by rw [h.wFnd b c.symm] at h2; cases h2)), fun B c b hB hw => by
      dsimp only at hw
      split at hw
      · rename_i e
        obtain ⟨cs, e2⟩ := own_cells hown e
        exact ⟨cs, _, _, (setCell_heap _ _ _ _ _ (hfA b e)).trans e2⟩
      · split at hw
        · exact absurd rfl hw
        · rename_i e2
          obtain ⟨cs, t, fr, e⟩ := c b hB hw
          have e3 : W'.heap[b]? = some (.cells cs t fr) := (hg.block b (lt_of_block e) (fun x => e2 x.symm)).trans e
          by_cases hbc : b = A.c
          · subst hbc
            exact ⟨_, _, _, ((h.blk (by decide)).same (hg.block A.c hcl (fun x => e2 x.symm))).setAt 6 v'⟩
          · exact ⟨cs, t, fr, (setCell_heap _ _ _ _ _ hbc).trans e3⟩⟩
  refine ⟨_, ?_, hst, fun b k e => ⟨hne2 b _ e (by simp) (by simp) (by simp), wk b _ e (by simp) (by simp)⟩⟩
  have m := SimX.mono h (Nat.le_succ N)
  exact {
    blk := fun _ => ((h.blk (by decide)).same (hne _ _ h.wC (by decide) (by decide))).setAt 6 v'
    img := m.img.same (hne2 _ _ h.wImg (by decide) (by decide) (by decide))
    fnd := fun _ => by
      have : fndsV s.found ++ fndV f = fndsV (s.found ++ [f]) := by simp [fndsV]
      rw [this] at hown
      show World.ownsRow _ _ _ _ _ (s.found ++ [f]).length _
      rw [List.length_append]
      exact own_same hown fun g hg' => setCell_heap _ _ _ _ _ (hfA g hg')
    nodes := fun _ => (m.nodes (by decide)).same (hne2 _ _ h.wNodes (by decide) (by decide) (by decide))
    had := fun _ => (m.had (by decide)).same (hne2 _ _ h.wHad (by decide) (by decide) (by decide))
    blocks := fun _ => (m.blocks (by decide)).same (hne2 _ _ h.wBlocks (by decide) (by decide) (by decide))
    cells := fun _ => (m.cells (by decide)).same (hne2 _ _ h.wCells (by decide) (by decide) (by decide))
    depth := fun _ => (m.depth (by decide)).same (hne2 _ _ h.wDepth (by decide) (by decide) (by decide))
    seen := fun _ => (m.seen (by decide)).same (hne2 _ _ h.wSeen (by decide) (by decide) (by decide))
    names := fun _ => (m.names (by decide)).same (hne2 _ _ h.wNames (by decide) (by decide) (by decide))
    rows := fun k v hv _ => own_same (h.rows k v hv (by simp)) fun g hg' => hne2 _ _ (h.wRow k v g hv hg') (by simp) (by simp) (by simp)
    rowN := m.rowN
    wFnd := fun g hg' => by dsimp only; rw [if_pos hg']
    wRow := fun k v g hv hg' => wk _ _ (h.wRow k v g hv hg') (by simp) (by simp)
    wC := wk _ _ h.wC (by decide) (by decide), wImg := wk _ _ h.wImg (by decide) (by decide), wNodes := wk _ _ h.wNodes (by decide) (by decide), wHad := wk _ _ h.wHad (by decide) (by decide), wBlocks := wk _ _ h.wBlocks (by decide) (by decide), wCells := wk _ _ h.wCells (by decide) (by decide)
    wDepth := wk _ _ h.wDepth (by decide) (by decide), wSeen := wk _ _ h.wSeen (by decide) (by decide), wNames := wk _ _ h.wNames (by decide) (by decide)
    low := fun b hb => by
      dsimp only at hb
      have hsz : (W'.setCell ⟨A.c, 6, none⟩ v').heap.size = W'.heap.size := by simp
      rw [hsz]
      split at hb
      · rename_i e; exact own_lt hown e
      · split at hb
        · exact absurd rfl hb
        · exact ⟨(h.low b hb).1, Nat.lt_of_lt_of_le (h.low b hb).2 hg.size⟩
    lenF := by show (s.found ++ [f]).length ≤ _; rw [List.length_append]; have := h.lenF; simp; exact this
    lenC := m.lenC, kv := h.kvs hst, t1 := m.t1, t2 := m.t2, len := m.len, n1 := m.n1, n2 := m.n2, cap := m.cap, base := Nat.le_trans m.base hst.size }
theorem Sim.told (h : Sim N W A G s) {v' : Value} {f : Fnd} (hown : W'.ownsRow A.base 34 4 v' (s.found.length + 1) (fndsV s.found ++ fndV f)) (hg : W.grownBy W' G.found.ownBlock) (hl : v'.ownBlock = G.found.ownBlock ∨ v'.ownBlock = some W.heap.size) :
    ∃ G', Sim (N + 1) (W'.setCell ⟨A.c, 6, none⟩ v') A G' { s with found := s.found ++ [f] } ∧ Stp W G (W'.setCell ⟨A.c, 6, none⟩ v') G' := by
  obtain ⟨G', k1, k2, _⟩ := h.told2 hown hg hl
  exact ⟨G', k1, k2⟩
/-- A cell is noted: its directory's row grows, the map has the new row. -/
theorem Sim.noted (h : Sim N W A G s) {k : Nat} {v' : Value} {c : Cl} (hk : vI k) (hown : W'.ownsRow A.base 118 2 v' ((s.cells k).length + 1) (clsV (s.cells k) ++ clV c)) (hg : W.grownBy W' ((G.row k).getD (.slice none 0 0)).ownBlock) (hl : v'.ownBlock = ((G.row k).getD (.slice none 0 0)).ownBlock ∨ v'.ownBlock = some W.heap.size)
    (hm : MapI (fun v => v) W'' A.cells (N + 1) (fun j => if j = k then some v' else G.row j)) (hg2 : W'.grownBy W'' (some A.cells)) :
    ∃ G', Sim (N + 1) W'' A G' { s with cells := fun j => if j = k then s.cells k ++ [c] else s.cells j } ∧ Stp W G W'' G' := by
  have hA : A.cells < W.heap.size := (h.low _ (by rw [h.wCells]; decide)).2
  have hr0 : ∀ b, ((G.row k).getD (.slice none 0 0)).ownBlock = some b → G.who b = .row k := fun b e => by
    cases hr : G.row k with
    | none => rw [hr] at e; cases e
    | some v => rw [hr] at e; exact h.wRow k v b hr e
  have hw1 : ∀ b, b < W.heap.size → v'.ownBlock = some b → G.who b = .row k := fun b hb e => by
    rcases hl with hl | hl
    · exact hr0 b (by rw [← hl]; exact e)
    · rw [hl] at e; cases e; omega
  have hwho : ∀ b, b < W.heap.size → G.who b = .other → (if v'.ownBlock = some b then Ow.row k else if ((G.row k).getD (.slice none 0 0)).ownBlock = some b then Ow.other else G.who b) = .other := fun b hb e => by
    split
    · rename_i e1; rw [hw1 b hb e1] at e; cases e
    · split
      · rfl
      · exact e
  have hne2 : ∀ b r, G.who b = r → r ≠ .other → r ≠ .row k → r ≠ .cells → W''.heap[b]? = W.heap[b]? := fun b r e h1 h2 h3 =>
    (hg2.block b (Nat.lt_of_lt_of_le (h.low b (by rw [e]; exact h1)).2 hg.size) (fun x => h3 (by cases x; rw [← e]; exact h.wCells))).trans
      (hg.block b (h.low b (by rw [e]; exact h1)).2 (fun x => h2 (by rw [← e]; exact hr0 b x.symm)))
  have hlt : ∀ b r, G.who b = r → r ≠ .other → b < W.heap.size := fun b r e h1 => (h.low b (by rw [e]; exact h1)).2
  have wk : ∀ b r, G.who b = r → r ≠ .other → r ≠ .row k → (if v'.ownBlock = some b then Ow.row k else if ((G.row k).getD (.slice none 0 0)).ownBlock = some b then Ow.other else G.who b) = r := fun b r e h1 h2 => by
    split
    · rename_i e1; exact absurd ((hw1 b (hlt b r e h1) e1).symm.trans e).symm h2
    · split
      · rename_i _ e2; exact absurd ((hr0 b e2).symm.trans e).symm h2
      · exact e
  have hfA : ∀ g, v'.ownBlock = some g → g ≠ A.cells := fun g e x => by
    subst x
    have := hw1 _ hA e
    rw [h.wCells] at this
    cases this
  have hst : Stp W G W'' { G with row := fun j => if j = k then some v' else G.row j, who := fun b => if v'.ownBlock = some b then .row k else if ((G.row k).getD (.slice none 0 0)).ownBlock = some b then .other else G.who b } :=
    ⟨hg2.os.trans hg.os, hg2.tape.trans hg.tape, hg2.output.trans hg.output, Nat.le_trans hg.size hg2.size, hwho, fun b h1 h2 => (hg2.block b (Nat.lt_of_lt_of_le h1 hg.size) (fun x => by cases x; rw [h.wCells] at h2; cases h2)).trans (hg.block b h1 (fun x => by rw [hr0 b x.symm] at h2; cases h2)), fun B c b hB hw => by
      dsimp only at hw
      split at hw
      · rename_i e
        obtain ⟨cs, e2⟩ := own_cells hown e
        exact ⟨cs, _, _, (hg2.block b (lt_of_block e2) (fun x => hfA b e (by cases x; rfl))).trans e2⟩
      · split at hw
        · exact absurd rfl hw
        · rename_i e2
          obtain ⟨cs, t, fr, e⟩ := c b hB hw
          have e3 : W'.heap[b]? = some (.cells cs t fr) := (hg.block b (lt_of_block e) (fun x => e2 x.symm)).trans e
          exact ⟨cs, t, fr, (hg2.block b (lt_of_block e3) (fun x => by cases x; exact (h.cells (by decide)).not_cells _ _ _ e)).trans e3⟩⟩
  refine ⟨_, ?_, hst⟩
  have m := SimX.mono h (Nat.le_succ N)
  exact {
    blk := fun _ => (m.blk (by decide)).same (hne2 _ _ h.wC (by decide) (by simp) (by decide))
    img := m.img.same (hne2 _ _ h.wImg (by decide) (by simp) (by decide))
    fnd := fun _ => own_same (m.fnd (by decide)) fun g hg' => hne2 _ _ (h.wFnd g hg') (by decide) (by simp) (by decide)
    nodes := fun _ => (m.nodes (by decide)).same (hne2 _ _ h.wNodes (by decide) (by simp) (by decide))
    had := fun _ => (m.had (by decide)).same (hne2 _ _ h.wHad (by decide) (by simp) (by decide))
    blocks := fun _ => (m.blocks (by decide)).same (hne2 _ _ h.wBlocks (by decide) (by simp) (by decide))
    cells := fun _ => hm
    depth := fun _ => (m.depth (by decide)).same (hne2 _ _ h.wDepth (by decide) (by simp) (by decide))
    seen := fun _ => (m.seen (by decide)).same (hne2 _ _ h.wSeen (by decide) (by simp) (by decide))
    names := fun _ => (m.names (by decide)).same (hne2 _ _ h.wNames (by decide) (by simp) (by decide))
    rows := fun j v hv _ => by
      dsimp only at hv ⊢
      by_cases e : j = k
      · subst e
        rw [if_pos rfl] at hv
        cases hv
        rw [if_pos rfl, List.length_append]
        have : clsV (s.cells j) ++ clV c = clsV (s.cells j ++ [c]) := by simp [clsV]
        rw [this] at hown
        exact own_same hown fun g hg' => hg2.block g (own_lt hown hg').2 (fun x => hfA g hg' (by cases x; rfl))
      · rw [if_neg e] at hv ⊢
        exact own_same (h.rows j v hv (by simp)) fun g hg' => hne2 _ _ (h.wRow j v g hv hg') (by simp) (by simpa using e) (by simp)
    rowN := fun j hj => by
      dsimp only at hj ⊢
      by_cases e : j = k
      · rw [if_pos e] at hj; cases hj
      · rw [if_neg e] at hj ⊢; exact h.rowN j hj
    wFnd := fun g hg' => wk _ _ (h.wFnd g hg') (by decide) (by simp)
    wRow := fun j v g hv hg' => by
      dsimp only at hv ⊢
      by_cases e : j = k
      · subst e
        rw [if_pos rfl] at hv
        cases hv
        rw [if_pos hg']
      · rw [if_neg e] at hv
        exact wk _ _ (h.wRow j v g hv hg') (by simp) (by simpa using e)
    wC := wk _ _ h.wC (by decide) (by simp), wImg := wk _ _ h.wImg (by decide) (by simp), wNodes := wk _ _ h.wNodes (by decide) (by simp), wHad := wk _ _ h.wHad (by decide) (by simp), wBlocks := wk _ _ h.wBlocks (by decide) (by simp), wCells := wk _ _ h.wCells (by decide) (by simp)
    wDepth := wk _ _ h.wDepth (by decide) (by simp), wSeen := wk _ _ h.wSeen (by decide) (by simp), wNames := wk _ _ h.wNames (by decide) (by simp)
    low := fun b hb => by
      dsimp only at hb
      split at hb
      · rename_i e; exact ⟨(own_lt hown e).1, Nat.lt_of_lt_of_le (own_lt hown e).2 hg2.size⟩
      · split at hb
        · exact absurd rfl hb
        · exact ⟨(h.low b hb).1, Nat.lt_of_lt_of_le (h.low b hb).2 hst.size⟩
    lenF := m.lenF
    lenC := fun j => by
      dsimp only
      split
      · rw [List.length_append]; have := h.lenC k; simp; exact this
      · exact m.lenC j
    kv := h.kvs hst, t1 := m.t1, t2 := m.t2, len := m.len, n1 := m.n1, n2 := m.n2, cap := m.cap, base := Nat.le_trans m.base hst.size }
end
end Ck
end Go.Proofs.YtegplehbcdeeoaaGreatDoor
/- The reference's super block. -/
namespace Go.Proofs.YtegplehbcdeeoaaGreatDoor
open Go.RowKit

namespace Ck
open Pk Pw
theorem byT : BytesT Tryz.prog 24 5 := ⟨Tryz.underlying24, Tryz.underlying5, by kernel_rfl⟩
theorem own_form {w : World} {base : Nat} {e : TypeId} {size : Nat} {v : Value} {n : Nat} {xs : List Value} (h : w.ownsRow base e size v n xs) (hn : 0 < n) : ∃ g cap, v = .slice (some ⟨g, 0, none⟩) n cap := by
  rcases h.2 with ⟨rfl, h0⟩ | ⟨g, cap, cur, rfl, _⟩
  · omega
  · exact ⟨g, cap, rfl⟩
def lenV : Value → Nat
  | .slice _ n _ => n
  | _ => 0
theorem low4 (n : Nat) (h : n < 65536) : low 4 n = [UInt8.ofNat (n % 256), UInt8.ofNat (n / 256 % 256), 0, 0] := by
  have e2 : n / 256 ^ 2 = 0 := by omega
  have e3 : n / 256 ^ 3 = 0 := by omega
  simp [low, List.range_succ, e2, e3]
set_option maxRecDepth 100000 in
set_option maxHeartbeats 1000000 in
theorem refSuper_good (n : Nat) (w : World) (h1 : 128 ≤ n) (h2 : n ≤ 16384) : Calls Tryz.prog 18 #[.int .i64 n] w fun e w' => ∃ v, e = .returned (.tuple #[v, .int .i64 0]) ∧ w'.ownsRow w.heap.size 5 1 v 512 (bytesV (superP n)) ∧ Below w.heap.size w w' := by
  have HO := refGeo_good n w h1 h2
  go_enter Tryz.func18, Tryz.ntmps18
  go_wp2_with fail
  refine HO.mono ?_
  clear HO
  rintro e w1 ⟨rfl, hb1⟩
  have hst := store_new w1 40 #[.int .i64 0, .int .i64 0, .int .i64 0, .int .i64 0, .int .i64 0] (geoL n (98 + (n + 4095) / 4096) (98 + (n + 4095) / 4096 + n / 64) (n / 64 * 8)) (by kernel_rfl) rfl (by simp [geoL, Value.oneCell'])
  have hb2 := hb1.alloc hb1.size (.cells (geoL n (98 + (n + 4095) / 4096) (98 + (n + 4095) / 4096 + n / 64) (n / 64 * 8)) 40)
  generalize geoL n (98 + (n + 4095) / 4096) (98 + (n + 4095) / 4096 + n / 64) (n / 64 * 8) = C at *
  generalize w1.alloc (.cells C 40) = w2 at *
  have hcv := Go.Lib.run_convert_bytes_const (P := Tryz.prog) w2 24 5 #[.int .u8 66, .int .u8 79, .int .u8 76, .int .u8 69, .int .u8 70, .int .u8 83, .int .u8 48, .int .u8 49] 8 8 Tryz.underlying24 Tryz.underlying5
  obtain ⟨w3, hw3⟩ : ∃ w3, w2.alloc (.cells #[.int .u8 66, .int .u8 79, .int .u8 76, .int .u8 69, .int .u8 70, .int .u8 83, .int .u8 48, .int .u8 49] 5 (8, 9)) = w3 := ⟨_, rfl⟩
  have hc3 : ∀ j u, (bytesV magicS)[j]? = some u → w3.cell? ⟨w2.heap.size, j, none⟩ = some u := fun j u hj => by
    rw [← hw3]
    simp only [World.cell?, heap_alloc_new]
    simpa [bytesV, magicS] using hj
  have hb3 : Below w.heap.size w w3 := by rw [← hw3]; exact hb2.alloc hb2.size _
  have hg3 : w2.heap.size < w3.heap.size := by rw [← hw3]; simp
  rw [show (#[Value.int .u8 66, .int .u8 79, .int .u8 76, .int .u8 69, .int .u8 70, .int .u8 83, .int .u8 48, .int .u8 49] : Array Value).size = 8 from rfl, hw3] at hcv
  have hk4 : Hid ((#[.int .u8 ((n : Int) % 256), .int .u8 ((n : Int) / 256), .int .u8 0, .int .u8 0] : Array Value) = (bytesV (low 4 n)).toArray) := by
    refine Lib.hid ?_
    rw [low4 n (by omega)]
    simp [bytesV]
    omega
  go_wp2_with (first | (refine wpList_store_run _ rfl (.tmp 4) (.tmp 11) 40 rfl _ hst ?_) | (at_builtin; refine wpList_append_full byT w3 rfl _ _ rfl _ w2.heap.size magicS (low 4 n) 4 hk4.out rfl (by rw [low_len]; decide) (by rfl) hc3 hg3 (by rfl) (by rw [low_len]; decide) ?_; intro v1 w4 ho4 hg4))
  have hL : (magicS ++ low 4 n).length = 12 := by rw [List.length_append, low_len]; rfl
  have hb4 := hb3.grown hg4 hb3.size (by simp)
  rw [hL] at ho4
  obtain ⟨g4, cap4, rfl⟩ := own_form ho4 (by omega)
  have hs4 := SeenAt.of_own ho4
  have HS := refSum_any (magicS ++ low 4 n) g4 0 cap4 w4 (by omega) hs4
  rw [hL] at HS
  have hk5 : ∀ s : Nat, s < 4294967296 → Hid ((#[.int .u8 ((s : Int) % 256), .int .u8 ((s : Int) / 256 % 256), .int .u8 ((s : Int) / 65536 % 256), .int .u8 ((s : Int) / 16777216)] : Array Value) = (bytesV (low 4 s)).toArray) := fun s hs => by
    refine Lib.hid ?_
    simp [low, List.range_succ, bytesV]
    omega
  have hsl := crc_lt (magicS ++ low 4 n)
  obtain ⟨h16, hh16⟩ : ∃ l, l = magicS ++ low 4 n ++ low 4 (crc (magicS ++ low 4 n)) := ⟨_, rfl⟩
  have hsp := Lib.hid (show superP n = h16 ++ zs 496 by rw [hh16]; rfl)
  have hL16 : h16.length = 16 := by rw [hh16, List.length_append, hL, low_len]
  have hh := Lib.hid hh16
  clear hh16
  generalize crc (magicS ++ low 4 n) = s at *
  generalize magicS ++ low 4 n = l12 at *
  go_wp2_with (first | (refine HS.mono ?_; clear HS; rintro e w5 ⟨rfl, rfl⟩) | (at_builtin; refine wpList_append_bytes byT w4 rfl _ _ rfl _ w3.heap.size _ l12 (low 4 s) 4 (hk5 s hsl).out rfl (by rfl) (by rw [hL]; exact ho4) (by rfl) (by rw [low_len, hL]; decide) hg4.size ?_; intro v5 w5 ho5 hg5 hat5))
  have hb5 := hb4.grown hg5 hb4.size (fun k hk => by cases hk; have := own_lt ho4 (g := g4) rfl; have := hb3.size; show w.heap.size ≤ g4; omega)
  obtain ⟨B5, hB5⟩ : ∃ b, b = w3.heap.size := ⟨_, rfl⟩
  rw [← hB5] at ho5
  have hB5' : w.heap.size ≤ B5 := by rw [hB5]; exact hb3.size
  have ho5' := Lib.hid (show w5.ownsRow B5 5 1 v5 (h16 ++ zs 0).length (bytesV (h16 ++ zs 0)) by rw [hh.out, show l12 ++ low 4 s ++ zs 0 = l12 ++ low 4 s by simp [zs]]; exact ho5)
  have hsz5 := hg5.size
  have hB5s : B5 ≤ w5.heap.size := by rw [hB5]; have := hg4.size; omega
  clear ho5 hat5 hg5 hg4 ho4 hs4
  go_loopw [6] (fun b wr => ∃ k : Nat, k ≤ 496 ∧ B5 ≤ wr.heap.size ∧ Hid (wr.ownsRow B5 5 1 b (h16 ++ zs k).length (bytesV (h16 ++ zs k)) ∧ Below w.heap.size w wr)) (fun b _ => 512 - lenV b)
  case atStart => exact ⟨0, by omega, hB5s, Lib.hid ⟨ho5'.out, hb5⟩⟩
  case round =>
    obtain ⟨k, hk, hBr, hH⟩ := hrel
    obtain ⟨hown, hbl⟩ := hH.out
    have hlk : (h16 ++ zs k).length = 16 + k := by rw [List.length_append, hL16, zs_len]
    rw [hlk] at hown
    obtain ⟨gr, cr, rfl⟩ := own_form hown (by omega)
    by_cases c : k < 496
    · have hci : (16 + (k : Int)) < 512 := by omega
      have hzs := Lib.hid (show (h16 ++ zs k) ++ [0] = h16 ++ zs (k + 1) by rw [List.append_assoc, show zs k ++ [0] = zs (k + 1) from (List.replicate_succ' (n := k) (a := (0 : UInt8))).symm])
      have hbb := Lib.hid (fun V (hg : wr.grownBy V (some gr)) => hbl.grown hg hbl.size (fun j hj => by cases hj; have := own_lt hown (g := gr) rfl; show w.heap.size ≤ gr; omega))
      go_wp2_with (at_builtin; refine wpList_append_bytes byT wr rfl _ _ rfl _ B5 _ (h16 ++ zs k) [0] 1 rfl rfl (by rfl) (by rw [hlk]; exact hown) (by rfl) (by rw [hlk]; simp; omega) hBr ?_; intro v6 w6 ho6 hg6 hat6)
      go_roundw
      case rel => exact ⟨k + 1, by omega, Nat.le_trans hBr hg6.size, Lib.hid ⟨by rw [← hzs.out]; exact ho6, hbb.out _ hg6⟩⟩
      case measure =>
        have := ho6.1
        obtain ⟨g6, c6, rfl⟩ := own_form ho6 (by simp; omega)
        simp [lenV, zs_len, hL16]; omega
    · obtain rfl : k = 496 := by omega
      have hfin := Lib.hid (show wr.ownsRow w.heap.size 5 1 (.slice (some ⟨gr, 0, none⟩) 512 cr) 512 (bytesV (superP n)) by rw [hsp.out]; exact Go.Joins.ownsRow_le hown hB5')
      have hbf := Lib.hid hbl
      clear hown hbl hH
      go_wp2_with fail
      go_ret2
      exact ⟨_, rfl, hfin.out, hbf.out⟩
theorem refSuper_bad (n : Nat) (w : World) (h : n < 128 ∨ 16384 < n) : Calls Tryz.prog 18 #[.int .i64 n] w fun e w' => (∃ v, e = .returned (.tuple #[v, .int .i64 70])) ∧ Below w.heap.size w w' := by
  have HO := refGeo_bad n w h
  unfold geo0 at HO
  go_enter Tryz.func18, Tryz.ntmps18
  go_wp2_with fail
  refine HO.mono ?_
  clear HO
  rintro e w1 ⟨rfl, hb1⟩
  have hb2 := hb1.alloc hb1.size (.cells geoC0 40)
  go_wp2_with fail
  go_ret2
  exact ⟨⟨_, rfl⟩, hb2⟩
end Ck
end Go.Proofs.YtegplehbcdeeoaaGreatDoor
/- The reference reads a super block. -/
namespace Go.Proofs.YtegplehbcdeeoaaGreatDoor
open Go.RowKit

namespace Ck
open Pk Pw
theorem conv_seen {w : World} {g o cap : Nat} {l : B} {n : Nat} (hn : n = l.length) (hs : SeenAt w g o l) : (convert 24 9 (.slice (some ⟨g, o, none⟩) n cap)).run Tryz.prog w = .ok (.string (mk l)) w := by
  subst hn
  refine run_convert_bytes_back w 24 9 5 ⟨g, o, none⟩ cap l Tryz.underlying24 Tryz.underlying5 Tryz.underlying9 fun j hj => ?_
  rw [addr_plain]
  exact hs j _ (List.getElem?_eq_getElem hj)
theorem mk_inj {a b : B} : mk a = mk b ↔ a = b := ⟨fun h => by rw [← bs_mk a, ← bs_mk b, h], fun h => by rw [h]⟩
theorem text_eq (a b : B) : ((mk a).toList == (mk b).toList) = decide (a = b) := by
  rw [toList_bs, toList_bs, bs_mk, bs_mk]
  by_cases h : a = b <;> simp [h]
def RefRead (l : B) (w : World) (e : Ending) (w' : World) : Prop :=
  Below w.heap.size w w' ∧ ((∃ n : Nat, 128 ≤ n ∧ n ≤ 16384 ∧ l = superP n ∧ e = .returned (.tuple #[.int .i64 n, .int .i64 0])) ∨ ((∀ n : Nat, 128 ≤ n → n ≤ 16384 → l ≠ superP n) ∧ e = .returned (.tuple #[.int .i64 0, .int .i64 71])))
theorem super_at (n : Nat) (h : n ≤ 16384) : (superP n)[8]? = some (UInt8.ofNat (n % 256)) ∧ (superP n)[9]? = some (UInt8.ofNat (n / 256 % 256)) := by
  unfold superP
  rw [low4 n (by omega)]
  exact ⟨rfl, rfl⟩
set_option maxRecDepth 100000 in
set_option maxHeartbeats 1000000 in
theorem refRead_any (l : B) (hl : l.length = 512) (g o cap : Nat) (w : World) (hs : SeenAt w g o l) (hg : g < w.heap.size) : Calls Tryz.prog 38 #[.slice (some ⟨g, o, none⟩) 512 cap] w (RefRead l w) := by
  obtain ⟨c8, h8⟩ : ∃ c, l[8]? = some c := ⟨_, List.getElem?_eq_getElem (by omega)⟩
  obtain ⟨c9, h9⟩ : ∃ c, l[9]? = some c := ⟨_, List.getElem?_eq_getElem (by omega)⟩
  have z8 := hs 8 c8 h8
  have z9 := hs 9 c9 h9
  obtain ⟨n, hn⟩ : ∃ n : Nat, n = c8.toNat + 256 * c9.toNat := ⟨_, rfl⟩
  have hb8 := c8.toNat_lt
  have hb9 := c9.toNat_lt
  have hne : Hid (∀ m : Nat, 128 ≤ m → m ≤ 16384 → l = superP m → m = n) := Lib.hid (fun m h1 h2 e => by
    obtain ⟨k8, k9⟩ := super_at m h2
    rw [← e, h8] at k8
    rw [← e, h9] at k9
    cases k8; cases k9
    simp at hn
    omega)
  have hsum : Hid ((c8.toNat : Int) + 256 * (c9.toNat : Int) = (n : Int)) := Lib.hid (by omega)
  by_cases hr : 128 ≤ n ∧ n ≤ 16384
  · have HS := fun W => refSuper_good n W hr.1 hr.2
    obtain ⟨h1, h2⟩ := hr
    have hsp := super_len n
    have hnn := Lib.hid (And.intro h1 h2)
    generalize hSP : superP n = S at *
    replace hSP := Lib.hid hSP
    have hcv : ∀ W, Below w.heap.size w W → Hid ((convert 24 9 (.slice (some ⟨g, o, none⟩) 512 cap)).run Tryz.prog W = .ok (.string (mk l)) W) := fun W hb => Lib.hid (conv_seen hl.symm (hs.below hg hb))
    have hsA : (c8.toNat : Int) + 256 * (c9.toNat : Int) = (n : Int) := hsum.out
    have hsB : Hid ((c8.toNat : Int) + (c9.toNat : Int) * 256 = (n : Int)) := Lib.hid (by rw [Int.mul_comm (c9.toNat : Int)]; exact hsA)
    clear hsA
    have hdr := Lib.hid ((Below.refl w.heap.size w).drew)
    have hbad := Lib.hid (fun (h : S ≠ l) m (a1 : 128 ≤ m) (a2 : m ≤ 16384) (e : l = superP m) => h (by rw [← hSP.out, e, hne.out m a1 a2 e]))
    clear hs hn hne h8 h9 h1 h2
    go_enter Tryz.func38, Tryz.ntmps38
    go_wp2_with fail
    go_region
    go_wp2_with fail
    first | rw [hsum.out] | rw [hsB.out]
    refine (HS _).mono ?_
    rintro e w2 ⟨v, rfl, hown, hb2⟩
    obtain ⟨g2, cap2, rfl⟩ := own_form hown (by omega)
    have hbl := Lib.hid (hdr.out.trans (hb2.mono (by exact Nat.le_refl _)))
    have hc1 := (hcv w2 hbl.out).out
    have hc2 := conv_seen (cap := cap2) hsp.symm (SeenAt.of_own hown)
    have hq := text_eq S l
    clear hown hb2
    by_cases hE : S = l
    · rw [decide_eq_true hE] at hq
      go_wp2_with fail
      go_ret2
      exact ⟨hbl.out, .inl ⟨n, hnn.out.1, hnn.out.2, by rw [hSP.out, hE], rfl⟩⟩
    · rw [decide_eq_false hE] at hq
      go_wp2_with fail
      go_ret2
      exact ⟨hbl.out, .inr ⟨hbad.out hE, rfl⟩⟩
  · have HS := fun W => refSuper_bad n W (by omega)
    have hsA : (c8.toNat : Int) + 256 * (c9.toNat : Int) = (n : Int) := hsum.out
    have hsB : Hid ((c8.toNat : Int) + (c9.toNat : Int) * 256 = (n : Int)) := Lib.hid (by rw [Int.mul_comm (c9.toNat : Int)]; exact hsA)
    clear hsA
    have hdr := Lib.hid ((Below.refl w.heap.size w).drew)
    clear hs
    go_enter Tryz.func38, Tryz.ntmps38
    go_wp2_with fail
    go_region
    go_wp2_with fail
    first | rw [hsum.out] | rw [hsB.out]
    refine (HS _).mono ?_
    rintro e w2 ⟨⟨v, rfl⟩, hb2⟩
    have hbl := Lib.hid (hdr.out.trans (hb2.mono (by exact Nat.le_refl _)))
    go_wp2_with fail
    go_ret2
    exact ⟨hbl.out, .inr ⟨fun m h1 h2 e => hr ((hne.out m h1 h2 e) ▸ ⟨h1, h2⟩), rfl⟩⟩
end Ck
end Go.Proofs.YtegplehbcdeeoaaGreatDoor
