/- What is reached, level by level: plain. -/
import Derived.Test.YtegplehbcdeeoaaGreatDoorChkB20
import Derived.WideKeyEntry
namespace Go.Proofs.YtegplehbcdeeoaaGreatDoor
open Go.RowKit Go.Maps

namespace Ck
open Pk Pw
def seeS (s : St) (i : Nat) : St := { s with seen := fun j => if j = i then some 1 else s.seen j }
def depS (s : St) (i v : Nat) : St := { s with depth := fun j => if j = i then some v else s.depth j }
/-- A cell of a directory that is reached. -/
def reachC (dd : Nat) (p : St × List Nat) (c : Cl) : St × List Nat :=
  match p.1.nodes c.2 with
  | none => p
  | some x => if 0 < (p.1.seen c.2).getD 0 then p
    else if x.kind = 2 then (depS (seeS p.1 c.2) c.2 ((p.1.depth dd).getD 0 + 1), p.2 ++ [c.2]) else (seeS p.1 c.2, p.2)
def reachD (p : St × List Nat) (dd : Nat) : St × List Nat := if 32 ≤ (p.1.depth dd).getD 0 then p else (p.1.cells dd).foldl (reachC dd) p
def reachL (s : St) (lv : List Nat) : St × List Nat := lv.foldl reachD (s, [])
def reachGo : Nat → St → List Nat → St
  | 0, s, _ => s
  | f + 1, s, lv => if lv = [] then s else reachGo f (reachL s lv).1 (reachL s lv).2
def reachS (s : St) : St := if isDirS s 1 then reachGo 34 (depS (seeS s 1) 1 0) [1] else s
/-- How many of the first are not reached. -/
def unseenTo (s : St) (n : Nat) : Nat := ((List.range n).filter fun i => decide ((s.seen i).getD 0 = 0)).length
theorem unseenTo_succ (s : St) (n : Nat) : unseenTo s (n + 1) = unseenTo s n + (if (s.seen n).getD 0 = 0 then 1 else 0) := by
  unfold unseenTo
  rw [List.range_succ, List.filter_append, List.length_append]
  congr 1
  by_cases h : (s.seen n).getD 0 = 0 <;> simp [h]
theorem unseenTo_le (s : St) (n : Nat) : unseenTo s n ≤ n := by
  unfold unseenTo
  exact Nat.le_trans (List.length_filter_le _ _) (by simp)
theorem unseenTo_far (s : St) (i : Nat) : ∀ n, n ≤ i → unseenTo (seeS s i) n = unseenTo s n
  | 0, _ => rfl
  | n + 1, h => by
    rw [unseenTo_succ, unseenTo_succ, unseenTo_far s i n (by omega)]
    have : (seeS s i).seen n = s.seen n := by unfold seeS; dsimp only; rw [if_neg (by omega)]
    rw [this]
theorem unseenTo_put (s : St) (i : Nat) (h0 : (s.seen i).getD 0 = 0) : ∀ n, i < n → unseenTo (seeS s i) n + 1 = unseenTo s n
  | 0, h => by omega
  | n + 1, h => by
    rw [unseenTo_succ, unseenTo_succ]
    by_cases e : n = i
    · subst e
      rw [unseenTo_far s n n (Nat.le_refl _), if_pos h0]
      have : (seeS s n).seen n = some 1 := by unfold seeS; dsimp only; rw [if_pos rfl]
      rw [this]
      simp
    · have : (seeS s i).seen n = s.seen n := by unfold seeS; dsimp only; rw [if_neg e]
      rw [this]
      have := unseenTo_put s i h0 n (by omega)
      omega
def unseen (s : St) : Nat := unseenTo s 2048
theorem unseen_dep (s : St) (i v : Nat) : unseen (depS s i v) = unseen s := rfl
/-- What every step keeps. -/
structure RI (s : St) : Prop where
  lt : ∀ i x, s.nodes i = some x → i < 2048
  ds : ∀ j v, s.depth j = some v → 0 < (s.seen j).getD 0
structure Lp (s0 : St) (lv : List Nat) (k : Nat) (p : St × List Nat) : Prop where
  nodes : p.1.nodes = s0.nodes
  cells : p.1.cells = s0.cells
  names : p.1.names = s0.names
  found : p.1.found = s0.found
  ri : RI p.1
  old : ∀ d ∈ lv, p.1.depth d = some k ∧ d < 2048
  new : ∀ d ∈ p.2, p.1.depth d = some (k + 1) ∧ d < 2048
  len : p.2.length + unseen p.1 ≤ 2048
  last : 32 ≤ k → p.2 = []
theorem RI.see {s : St} (h : RI s) (i : Nat) : RI (seeS s i) := ⟨h.lt, fun j v hj => by
  have := h.ds j v hj
  unfold seeS
  dsimp only
  split
  · decide
  · exact this⟩
theorem RI.dep {s : St} (h : RI s) (i v : Nat) (h1 : 0 < (s.seen i).getD 0) : RI (depS s i v) := ⟨h.lt, fun j w hj => by
  unfold depS at hj
  dsimp only at hj
  by_cases e : j = i
  · subst e; exact h1
  · rw [if_neg e] at hj; exact h.ds j w hj⟩
theorem see_self (s : St) (i : Nat) : 0 < ((seeS s i).seen i).getD 0 := by unfold seeS; dsimp only; rw [if_pos rfl]; decide
theorem Lp.step {s0 : St} {lv : List Nat} {k : Nat} {p : St × List Nat} (h : Lp s0 lv k p) (dd : Nat) (hd : dd ∈ lv) (hk : k < 32) (c : Cl) : Lp s0 lv k (reachC dd p c) := by
  unfold reachC
  split
  · exact h
  · rename_i x hx
    split
    · exact h
    · rename_i hs
      have h0 : (p.1.seen c.2).getD 0 = 0 := by omega
      have hc := h.ri.lt _ _ hx
      have hu := unseenTo_put p.1 c.2 h0 2048 hc
      have hdn : p.1.depth c.2 = none := by
        cases e : p.1.depth c.2 with
        | none => rfl
        | some v => have := h.ri.ds _ _ e; omega
      split
      · have hdd := (h.old dd hd).1
        have hne : ∀ d v, p.1.depth d = some v → (depS (seeS p.1 c.2) c.2 ((p.1.depth dd).getD 0 + 1)).depth d = some v := fun d v e => by
          unfold depS seeS
          dsimp only
          rw [if_neg (fun e2 => by rw [e2, hdn] at e; cases e)]
          exact e
        refine ⟨h.nodes, h.cells, h.names, h.found, (h.ri.see c.2).dep _ _ (see_self _ _), fun d hm => ⟨hne _ _ (h.old d hm).1, (h.old d hm).2⟩, fun d hm => ?_, ?_, fun hk2 => by omega⟩
        · rcases List.mem_append.1 hm with hm | hm
          · exact ⟨hne _ _ (h.new d hm).1, (h.new d hm).2⟩
          · simp at hm
            subst hm
            refine ⟨?_, hc⟩
            unfold depS
            dsimp only
            rw [if_pos rfl, hdd]
            rfl
        · have hl := h.len
          unfold unseen at hl ⊢
          show (p.2 ++ [c.2]).length + unseenTo (seeS p.1 c.2) 2048 ≤ 2048
          rw [List.length_append]
          simp
          omega
      · refine ⟨h.nodes, h.cells, h.names, h.found, h.ri.see c.2, h.old, h.new, ?_, h.last⟩
        have hl := h.len
        unfold unseen at hl ⊢
        show p.2.length + unseenTo (seeS p.1 c.2) 2048 ≤ 2048
        omega
theorem Lp.cellsTo {s0 : St} {lv : List Nat} {k : Nat} (dd : Nat) (hd : dd ∈ lv) (hk : k < 32) : ∀ (l : List Cl) (p : St × List Nat), Lp s0 lv k p → Lp s0 lv k (l.foldl (reachC dd) p)
  | [], _, h => h
  | c :: l, _, h => Lp.cellsTo dd hd hk l _ (h.step dd hd hk c)
theorem Lp.dir {s0 : St} {lv : List Nat} {k : Nat} {p : St × List Nat} (h : Lp s0 lv k p) (dd : Nat) (hd : dd ∈ lv) : Lp s0 lv k (reachD p dd) := by
  unfold reachD
  split
  · exact h
  · rename_i hk
    rw [(h.old dd hd).1] at hk
    simp at hk
    exact Lp.cellsTo dd hd hk _ _ h
theorem Lp.dirs {s0 : St} {lv : List Nat} {k : Nat} : ∀ (l : List Nat) (p : St × List Nat), (∀ d ∈ l, d ∈ lv) → Lp s0 lv k p → Lp s0 lv k (l.foldl reachD p)
  | [], _, _, h => h
  | d :: l, _, hl, h => Lp.dirs l _ (fun x hx => hl x (by simp [hx])) (h.dir d (hl d (by simp)))
theorem cells_take (dd : Nat) (l : List Cl) (p : St × List Nat) (j : Nat) (e : Cl) (h : l[j]? = some e) : (l.take (j + 1)).foldl (reachC dd) p = reachC dd ((l.take j).foldl (reachC dd) p) e := by
  rw [List.take_add_one, h, List.foldl_append]
  rfl
theorem dirs_take (l : List Nat) (p : St × List Nat) (j : Nat) (e : Nat) (h : l[j]? = some e) : (l.take (j + 1)).foldl reachD p = reachD ((l.take j).foldl reachD p) e := by
  rw [List.take_add_one, h, List.foldl_append]
  rfl
end Ck
end Go.Proofs.YtegplehbcdeeoaaGreatDoor
/- A map's entry, found or laid, and then stored into: as one update. -/
namespace Go.Proofs.YtegplehbcdeeoaaGreatDoor
open Go.RowKit Go.Maps

namespace Ck
open Fs
section
variable {P : Program} {w : World} {t k e : TypeId} {b : Nat} {es : Array MapEntry} {clock : Nat}
open Go.WideElems Go.ChangeMaps in
/-- An entry is met, whatever the kind of its key. -/
theorem entry_met {H : Type} {R : Value → Option (DataW H × List MemPlace)} (K : Keyed P k) (ht : P.underlying t = some (.map k e)) {z : Value} (hz : ∀ u : World, (zeroValue e).run P u = .ok z u) (hb : w.heap[b]? = some (.map es clock)) (F : Fit P k R es clock)
    {key : Value} {kl : Lit} (hkey : keyOf P k key = some kl) (val : Value) :
    ∃ (v0 : Value) (st : Nat) (w1 w2 : World), (Instr.mapEntry t (.map (some b)) key).run P w = .ok (.tuple #[v0, goInt st]) w1 ∧ (Instr.entryStore t (.map (some b)) (goInt st) val).run P w1 = .ok () w2 ∧ (Instr.mapUpdate t (.map (some b)) key val).run P w = .ok () w2 ∧
      ∀ x, x ≠ b → w1.heap[x]? = w.heap[x]? := by
  have hlt : b < w.heap.size := (Array.getElem?_eq_some_iff.1 hb).1
  have hset : ∀ o o', setBlock (setBlock w b o) b o' = setBlock w b o' := fun o o' => by unfold setBlock; simp
  obtain ⟨s1, s2, _⟩ := F.stamped
  rcases K.find w hkey es.toList F.keys with ⟨h1, h2⟩ | ⟨j, e0, h1, h2, h3⟩
  · have hw2 : (setBlock w b (.map (es.push ⟨key, z, clock⟩) (clock + 1))).heap[b]? = some (.map (es.push ⟨key, z, clock⟩) (clock + 1)) := heap_setBlock_same hb _
    refine ⟨z, clock, setBlock w b (.map (es.push ⟨key, z, clock⟩) (clock + 1)), setBlock w b (.map (es.push ⟨key, val, clock⟩) (clock + 1)), ?_, ?_, ?_, fun x hx => heap_setBlock_other hb _ hx⟩
    · simp [Instr.mapEntry, run_underlying ht, MapKept.run_getObj_map hb, K.check w false hkey, h1, hz, MapKept.run_setObj_map _ hb, Result.andThen, setBlock]
    · have hidx : (es.push ⟨key, z, clock⟩).findIdx? (fun e => ((e.born : Nat) : Int) == ((clock : Nat) : Int)) = some es.size := by
        rw [findIdx_arr]
        have := findIdx_born (l := (es.push ⟨key, z, clock⟩).toList) (j := es.size) (e0 := ⟨key, z, clock⟩) (by
          simp only [Array.toList_push, List.map_append, List.map_cons, List.map_nil]
          refine List.nodup_append.2 ⟨s2, by simp, fun a ha c hc e1 => ?_⟩
          simp only [List.mem_singleton] at hc
          obtain ⟨x, hx, rfl⟩ := List.mem_map.1 ha
          have := s1 x hx
          omega) (by simp)
        exact this
      have hmod : (es.push ⟨key, z, clock⟩).modify es.size (fun e => { e with val := val }) = es.push ⟨key, val, clock⟩ := by
        apply Array.ext'
        rw [Array.toList_modify, Array.toList_push, Array.toList_push, ← Array.length_toList, modify_last]
      have hx : ∀ wx : World, wx.heap[b]? = some (.map (es.push ⟨key, z, clock⟩) (clock + 1)) → (Instr.entryStore t (.map (some b)) (goInt (clock : Nat)) val).run P wx = .ok () (setBlock wx b (.map (es.push ⟨key, val, clock⟩) (clock + 1))) := fun wx hwx => by
        simp [Instr.entryStore, MapKept.run_getObj_map hwx, asInt, asIntOf, goInt, hidx, hmod, MapKept.run_setObj_map _ hwx, Result.andThen, setBlock]
      have := hx _ hw2
      rw [hset] at this
      exact this
    · simp [Instr.mapUpdate, run_underlying ht, MapKept.run_getObj_map hb, K.check w false hkey, h1, MapKept.run_setObj_map _ hb, Result.andThen, setBlock]
  · have hj : es[j]? = some e0 := by simpa using h2
    have hsame : es.modify j (fun e => { e with key := key }) = es := by
      apply Array.ext'
      rw [Array.toList_modify, modify_eq_set _ _ _ _ h2]
      have : ({ e0 with key := key } : MapEntry) = e0 := by rw [← h3]
      rw [this]
      exact set_self _ _ _ h2
    have hw2 : (setBlock w b (.map es clock)).heap[b]? = some (.map es clock) := heap_setBlock_same hb _
    refine ⟨e0.val, e0.born, setBlock w b (.map es clock), setBlock w b (.map (es.modify j (fun e' => { e' with key := key, val := val })) clock), ?_, ?_, ?_, fun x hx => heap_setBlock_other hb _ hx⟩
    · simp [Instr.mapEntry, run_underlying ht, MapKept.run_getObj_map hb, K.check w false hkey, h1, hj, h3, K.stays w hkey, hsame, MapKept.run_setObj_map _ hb, Result.andThen, setBlock]
    · have hidx : es.findIdx? (fun e => ((e.born : Nat) : Int) == ((e0.born : Nat) : Int)) = some j := by
        rw [findIdx_arr]
        exact findIdx_born s2 h2
      have hmod : es.modify j (fun e => { e with val := val }) = es.modify j (fun e' => { e' with key := key, val := val }) := by
        apply Array.ext'
        rw [Array.toList_modify, Array.toList_modify, modify_eq_set _ _ _ _ h2, modify_eq_set _ _ _ _ h2, ← h3]
      have hx : ∀ wx : World, wx.heap[b]? = some (.map es clock) → (Instr.entryStore t (.map (some b)) (goInt (e0.born : Nat)) val).run P wx = .ok () (setBlock wx b (.map (es.modify j (fun e' => { e' with key := key, val := val })) clock)) := fun wx hwx => by
        simp [Instr.entryStore, MapKept.run_getObj_map hwx, asInt, asIntOf, goInt, hidx, hmod, MapKept.run_setObj_map _ hwx, Result.andThen, setBlock]
      have := hx _ hw2
      rw [hset] at this
      exact this
    · simp [Instr.mapUpdate, run_underlying ht, MapKept.run_getObj_map hb, K.check w false hkey, h1, hj, h3, K.stays w hkey, MapKept.run_setObj_map _ hb, Result.andThen, setBlock]
end
section
variable {κ κ' ν : Type} [DecidableEq κ'] [Key κ'] {P : Program} {W : World} {b : Nat} {t k e : TypeId} {ev : ν → Value} {en : κ → κ'} {V : κ → Prop} {N : Nat} {f : κ → Option ν}
theorem MapF.entry [DecidableEq κ] (h : MapF P k ev en V W b N f) (K : Keyed P k) (ht : P.underlying t = some (.map k e)) {z : Value} (hz : ∀ u : World, (zeroValue e).run P u = .ok z u) (hm : N < maxLen) {key val : Value} {x : κ} (hkey : keyOf P k key = some (Key.lit (en x))) (hinj : ∀ y, V y → en y = en x → y = x) {v : ν} (hv : val = ev v) :
    ∃ v0 st w1 w2, (Instr.mapEntry t (.map (some b)) key).run P W = .ok (.tuple #[v0, goInt st]) w1 ∧ (Instr.entryStore t (.map (some b)) (goInt st) val).run P w1 = .ok () w2 ∧ (∀ x, x ≠ b → w1.heap[x]? = W.heap[x]?) ∧ MapF P k ev en V w2 b (N + 1) (fun y => if y = x then some v else f y) ∧ W.grownBy w2 (some b) := by
  obtain ⟨w', u1, u2, u3⟩ := h.update K ht hm hkey hinj hv
  obtain ⟨m, ⟨⟨es, clock, hb, F, _⟩, _⟩, _⟩ := h
  obtain ⟨v0, st, w1, w2, e1, e2, e3, e4⟩ := entry_met K ht hz hb F hkey val
  rw [u1] at e3
  cases e3
  exact ⟨v0, st, w1, w', e1, e2, e4, u2, u3⟩
end
end Ck
end Go.Proofs.YtegplehbcdeeoaaGreatDoor
/- A directory's cell is noted: what stands ready for the walk. -/
namespace Go.Proofs.YtegplehbcdeeoaaGreatDoor
open Go.RowKit Go.Maps

namespace Ck
open Pk Pw
section
variable {W X : World} {A : Adr} {G : Gh} {s : St} {N : Nat}
theorem row_own (h : Sim N W A G s) (k : Nat) : W.ownsRow A.base 118 2 ((G.row k).getD (.slice none 0 0)) (s.cells k).length (clsV (s.cells k)) := by
  cases hr : G.row k with
  | none => rw [h.rowN k hr]; exact World.ownsRow_nil _ _ _ _
  | some v => exact h.rows k v hr (by simp)
/-- What the inodes' map answers, written out in numbers. -/
theorem look_int (hno : NodesOk s) (i : Nat) : ∃ m1 m2 m3 m4 m5 m6 m7 m8 m9 m10 m11 m12 m13 m14 : Nat, ((s.nodes i).map fun x => Value.agg (recC x)).getD (Value.agg (Array.replicate 15 (.int .i64 0))) = Value.agg #[.int .i64 (((s.nodes i).map (·.kind)).getD 0 : Nat), .int .i64 (m1 : Nat), .int .i64 (m2 : Nat), .int .i64 (m3 : Nat), .int .i64 (m4 : Nat), .int .i64 (m5 : Nat), .int .i64 (m6 : Nat), .int .i64 (m7 : Nat), .int .i64 (m8 : Nat), .int .i64 (m9 : Nat), .int .i64 (m10 : Nat), .int .i64 (m11 : Nat), .int .i64 (m12 : Nat), .int .i64 (m13 : Nat), .int .i64 (m14 : Nat)] := by
  cases h : s.nodes i with
  | none => exact ⟨0, 0, 0, 0, 0, 0, 0, 0, 0, 0, 0, 0, 0, 0, rfl⟩
  | some x =>
    obtain ⟨k, l, sz, d, o, t⟩ := x
    have hd := (hno i _ h).dir
    dsimp only at hd
    match d, hd with
    | [d0, d1, d2, d3, d4, d5, d6, d7, d8, d9], _ => exact ⟨_, _, _, _, _, _, _, _, _, _, _, _, _, _, rfl⟩
theorem note_ready (h : Sim N X A G s) (hN : N ≤ 1000000000000) {nd : Nat} (hv : vI nd) : ∃ ao cap, (((G.row nd).map fun v => v).getD (.slice none 0 0)) = .slice ao (s.cells nd).length cap ∧ X.ownsRow A.base 118 2 (.slice ao (s.cells nd).length cap) (s.cells nd).length (clsV (s.cells nd)) ∧
    ∀ c v2 X2, X2.ownsRow A.base 118 2 v2 ((s.cells nd).length + 1) (clsV (s.cells nd) ++ clV c) → X.grownBy X2 (Value.slice ao (s.cells nd).length cap).ownBlock → (v2.ownBlock = (Value.slice ao (s.cells nd).length cap).ownBlock ∨ v2.ownBlock = some X.heap.size) →
      ∃ X3, (Instr.mapUpdate 68 (.map (some A.cells)) (.int .i64 nd) v2).run Tryz.prog X2 = .ok () X3 ∧ (∃ G', Sim (N + 1) X3 A G' { s with cells := fun j => if j = nd then s.cells nd ++ [c] else s.cells j } ∧ Stp X G X3 G') ∧ X2.heap.size ≤ X3.heap.size ∧
        (∀ b, b < X.heap.size → G.who b = .other ∨ G.who b = .chk → X2.heap[b]? = X.heap[b]? ∧ X3.heap[b]? = X.heap[b]?) := by
  have ho := row_own h nd
  have hid : (((G.row nd).map fun v => v).getD (.slice none 0 0)) = (G.row nd).getD (.slice none 0 0) := by cases G.row nd <;> rfl
  rw [hid]
  have hw : ∀ b, ((G.row nd).getD (.slice none 0 0)).ownBlock = some b → G.who b = .row nd := fun b e => by
    cases hr : G.row nd with
    | none => rw [hr] at e; cases e
    | some v => rw [hr] at e; exact h.wRow nd v b hr e
  have hA : A.cells < X.heap.size := (h.low _ (by rw [h.wCells]; decide)).2
  obtain ⟨ao, cap, hs⟩ := own_slice_of ho
  refine ⟨ao, cap, hs, by rw [← hs]; exact ho, ?_⟩
  intro c v2 X2 a1 a2 a3
  rw [← hs] at a2 a3
  have hne : ∀ b, b < X.heap.size → G.who b ≠ .row nd → X2.heap[b]? = X.heap[b]? := fun b hb e => a2.block b hb (fun e2 => e (hw b e2.symm))
  have hm2 := (h.cells (by decide)).same (hne A.cells hA (by rw [h.wCells]; simp))
  obtain ⟨X3, u1, u2, u3⟩ := hm2.update Fs.kI (t := 68) Tryz.underlying68 (by unfold maxLen; omega) (kyI hv) (injI hv) (v := v2) (val := v2) rfl
  refine ⟨X3, u1, h.noted hv a1 a2 a3 u2 u3, u3.size, fun b hb e => ?_⟩
  have e1 : X2.heap[b]? = X.heap[b]? := hne b hb (by rcases e with e | e <;> rw [e] <;> simp)
  exact ⟨e1, (u3.block b (Nat.lt_of_lt_of_le hb a2.size) (fun x => by cases x; rcases e with e | e <;> rw [h.wCells] at e <;> cases e)).trans e1⟩
end
end Ck
end Go.Proofs.YtegplehbcdeeoaaGreatDoor
