/- A file system in memory: what each of its blocks is; how that is kept. -/
import Derived.Test.YtlnnbjgfpiefdaaGreatChecked
import Derived.Test.YtlnnbjgfpiefdaaGreatRamB02
import Derived.OneCell
import Derived.WalkKit
import Derived.Lib.Hide
import Derived.Deep.DeepMust
namespace Go.Proofs.YtlnnbjgfpiefdaaGreat
open Go.RowKit Go.Maps

namespace Fs
/-- A block of cells. -/
def Blk (W : World) (b : Nat) (xs : Array Value) (t : TypeId) : Prop := W.heap[b]? = some (.cells xs t (0, 0))

theorem Blk.lt {W : World} {b : Nat} {xs : Array Value} {t : TypeId} (h : Blk W b xs t) : b < W.heap.size := lt_of_block h
theorem Blk.cell {W : World} {b : Nat} {xs : Array Value} {t : TypeId} (h : Blk W b xs t) (j : Nat) : W.cell? ⟨b, j, none⟩ = xs[j]? := by unfold Blk at h; simp [World.cell?, h]
theorem Blk.free {W : World} {b : Nat} {xs : Array Value} {t : TypeId} (h : Blk W b xs t) (j : Nat) : W.frozen? ⟨b, j, none⟩ = false := by unfold Blk at h; simp [World.frozen?, h]
theorem Blk.set {W : World} {b : Nat} {xs : Array Value} {t : TypeId} (h : Blk W b xs t) (j : Nat) (v : Value) : Blk (W.setCell ⟨b, j, none⟩ v) b (xs.setIfInBounds j v) t := by
  have hlt := h.lt
  unfold Blk at h ⊢
  have h' : W.heap[b] = .cells xs t (0, 0) := by simpa [Array.getElem?_eq_getElem hlt] using h
  show (W.heap.modify b _)[b]? = _
  rw [Array.getElem?_eq_getElem (by simpa using hlt), Array.getElem_modify_self, h']
  rfl
theorem Blk.same {W W' : World} {b : Nat} {xs : Array Value} {t : TypeId} (h : Blk W b xs t) (e : W'.heap[b]? = W.heap[b]?) : Blk W' b xs t := e.trans h
theorem Blk.new (W : World) (xs : Array Value) (t : TypeId) : Blk (W.alloc (.cells xs t (0, 0))) W.heap.size xs t := by unfold Blk World.alloc; simp

/-- A node's cells. -/
structure Hd where
  kind : Int
  links : Int
  size : Int
  pm : Option Nat
  nm : Option Nat
  blocks : Int
  text : Tx
def Hd.cells (h : Hd) : Array Value := #[.int .i64 h.kind, .int .i64 h.links, .int .i64 h.size, .map h.pm, .map h.nm, .int .i64 h.blocks, .string (Go.Proofs.YtlnnbjgfpiefdaaGreat.mk h.text)]

def evPc (p : Pc) : Value := .agg (p.map fun b => Value.int .u8 b.toNat).toArray
def evI (n : Int) : Value := .int .i64 n
def evP (b : Nat) : Value := .pointer (some ⟨b, 0, none⟩)

/-- What a block is. -/
inductive Ro
  | fs
  | nodes (m : Al Int Nat)
  | node (h : Hd)
  | pieces (m : Al Int Pc)
  | names (m : Al Tx Int)
  | box (t : TypeId) (v : Value)

def Is (W : World) (b : Nat) : Ro → Prop
  | .fs => True
  | .nodes m => W.ownsMap Tryz.prog 3 rawElem b m.length (toD evP m) ∧ Rising m
  | .node h => Blk W b h.cells 65
  | .pieces m => W.ownsMap Tryz.prog 3 rawElem b m.length (toD evPc m) ∧ Rising m
  | .names m => W.ownsMap Tryz.prog 9 rawElem b m.length (toD evI m) ∧ Rising m
  | .box t v => Blk W b v.cells t

theorem owns_same {H : Type} {W W' : World} {P : Program} {k : TypeId} {R : Value → Option (DataW H × List MemPlace)} {b n : Nat} {D : DataW H} (h : W.ownsMap P k R b n D) (e : W'.heap[b]? = W.heap[b]?) : W'.ownsMap P k R b n D := by
  obtain ⟨es, clock, hb, F, hs, hD⟩ := h
  exact ⟨es, clock, e.trans hb, F, hs, hD⟩
/-- The bound on a map's entries may be their number. -/
theorem owns_size {H : Type} {W : World} {P : Program} {k : TypeId} {R : Value → Option (DataW H × List MemPlace)} {b n : Nat} {D : DataW H} (h : W.ownsMap P k R b n D) : W.ownsMap P k R b (Maps.size D) D := by
  obtain ⟨es, clock, hb, F, hs, rfl⟩ := h
  exact ⟨es, clock, hb, F, by rw [Maps.size_eq, length_sorted]; simp, rfl⟩
theorem Is.same {W W' : World} {b : Nat} {r : Ro} (h : Is W b r) (e : W'.heap[b]? = W.heap[b]?) : Is W' b r := by
  cases r with
  | fs => trivial
  | nodes m => exact ⟨owns_same h.1 e, h.2⟩
  | node x => exact Blk.same h e
  | pieces m => exact ⟨owns_same h.1 e, h.2⟩
  | names m => exact ⟨owns_same h.1 e, h.2⟩
  | box t v => exact Blk.same h e

abbrev Lay := Nat → Option Ro
def upd (L : Lay) (b : Nat) (r : Ro) : Lay := fun x => if x = b then some r else L x
theorem upd_same (L : Lay) (b : Nat) (r : Ro) : upd L b r b = some r := by simp [upd]
theorem upd_other (L : Lay) {b x : Nat} (r : Ro) (h : x ≠ b) : upd L b r x = L x := by simp [upd, h]
theorem upd_upd (L : Lay) (b : Nat) (r s : Ro) : upd (upd L b r) b s = upd L b s := funext fun x => by unfold upd; split <;> rfl
theorem upd_self {L : Lay} {b : Nat} {r : Ro} (h : L b = some r) : upd L b r = L := by
  funext x
  unfold upd
  split
  · rename_i e; rw [e, h]
  · rfl
/-- The regions of a disk of n blocks, and two cells behind them. -/
def fsCells (n : Int) (nb : Nat) (uv : Value) : Array Value := #[.int .i64 n, .int .i64 98, .int .i64 (98 + (n + 4095) / 4096), .int .i64 (98 + (n + 4095) / 4096 + n / 64), .int .i64 (n / 64 * 8), .map (some nb), uv]

/-- A file system: its blocks; uv: the slice of what takes back, and what is in it. -/
structure Sim (W : World) (L : Lay) (fb : Nat) (n : Int) (nb : Nat) (uv : Value) (vals : List Value) : Prop where
  is : ∀ b r, L b = some r → b < W.heap.size ∧ Is W b r
  fs : L fb = some .fs
  blk : Blk W fb (fsCells n nb uv) 60
  nodes : ∃ m, L nb = some (.nodes m)
  own : W.ownsRow 0 1 1 uv vals.length vals
  sep : ∀ g, uv.ownBlock = some g → L g = none

/-- The blocks of a file system. -/
def Mine (L : Lay) (uv : Value) (b : Nat) : Prop := L b ≠ none ∨ uv.ownBlock = some b
/-- Nothing but a file system's blocks was written. -/
structure Step (W : World) (X : Nat → Prop) (W' : World) (X' : Nat → Prop) : Prop where
  os : W'.os = W.os
  tape : W'.tape = W.tape
  output : W'.output = W.output
  size : W.heap.size ≤ W'.heap.size
  block : ∀ k, k < W.heap.size → ¬ X k → W'.heap[k]? = W.heap[k]? ∧ ¬ X' k

theorem Step.refl (W : World) (X : Nat → Prop) : Step W X W X := ⟨rfl, rfl, rfl, Nat.le_refl _, fun _ _ h => ⟨rfl, h⟩⟩
theorem Step.trans {W W' W'' : World} {X X' X'' : Nat → Prop} (h : Step W X W' X') (k : Step W' X' W'' X'') : Step W X W'' X'' :=
  ⟨k.os.trans h.os, k.tape.trans h.tape, k.output.trans h.output, Nat.le_trans h.size k.size, fun b hb hx =>
    have h1 := h.block b hb hx
    have h2 := k.block b (Nat.lt_of_lt_of_le hb h.size) h1.2
    ⟨h2.1.trans h1.1, h2.2⟩⟩
/-- What leaves all old blocks alone. -/
theorem Step.of_below {W W' : World} {X : Nat → Prop} (h : Below W.heap.size W W') : Step W X W' X := ⟨h.os, h.tape, h.output, h.size, fun k hk hx => ⟨h.block k hk, hx⟩⟩
theorem Step.below {W W' : World} {X X' : Nat → Prop} {B : Nat} (h : Step W X W' X') (hB : B ≤ W.heap.size) (hx : ∀ k, k < B → ¬ X k) : Below B W W' :=
  ⟨h.os, h.tape, h.output, h.size, fun k hk => (h.block k (Nat.lt_of_lt_of_le hk hB) (hx k hk)).1⟩

theorem row_same {W W' : World} {base : Nat} {e : TypeId} {size : Nat} {v : Value} {n : Nat} {xs : List Value} (h : W.ownsRow base e size v n xs) (hg : ∀ g, v.ownBlock = some g → W'.heap[g]? = W.heap[g]?) : W'.ownsRow base e size v n xs := by
  obtain ⟨h1, h2⟩ := h
  refine ⟨h1, ?_⟩
  rcases h2 with h2 | ⟨g, cap, cur, hv, hg', hh, r⟩
  · exact .inl h2
  · exact .inr ⟨g, cap, cur, hv, hg', by rw [hg g (by rw [hv]; rfl)]; exact hh, r⟩

section
variable {W W' : World} {L : Lay} {fb : Nat} {n : Int} {nb : Nat} {uv : Value} {vals : List Value}
theorem Sim.none_of_ge (h : Sim W L fb n nb uv vals) {b : Nat} (hb : W.heap.size ≤ b) : L b = none := by
  cases e : L b with
  | none => rfl
  | some r => have := (h.is b r e).1; omega
theorem Sim.own_lt (h : Sim W L fb n nb uv vals) {g : Nat} (hg : uv.ownBlock = some g) : g < W.heap.size := (h.own.lt g hg).2
theorem Sim.not_mine (h : Sim W L fb n nb uv vals) {b : Nat} (hb : W.heap.size ≤ b) : ¬ Mine L uv b := by
  rintro (e | e)
  · exact e (h.none_of_ge hb)
  · have := h.own_lt e; omega
/-- A world in which all its blocks lie as they lay. -/
theorem Sim.same (h : Sim W L fb n nb uv vals) (hs : W.heap.size ≤ W'.heap.size) (hk : ∀ b, Mine L uv b → W'.heap[b]? = W.heap[b]?) : Sim W' L fb n nb uv vals where
  is b r hb := ⟨Nat.lt_of_lt_of_le (h.is b r hb).1 hs, (h.is b r hb).2.same (hk b (.inl (by rw [hb]; simp)))⟩
  fs := h.fs
  blk := h.blk.same (hk fb (.inl (by rw [h.fs]; simp)))
  nodes := h.nodes
  own := row_same h.own fun g hg => hk g (.inr hg)
  sep := h.sep
theorem Sim.mine_lt (h : Sim W L fb n nb uv vals) {b : Nat} (hb : Mine L uv b) : b < W.heap.size := by
  rcases hb with e | e
  · cases hr : L b with
    | none => exact absurd hr e
    | some r => exact (h.is b r hr).1
  · exact h.own_lt e
theorem Sim.below (h : Sim W L fb n nb uv vals) (hb : Below W.heap.size W W') : Sim W' L fb n nb uv vals := h.same hb.size fun b hm => hb.block b (h.mine_lt hm)
theorem Sim.alloc (h : Sim W L fb n nb uv vals) (o : Obj) : Sim (W.alloc o) L fb n nb uv vals := h.below ((Below.refl _ _).alloc (Nat.le_refl _) o)
/-- Another's blocks were written. -/
theorem Sim.apart (h : Sim W L fb n nb uv vals) {X X' : Nat → Prop} (hst : Step W X W' X') (hx : ∀ b, Mine L uv b → ¬ X b) : Sim W' L fb n nb uv vals :=
  h.same hst.size fun b hm => (hst.block b (h.mine_lt hm) (hx b hm)).1
/-- One of its blocks is another thing now. -/
theorem Sim.turn (h : Sim W L fb n nb uv vals) {b : Nat} {r : Ro} (hs : W.heap.size ≤ W'.heap.size) (hk : ∀ x, x ≠ b → Mine L uv x → W'.heap[x]? = W.heap[x]?) (hb : b < W'.heap.size) (hi : Is W' b r) (hf : b ≠ fb)
    (hn : b = nb → ∃ m, r = .nodes m) (ho : uv.ownBlock ≠ some b) : Sim W' (upd L b r) fb n nb uv vals where
  is x s hx := by
    unfold upd at hx
    split at hx
    · rename_i e; cases hx; rw [e]; exact ⟨hb, hi⟩
    · rename_i e
      have := h.is x s hx
      exact ⟨Nat.lt_of_lt_of_le this.1 hs, this.2.same (hk x e (.inl (by rw [hx]; simp)))⟩
  fs := by rw [upd_other _ _ (fun e => hf e.symm)]; exact h.fs
  blk := h.blk.same (hk fb (fun e => hf e.symm) (.inl (by rw [h.fs]; simp)))
  nodes := by
    by_cases e : nb = b
    · obtain ⟨m, rfl⟩ := hn e.symm
      exact ⟨m, by rw [e, upd_same]⟩
    · obtain ⟨m, hm⟩ := h.nodes
      exact ⟨m, by rw [upd_other _ _ e]; exact hm⟩
  own := row_same h.own fun g hg => hk g (fun e => ho (by rw [← e]; exact hg)) (.inr hg)
  sep g hg := by rw [upd_other _ _ (fun e => ho (by rw [← e]; exact hg))]; exact h.sep g hg
end
end Fs
end Go.Proofs.YtlnnbjgfpiefdaaGreat
/- A file system's maps: what an operation on one of them does. -/
namespace Go.Proofs.YtlnnbjgfpiefdaaGreat
open Go.RowKit Go.Maps

namespace Fs
section
variable {κ ν : Type} [DecidableEq κ] [Key κ] {P : Program} {W : World} {b : Nat} {t k e : TypeId} {ev : ν → Value} {m : Al κ ν}
/-- Block b of W is the map m. -/
def MapAt (P : Program) (k : TypeId) (ev : ν → Value) (W : World) (b : Nat) (m : Al κ ν) : Prop := W.ownsMap P k rawElem b m.length (toD ev m) ∧ Rising m

theorem MapAt.update (h : MapAt P k ev W b m) (K : Keyed P k) (ht : P.underlying t = some (.map k e)) (hm : m.length < maxLen) {key val : Value} {x : κ} (hkey : keyOf P k key = some (Key.lit x)) {v : ν} (hv : val = ev v) :
    ∃ w', (Instr.mapUpdate t (.map (some b)) key val).run P W = .ok () w' ∧ MapAt P k ev w' b (put m x v) ∧ W.grownBy w' (some b) := by
  subst hv
  obtain ⟨w', h1, h2, h3⟩ := h.1.update K ht hm hkey (d := .held (ev v)) (ps := []) rfl
  rw [toD_put] at h2
  have h4 := owns_size h2
  rw [toD_size] at h4
  exact ⟨w', h1, ⟨h4, h.2.put _ _⟩, h3⟩
theorem MapAt.drop (h : MapAt P k ev W b m) (K : Keyed P k) (ht : P.underlying t = some (.map k e)) {key : Value} {x : κ} (hkey : keyOf P k key = some (Key.lit x)) (ty : TypeId) :
    ∃ w', (Builtin.delete_ #[t, k] ty #[.map (some b), key]).run P W = .ok (.tuple #[]) w' ∧ MapAt P k ev w' b (del m x) ∧ W.grownBy w' (some b) := by
  obtain ⟨w', h1, h2, h3⟩ := h.1.drop K ht hkey ty
  rw [toD_del] at h2
  have h4 := owns_size h2
  rw [toD_size] at h4
  exact ⟨w', h1, ⟨h4, h.2.del _⟩, h3.grown⟩
theorem MapAt.look (h : MapAt P k ev W b m) (K : Keyed P k) (ht : P.underlying t = some (.map k e)) {z : Value} (hz : (zeroValue e).run P W = .ok z W) {key : Value} {x : κ} (hkey : keyOf P k key = some (Key.lit x)) :
    (Instr.lookup t (.map (some b)) key false).run P W = .ok (((get m x).map ev).getD z) W := by
  obtain ⟨v, ps, h1, h2⟩ := h.1.lookup K ht hz (zd := .held z) (zp := []) rfl hkey
  rw [toD_atKey] at h2
  simp only [rawElem, Option.some.injEq, Prod.mk.injEq, DataW.held.injEq] at h2
  rw [← h2.1]; exact h1
theorem MapAt.look_ok (h : MapAt P k ev W b m) (K : Keyed P k) (ht : P.underlying t = some (.map k e)) {z : Value} (hz : (zeroValue e).run P W = .ok z W) {key : Value} {x : κ} (hkey : keyOf P k key = some (Key.lit x)) :
    (Instr.lookup t (.map (some b)) key true).run P W = .ok (.tuple #[((get m x).map ev).getD z, .bool (get m x).isSome]) W := by
  obtain ⟨v, ps, h1, h2⟩ := h.1.look_ok K ht hz (zd := .held z) (zp := []) rfl hkey
  rw [toD_atKey] at h2
  rw [toD_has] at h1
  simp only [rawElem, Option.some.injEq, Prod.mk.injEq, DataW.held.injEq] at h2
  rw [← h2.1]; exact h1
theorem MapAt.len (h : MapAt P k ev W b m) (ht : P.underlying t = some (.map k e)) (ty : TypeId) : (Builtin.len_ #[t] ty #[.map (some b)]).run P W = .ok (.int .i64 m.length) W := by
  have := h.1.len ht ty
  rw [toD_size] at this
  exact this
theorem MapAt.drew (h : MapAt P k ev W b m) : MapAt P k ev W.drew b m := h
theorem MapAt.same {W' : World} (h : MapAt P k ev W b m) (e : W'.heap[b]? = W.heap[b]?) : MapAt P k ev W' b m := ⟨owns_same h.1 e, h.2⟩
end

theorem keyI {i : Int} (h : (Lit.int .i64 i).wf = true) : keyOf Tryz.prog 3 (.int .i64 i) = some (Key.lit i) := keyOf_int_mk Tryz.underlying3 h
theorem keyT {s : Tx} (h : s.length ≤ maxLen) : keyOf Tryz.prog 9 (.string (mk s)) = some (Key.lit s) := by
  have : (mk s).size ≤ maxLen := h
  simp [keyOf, Tryz.underlying9, mapKey, mk] at this ⊢
  exact ⟨this, rfl⟩
theorem kI : Keyed Tryz.prog 3 := int_keyed Tryz.underlying3
theorem kT : Keyed Tryz.prog 9 := string_keyed Tryz.underlying9
theorem wfI {i : Int} (h1 : -9000000000000000000 ≤ i) (h2 : i ≤ 9000000000000000000) : (Lit.int .i64 i).wf = true := WalkArith.wf_i64 (by omega)
theorem zP (w : World) : (zeroValue 61).run Tryz.prog w = .ok (.pointer none) w := by kernel_rfl
theorem zI (w : World) : (zeroValue 3).run Tryz.prog w = .ok (.int .i64 0) w := by kernel_rfl
theorem is_nodes {W : World} {b : Nat} {m : Al Int Nat} : Is W b (.nodes m) = MapAt Tryz.prog 3 evP W b m := rfl
theorem is_names {W : World} {b : Nat} {m : Al Tx Int} : Is W b (.names m) = MapAt Tryz.prog 9 evI W b m := rfl
theorem is_pieces {W : World} {b : Nat} {m : Al Int Pc} : Is W b (.pieces m) = MapAt Tryz.prog 3 evPc W b m := rfl
end Fs
end Go.Proofs.YtlnnbjgfpiefdaaGreat
/- What takes a change back is noted. -/
namespace Go.Proofs.YtlnnbjgfpiefdaaGreat
open Go.RowKit Go.Maps

namespace Fs
theorem info_fn : (Tryz.prog.info? 1).map (fun i => (i.zero, i.size, i.bytes)) = some (some .nilFunc, 1, 8) := by kernel_rfl
/-- At a node's field. -/
theorem fs_cells {W : World} {fb nb : Nat} {n : Int} {uv : Value} (h : Blk W fb (fsCells n nb uv) 60) :
    W.cell? ⟨fb, 0, none⟩ = some (.int .i64 n) ∧ W.cell? ⟨fb, 3, none⟩ = some (.int .i64 (98 + (n + 4095) / 4096 + n / 64)) ∧ W.cell? ⟨fb, 4, none⟩ = some (.int .i64 (n / 64 * 8)) ∧
    W.cell? ⟨fb, 5, none⟩ = some (.map (some nb)) ∧ W.cell? ⟨fb, 6, none⟩ = some uv ∧ W.frozen? ⟨fb, 6, none⟩ = false :=
  ⟨h.cell 0, h.cell 3, h.cell 4, h.cell 5, h.cell 6, h.free 6⟩

theorem node_cells {W : World} {b : Nat} {h : Hd} (k : Blk W b h.cells 65) :
    W.cell? ⟨b, 0, none⟩ = some (.int .i64 h.kind) ∧ W.cell? ⟨b, 1, none⟩ = some (.int .i64 h.links) ∧ W.cell? ⟨b, 2, none⟩ = some (.int .i64 h.size) ∧ W.cell? ⟨b, 3, none⟩ = some (.map h.pm) ∧
    W.cell? ⟨b, 4, none⟩ = some (.map h.nm) ∧ W.cell? ⟨b, 5, none⟩ = some (.int .i64 h.blocks) ∧ W.cell? ⟨b, 6, none⟩ = some (.string (mk h.text)) ∧ (∀ j, W.frozen? ⟨b, j, none⟩ = false) :=
  ⟨k.cell 0, k.cell 1, k.cell 2, k.cell 3, k.cell 4, k.cell 5, k.cell 6, fun j => k.free j⟩

/-- A closure's value. -/
abbrev fnV (k : FuncId) (cp : Array Value) : Value := .func (.func k) #[] cp

set_option maxRecDepth 100000 in
set_option maxHeartbeats 1000000 in
theorem back_any {W : World} {L : Lay} {fb : Nat} {n : Int} {nb : Nat} {uv : Value} {vals : List Value} (h : Sim W L fb n nb uv vals) (hlen : vals.length ≤ 1000000000000) (k : FuncId) (cp : Array Value) :
    Calls Tryz.prog 79 #[.pointer (some ⟨fb, 0, none⟩), fnV k cp] W fun e W' => e = .returned (.tuple #[]) ∧ ∃ uv', Sim W' L fb n nb uv' (vals ++ [fnV k cp]) ∧ Step W (Mine L uv) W' (Mine L uv') := by
  obtain ⟨_, _, _, _, c6, f6⟩ := fs_cells h.blk
  obtain ⟨i0, hi, hz0, hz1, hz2⟩ := info_parts info_fn
  have hfu : uv.ownBlock ≠ some fb := fun e => by have := h.sep fb e; rw [h.fs] at this; cases this
  have hOa := h.own.alloc (.cells #[fnV k cp] 1)
  have hfl := h.blk.lt
  go_enter Tryz.func79, Tryz.ntmps79
  go_wp2_with (at_builtin; go_must (refine wpList_append_own_at _ rfl (.tmp 8) (.tmp 10) 58 rfl 0 1 i0 .nilFunc 1 8 Tryz.underlying58 hi hz0 hz1 hz2 rfl (by decide) uv vals.length vals rfl hOa ⟨W.heap.size, 0, none⟩ 1 1 [fnV k cp] rfl rfl (cell_one_new _ _ _) (by simp [fnV, Value.oneCell']) (by unfold maxLen; omega) (by omega) (by omega) ?_); intro uv' w1 hown hg _ hloc; obtain ⟨g', cap', rfl, _, hgl, _⟩ := own_at hown (by omega); have hb1 := ((hg.block fb (by simp; omega) (fun e => hfu e.symm)).trans (((Below.refl W.heap.size W).alloc (Nat.le_refl _) (.cells #[fnV k cp] 1)).block fb hfl)); have hk := h.blk.same hb1; obtain ⟨_, _, _, _, k6, g6⟩ := fs_cells hk)
  have hs1 : W.heap.size + 1 ≤ w1.heap.size := by have := hg.size; simpa using this
  have hfg : fb ≠ g' := by
    rintro rfl
    rcases hloc with e | e
    · exact hfu (by rw [← e]; rfl)
    · simp [Value.ownBlock] at e; omega
  have hkeep : ∀ x, x < W.heap.size → uv.ownBlock ≠ some x → w1.heap[x]? = W.heap[x]? := fun x hx hne => (hg.block x (by simp; omega) (fun e => hne e.symm)).trans (((Below.refl W.heap.size W).alloc (Nat.le_refl _) (.cells #[fnV k cp] 1)).block x hx)
  have hkeep2 : ∀ x, x < W.heap.size → x ≠ fb → uv.ownBlock ≠ some x → (w1.setCell ⟨fb, 6, none⟩ (.slice (some ⟨g', 0, none⟩) (vals.length + 1) cap')).heap[x]? = W.heap[x]? := fun x hx hf hne => by
    rw [Below.heap_setCell _ _ _ _ hf]; exact hkeep x hx hne
  have hmf : ∀ x, L x ≠ none → uv.ownBlock ≠ some x := fun x hx e => hx (h.sep x e)
  go_end0
  refine ⟨rfl, .slice (some ⟨g', 0, none⟩) (vals.length + 1) cap', ⟨fun x r hx => ?_, h.fs, ?_, h.nodes, ?_, fun g hgg => ?_⟩, ?_⟩
  · have h1 := h.is x r hx
    refine ⟨by simp; omega, ?_⟩
    by_cases e : x = fb
    · subst e
      rw [h.fs] at hx; cases hx
      trivial
    · exact h1.2.same (hkeep2 x h1.1 e (hmf x (by rw [hx]; simp)))
  · exact hk.set 6 _
  · have := ownsRow_setCell_other hown (a := ⟨fb, 6, none⟩) (fun e => by cases e; exact hfg rfl) (.slice (some ⟨g', 0, none⟩) (vals.length + 1) cap')
    simpa using this
  · cases hgg
    rcases hloc with e | e
    · exact h.sep g' (by rw [← e]; rfl)
    · refine h.none_of_ge ?_
      cases e; simp
  · refine ⟨?_, ?_, ?_, by simp; omega, fun x hx hn => ⟨hkeep2 x hx (fun e => hn (.inl (by rw [e, h.fs]; simp))) (fun e => hn (.inr e)), ?_⟩⟩
    · exact hg.os
    · exact hg.tape
    · exact hg.output
    · rintro (e | e)
      · exact hn (.inl e)
      · rcases hloc with e' | e'
        · exact hn (.inr (by rw [← e', e]))
        · rw [e'] at e; cases e; simp at hx; omega
end Fs
end Go.Proofs.YtlnnbjgfpiefdaaGreat
