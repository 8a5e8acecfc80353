/- Maps whose keys are numbers or structs of numbers and texts: what an operation on one of them does. -/
import Derived.Test.YtegplehbcdeeoaaGreatDoorChkB04
import Derived.Test.YtegplehbcdeeoaaGreatDoorChkB12
import Derived.DeepKeys4
namespace Go.Proofs.YtegplehbcdeeoaaGreatDoor
open Go.RowKit Go.Maps

namespace Fs
theorem owns_size {H : Type} {W : World} {P : Program} {k : TypeId} {R : Value → Option (DataW H × List MemPlace)} {b n : Nat} {D : DataW H} (h : W.ownsMap P k R b n D) : W.ownsMap P k R b (Maps.size D) D := by
  obtain ⟨es, clock, hb, F, hs, rfl⟩ := h
  exact ⟨es, clock, hb, F, by rw [Maps.size_eq, length_sorted]; simp, rfl⟩
theorem owns_same {H : Type} {W W' : World} {P : Program} {k : TypeId} {R : Value → Option (DataW H × List MemPlace)} {b n : Nat} {D : DataW H} (h : W.ownsMap P k R b n D) (e : W'.heap[b]? = W.heap[b]?) : W'.ownsMap P k R b n D := by
  obtain ⟨es, clock, hb, F, hs, hD⟩ := h
  exact ⟨es, clock, e.trans hb, F, hs, hD⟩
section
variable {κ ν : Type} [DecidableEq κ] [Key κ] {P : Program} {W : World} {b : Nat} {t k e : TypeId} {ev : ν → Value} {m : Al κ ν}
/-- Block b of W is the map m. -/
def MapAt (P : Program) (k : TypeId) (ev : ν → Value) (W : World) (b : Nat) (m : Al κ ν) : Prop := W.ownsMap P k rawElem b m.length (toD ev m) ∧ Rising m

theorem MapAt.update (h : MapAt P k ev W b m) (K : Keyed P k) (ht : P.underlying t = some (.map k e)) (hm : m.length < maxLen) {key val : Value} {x : κ} (hkey : keyOf P k key = some (Key.lit x)) {v : ν} (hv : val = ev v) :
    ∃ w', (Instr.mapUpdate t (.map (some b)) key val).run P W = .ok () w' ∧ MapAt P k ev w' b (put m x v) ∧ W.grownBy w' (some b) := by
  subst hv
  obtain ⟨w', h1, h2, h3⟩ := h.1.update K ht hm hkey (d := .held (ev v)) (ps := []) rfl
  rw [toD_put] at h2
  have h4 := owns_size h2
  rw [toD_size] at h4
  exact ⟨w', h1, ⟨h4, h.2.put _ _⟩, h3⟩
theorem MapAt.drop (h : MapAt P k ev W b m) (K : Keyed P k) (ht : P.underlying t = some (.map k e)) {key : Value} {x : κ} (hkey : keyOf P k key = some (Key.lit x)) (ty : TypeId) :
    ∃ w', (Builtin.delete_ #[t, k] ty #[.map (some b), key]).run P W = .ok (.tuple #[]) w' ∧ MapAt P k ev w' b (del m x) ∧ W.grownBy w' (some b) := by
  obtain ⟨w', h1, h2, h3⟩ := h.1.drop K ht hkey ty
  rw [toD_del] at h2
  have h4 := owns_size h2
  rw [toD_size] at h4
  exact ⟨w', h1, ⟨h4, h.2.del _⟩, h3.grown⟩
theorem MapAt.look (h : MapAt P k ev W b m) (K : Keyed P k) (ht : P.underlying t = some (.map k e)) {z : Value} (hz : (zeroValue e).run P W = .ok z W) {key : Value} {x : κ} (hkey : keyOf P k key = some (Key.lit x)) :
    (Instr.lookup t (.map (some b)) key false).run P W = .ok (((get m x).map ev).getD z) W := by
  obtain ⟨v, ps, h1, h2⟩ := h.1.lookup K ht hz (zd := .held z) (zp := []) rfl hkey
  rw [toD_atKey] at h2
  simp only [rawElem, Option.some.injEq, Prod.mk.injEq, DataW.held.injEq] at h2
  rw [← h2.1]; exact h1
theorem MapAt.look_ok (h : MapAt P k ev W b m) (K : Keyed P k) (ht : P.underlying t = some (.map k e)) {z : Value} (hz : (zeroValue e).run P W = .ok z W) {key : Value} {x : κ} (hkey : keyOf P k key = some (Key.lit x)) :
    (Instr.lookup t (.map (some b)) key true).run P W = .ok (.tuple #[((get m x).map ev).getD z, .bool (get m x).isSome]) W := by
  obtain ⟨v, ps, h1, h2⟩ := h.1.look_ok K ht hz (zd := .held z) (zp := []) rfl hkey
  rw [toD_atKey] at h2
  rw [toD_has] at h1
  simp only [rawElem, Option.some.injEq, Prod.mk.injEq, DataW.held.injEq] at h2
  rw [← h2.1]; exact h1
theorem MapAt.len (h : MapAt P k ev W b m) (ht : P.underlying t = some (.map k e)) (ty : TypeId) : (Builtin.len_ #[t] ty #[.map (some b)]).run P W = .ok (.int .i64 m.length) W := by
  have := h.1.len ht ty
  rw [toD_size] at this
  exact this
theorem MapAt.drew (h : MapAt P k ev W b m) : MapAt P k ev W.drew b m := h
theorem MapAt.same {W' : World} (h : MapAt P k ev W b m) (e : W'.heap[b]? = W.heap[b]?) : MapAt P k ev W' b m := ⟨owns_same h.1 e, h.2⟩
end

theorem keyI {i : Int} (h : (Lit.int .i64 i).wf = true) : keyOf Tryz.prog 3 (.int .i64 i) = some (Key.lit i) := keyOf_int_mk Tryz.underlying3 h
theorem keyT {s : Tx} (h : s.length ≤ maxLen) : keyOf Tryz.prog 9 (.string (mk s)) = some (Key.lit s) := by
  have : (mk s).size ≤ maxLen := h
  simp [keyOf, Tryz.underlying9, mapKey, mk] at this ⊢
  exact ⟨this, rfl⟩
theorem kI : Keyed Tryz.prog 3 := int_keyed Tryz.underlying3
theorem kT : Keyed Tryz.prog 9 := string_keyed Tryz.underlying9
theorem wfI {i : Int} (h1 : -9000000000000000000 ≤ i) (h2 : i ≤ 9000000000000000000) : (Lit.int .i64 i).wf = true := WalkArith.wf_i64 (by omega)
end Fs
namespace Ck
open Fs
section
variable {κ κ' ν : Type} [DecidableEq κ'] [Key κ'] {P : Program} {W : World} {b : Nat} {t k e : TypeId} {ev : ν → Value} {en : κ → κ'} {V : κ → Prop} {N : Nat} {f : κ → Option ν}
/-- Block b of W is a map that answers as f does, with at most N entries. -/
def MapF (P : Program) (k : TypeId) (ev : ν → Value) (en : κ → κ') (V : κ → Prop) (W : World) (b N : Nat) (f : κ → Option ν) : Prop := ∃ m : Al κ' ν, MapAt P k ev W b m ∧ m.length ≤ N ∧ ∀ x, V x → get m (en x) = f x
theorem MapF.same {W' : World} (h : MapF P k ev en V W b N f) (e : W'.heap[b]? = W.heap[b]?) : MapF P k ev en V W' b N f := by
  obtain ⟨m, h1, h2⟩ := h
  exact ⟨m, h1.same e, h2⟩
theorem MapF.lt (h : MapF P k ev en V W b N f) : b < W.heap.size := by
  obtain ⟨m, h1, _⟩ := h
  exact h1.1.lt
theorem MapF.update [DecidableEq κ] (h : MapF P k ev en V W b N f) (K : Keyed P k) (ht : P.underlying t = some (.map k e)) (hm : N < maxLen) {key val : Value} {x : κ} (hkey : keyOf P k key = some (Key.lit (en x))) (hinj : ∀ y, V y → en y = en x → y = x) {v : ν} (hv : val = ev v) :
    ∃ w', (Instr.mapUpdate t (.map (some b)) key val).run P W = .ok () w' ∧ MapF P k ev en V w' b (N + 1) (fun y => if y = x then some v else f y) ∧ W.grownBy w' (some b) := by
  obtain ⟨m, h1, h2, h3⟩ := h
  obtain ⟨w', a1, a2, a3⟩ := h1.update K ht (by omega) hkey hv
  refine ⟨w', a1, ⟨_, a2, ?_, fun y hy => ?_⟩, a3⟩
  · rw [length_put _ h1.2]; split <;> omega
  · rw [get_put _ h1.2]
    dsimp only
    by_cases c : y = x
    · rw [if_pos c, if_pos (by rw [c])]
    · rw [if_neg c, if_neg (fun h => c (hinj y hy h)), h3 y hy]
theorem MapF.look (h : MapF P k ev en V W b N f) (K : Keyed P k) (ht : P.underlying t = some (.map k e)) {z : Value} (hz : (zeroValue e).run P W = .ok z W) {key : Value} {x : κ} (hx : V x) (hkey : keyOf P k key = some (Key.lit (en x))) :
    (Instr.lookup t (.map (some b)) key false).run P W = .ok (((f x).map ev).getD z) W := by
  obtain ⟨m, h1, h2, h3⟩ := h
  rw [h1.look K ht hz hkey, h3 x hx]
theorem MapF.look_ok (h : MapF P k ev en V W b N f) (K : Keyed P k) (ht : P.underlying t = some (.map k e)) {z : Value} (hz : (zeroValue e).run P W = .ok z W) {key : Value} {x : κ} (hx : V x) (hkey : keyOf P k key = some (Key.lit (en x))) :
    (Instr.lookup t (.map (some b)) key true).run P W = .ok (.tuple #[((f x).map ev).getD z, .bool (f x).isSome]) W := by
  obtain ⟨m, h1, h2, h3⟩ := h
  rw [h1.look_ok K ht hz hkey, h3 x hx]
theorem MapF.drew (h : MapF P k ev en V W b N f) : MapF P k ev en V W.drew b N f := h
end
theorem laidOut : laidOutB Tryz.prog = true := by kernel_rfl
theorem kPlace : Keyed Tryz.prog 169 := Keyed.of_law (deep_law_laid laidOut (m := 2) (by omega) (of_decide_eq_true (by kernel_rfl)) (by kernel_rfl) (by rw [Tryz.underlying169]))
theorem kNamed : Keyed Tryz.prog 173 := Keyed.of_law (deep_law_laid laidOut (m := 2) (by omega) (of_decide_eq_true (by kernel_rfl)) (by kernel_rfl) (by rw [Tryz.underlying173]))
/-- How a struct reads as a key. -/
noncomputable def encK (k : TypeId) (v : Value) : Tx := match keyOf Tryz.prog k v with | some (.string s) => s | _ => []
theorem key_place (a b : Int) (ha : -9000000000000000000 ≤ a ∧ a ≤ 9000000000000000000) (hb : -9000000000000000000 ≤ b ∧ b ≤ 9000000000000000000) : keyOf Tryz.prog 169 (.agg #[.int .i64 a, .int .i64 b]) = some (Key.lit (encK 169 (.agg #[.int .i64 a, .int .i64 b]))) := by
  have h1 := wfI ha.1 ha.2
  have h2 := wfI hb.1 hb.2
  have : ∃ s, keyOf Tryz.prog 169 (.agg #[.int .i64 a, .int .i64 b]) = some (.string s) := by
    unfold keyOf
    rw [Tryz.underlying169]
    have h3 : Tryz.prog.keyType 169 = true := by kernel_rfl
    have h4 : (Value.agg #[.int .i64 a, .int .i64 b]).formed Tryz.prog 169 = true := by simp [Value.formed, Tryz.underlying169]; kernel_rfl
    simp only [h3, h4, Value.cells, Bool.and_self, if_true]
    have ho : Tryz.prog.cellsOf 3 = 1 := by kernel_rfl
    have h2c : Tryz.prog.cellsOf 169 = 2 := by kernel_rfl
    have hI : ∀ n x, (Lit.int .i64 x).wf = true → Tryz.prog.keyLits (n + 1) 3 [.int .i64 x] = some [.int .i64 x] := by
      intro n x hx
      unfold Program.keyLits
      rw [Tryz.underlying3]
      simp [hx]
    obtain ⟨n, hn⟩ : ∃ n, Tryz.prog.types.size + 1 = n + 1 + 1 := ⟨Tryz.prog.types.size - 1, by have : 1 ≤ Tryz.prog.types.size := of_decide_eq_true (by kernel_rfl); omega⟩
    simp only [hn]
    unfold Program.keyLits
    rw [Tryz.underlying169]
    simp [h2c, ho, hI, h1, h2]
    done
  obtain ⟨s, hs⟩ := this
  unfold encK
  rw [hs]
  rfl
theorem key_named (a : Int) (l : B) (ha : -9000000000000000000 ≤ a ∧ a ≤ 9000000000000000000) (hb : l.length ≤ maxLen) : keyOf Tryz.prog 173 (.agg #[.int .i64 a, .string (mk l)]) = some (Key.lit (encK 173 (.agg #[.int .i64 a, .string (mk l)]))) := by
  have h1 := wfI ha.1 ha.2
  have : ∃ s, keyOf Tryz.prog 173 (.agg #[.int .i64 a, .string (mk l)]) = some (.string s) := by
    unfold keyOf
    rw [Tryz.underlying173]
    have h3 : Tryz.prog.keyType 173 = true := by kernel_rfl
    have h4 : (Value.agg #[.int .i64 a, .string (mk l)]).formed Tryz.prog 173 = true := by simp [Value.formed, Tryz.underlying173]; kernel_rfl
    simp only [h3, h4, Value.cells, Bool.and_self, if_true]
    have ho : Tryz.prog.cellsOf 3 = 1 := by kernel_rfl
    have hs1 : Tryz.prog.cellsOf 9 = 1 := by kernel_rfl
    have h2c : Tryz.prog.cellsOf 173 = 2 := by kernel_rfl
    have hI : ∀ n x, (Lit.int .i64 x).wf = true → Tryz.prog.keyLits (n + 1) 3 [.int .i64 x] = some [.int .i64 x] := by
      intro n x hx
      unfold Program.keyLits
      rw [Tryz.underlying3]
      simp [hx]
    have hS : ∀ n, Tryz.prog.keyLits (n + 1) 9 [.string (mk l)] = some [.string l] := by
      intro n
      unfold Program.keyLits
      rw [Tryz.underlying9]
      have : (mk l).size ≤ maxLen := hb
      show (if (mk l).size ≤ maxLen then some [Lit.string (mk l).data.toList] else none) = _
      rw [if_pos this]
      simp [mk]
    obtain ⟨n, hn⟩ : ∃ n, Tryz.prog.types.size + 1 = n + 1 + 1 := ⟨Tryz.prog.types.size - 1, by have : 1 ≤ Tryz.prog.types.size := of_decide_eq_true (by kernel_rfl); omega⟩
    simp only [hn]
    unfold Program.keyLits
    rw [Tryz.underlying173]
    simp [h2c, ho, hs1, hI, hS, h1]
  obtain ⟨s, hs⟩ := this
  unfold encK
  rw [hs]
  rfl
/-! The four kinds of maps. -/
def enI (n : Nat) : Int := n
def vI (n : Nat) : Prop := n ≤ 1000000000000000000
noncomputable def enP (p : Nat × Nat) : Tx := encK 169 (.agg #[.int .i64 p.1, .int .i64 p.2])
def vP (p : Nat × Nat) : Prop := p.1 ≤ 1000000000000000000 ∧ p.2 ≤ 1000000000000000000
noncomputable def enN (p : Nat × B) : Tx := encK 173 (.agg #[.int .i64 p.1, .string (mk p.2)])
def vN (p : Nat × B) : Prop := p.1 ≤ 1000000000000000000 ∧ p.2.length ≤ 1000000000000
theorem kyI {n : Nat} (h : vI n) : keyOf Tryz.prog 3 (.int .i64 n) = some (Key.lit (enI n)) := keyI (wfI (by omega) (by unfold vI at h; omega))
theorem kyP {p : Nat × Nat} (h : vP p) : keyOf Tryz.prog 169 (.agg #[.int .i64 p.1, .int .i64 p.2]) = some (Key.lit (enP p)) := key_place _ _ (by unfold vP at h; omega) (by unfold vP at h; omega)
theorem kyN {p : Nat × B} (h : vN p) : keyOf Tryz.prog 173 (.agg #[.int .i64 p.1, .string (mk p.2)]) = some (Key.lit (enN p)) := key_named _ _ (by unfold vN at h; omega) (by unfold vN at h; unfold maxLen; omega)
theorem injI {x : Nat} (_ : vI x) : ∀ y, vI y → enI y = enI x → y = x := fun y _ h => by unfold enI at h; omega
theorem injP {x : Nat × Nat} (hx : vP x) : ∀ y, vP y → enP y = enP x → y = x := fun y hy h => by
  have := kPlace.inj (kyP hy) (by rw [h]; exact kyP hx)
  simp at this
  exact Prod.ext (by omega) (by omega)
theorem injN {x : Nat × B} (hx : vN x) : ∀ y, vN y → enN y = enN x → y = x := fun y hy h => by
  have := kNamed.inj (kyN hy) (by rw [h]; exact kyN hx)
  simp at this
  refine Prod.ext (by omega) ?_
  have := congrArg (fun s : ByteArray => s.data.toList) this.2
  simpa [mk] using this
/-- A map from numbers. -/
abbrev MapI {ν : Type} (ev : ν → Value) (W : World) (b N : Nat) (f : Nat → Option ν) : Prop := MapF Tryz.prog 3 ev enI vI W b N f
abbrev MapP (W : World) (b N : Nat) (f : Nat × Nat → Option Nat) : Prop := MapF Tryz.prog 169 (fun n : Nat => Value.int .i64 n) enP vP W b N f
abbrev MapN (W : World) (b N : Nat) (f : Nat × B → Option Nat) : Prop := MapF Tryz.prog 173 (fun n : Nat => Value.int .i64 n) enN vN W b N f
end Ck
end Go.Proofs.YtegplehbcdeeoaaGreatDoor
/- What a checker has found out, and where it lies. -/
namespace Go.Proofs.YtegplehbcdeeoaaGreatDoor
open Go.RowKit Go.Maps

namespace Ck
open Pk Pw
/-- A finding. -/
structure Fnd where
  kind : Nat
  inode : Nat
  block : Nat
  name : B
deriving DecidableEq
def fndV (f : Fnd) : List Value := [.int .i64 f.kind, .int .i64 f.inode, .int .i64 f.block, .string (mk f.name)]
def fndsV (l : List Fnd) : List Value := l.flatMap fndV
/-- A taken cell: its name, its inode. -/
abbrev Cl := B × Nat
def clV (c : Cl) : List Value := [.string (mk c.1), .int .i64 c.2]
def clsV (l : List Cl) : List Value := l.flatMap clV
theorem fndsV_app (l : List Fnd) (f : Fnd) : fndsV (l ++ [f]) = fndsV l ++ [.int .i64 f.kind, .int .i64 f.inode, .int .i64 f.block, .string (mk f.name)] := by simp [fndsV, fndV]
theorem clsV_app (l : List Cl) (c : Cl) : clsV (l ++ [c]) = clsV l ++ [.string (mk c.1), .int .i64 c.2] := by simp [clsV, clV]
theorem fndsV_len (l : List Fnd) : (fndsV l).length = l.length * 4 := by
  unfold fndsV
  induction l with
  | nil => rfl
  | cons x t ih => rw [List.flatMap_cons, List.length_append, ih, List.length_cons]; simp [fndV]; omega
theorem clsV_len (l : List Cl) : (clsV l).length = l.length * 2 := by
  unfold clsV
  induction l with
  | nil => rfl
  | cons x t ih => rw [List.flatMap_cons, List.length_append, ih, List.length_cons]; simp [clV]; omega
/-- What has been found out. -/
structure St where
  found : List Fnd
  nodes : Nat → Option Rc
  had : Nat → Option Nat
  blocks : Nat × Nat → Option Nat
  cells : Nat → List Cl
  depth : Nat → Option Nat
  seen : Nat → Option Nat
  names : Nat → Option Nat
/-- Whose a block is. -/
inductive Ow where
  | other | chk | img | found | nodes | had | blocks | cells | depth | seen | names
  | row (n : Nat)
deriving DecidableEq
/-- Where the checker lies, and the image that it has. -/
structure Adr where
  base : Nat
  c : Nat
  img : Nat
  cap : Nat
  n : Nat
  bytes : B
  nodes : Nat
  had : Nat
  blocks : Nat
  cells : Nat
  depth : Nat
  seen : Nat
  names : Nat
/-- Its rows, and whose each block is. -/
structure Gh where
  found : Value
  row : Nat → Option Value
  who : Nat → Ow
def chkC (A : Adr) (v : Value) : Array Value :=
  #[.slice (some ⟨A.img, 0, none⟩) (512 * A.n) A.cap, .int .i64 A.n, .int .i64 98, .int .i64 (98 + ((A.n : Int) + 4095) / 4096), .int .i64 (98 + ((A.n : Int) + 4095) / 4096 + (A.n : Int) / 64), .int .i64 ((A.n : Int) / 64 * 8), v,
    .map (some A.nodes), .map (some A.had), .map (some A.blocks), .map (some A.cells), .map (some A.depth), .map (some A.seen), .map (some A.names)]
abbrev iv (n : Nat) : Value := .int .i64 n
/-- The checker's data lie in the world; but for what o owns. -/
structure SimX (o : Ow) (N : Nat) (W : World) (A : Adr) (G : Gh) (s : St) : Prop where
  blk : o ≠ .chk → Blk W A.c (chkC A G.found) 70
  img : SeenAt W A.img 0 A.bytes
  fnd : o ≠ .found → W.ownsRow A.base 34 4 G.found s.found.length (fndsV s.found)
  nodes : o ≠ .nodes → MapI (fun x => .agg (recC x)) W A.nodes N s.nodes
  had : o ≠ .had → MapI iv W A.had N s.had
  blocks : o ≠ .blocks → MapP W A.blocks N s.blocks
  cells : o ≠ .cells → MapI (fun v => v) W A.cells N G.row
  depth : o ≠ .depth → MapI iv W A.depth N s.depth
  seen : o ≠ .seen → MapI iv W A.seen N s.seen
  names : o ≠ .names → MapI iv W A.names N s.names
  rows : ∀ k v, G.row k = some v → o ≠ .row k → W.ownsRow A.base 118 2 v (s.cells k).length (clsV (s.cells k))
  rowN : ∀ k, G.row k = none → s.cells k = []
  wFnd : ∀ g, G.found.ownBlock = some g → G.who g = .found
  wRow : ∀ k v g, G.row k = some v → v.ownBlock = some g → G.who g = .row k
  wC : G.who A.c = .chk
  wImg : G.who A.img = .img
  wNodes : G.who A.nodes = .nodes
  wHad : G.who A.had = .had
  wBlocks : G.who A.blocks = .blocks
  wCells : G.who A.cells = .cells
  wDepth : G.who A.depth = .depth
  wSeen : G.who A.seen = .seen
  wNames : G.who A.names = .names
  low : ∀ b, G.who b ≠ .other → A.base ≤ b ∧ b < W.heap.size
  lenF : s.found.length ≤ N
  lenC : ∀ k, (s.cells k).length ≤ N
  kv : KVars W
  t1 : 5 < A.base
  t2 : 4 < A.base
  len : A.bytes.length = 512 * A.n
  n1 : 128 ≤ A.n
  n2 : A.n ≤ 16384
  cap : 512 * A.n ≤ A.cap ∧ A.cap ≤ 9223372036854775807
  base : A.base ≤ W.heap.size
abbrev Sim (N : Nat) (W : World) (A : Adr) (G : Gh) (s : St) : Prop := SimX .other N W A G s
section
variable {W W' W'' : World} {A : Adr} {G G' G'' : Gh} {s : St} {N : Nat} {o : Ow}
/-- A world changed in what o owns, and perhaps in what nobody of the checker's owns. -/
structure Kept (o : Ow) (W W' : World) (G : Gh) : Prop where
  os : W'.os = W.os
  tape : W'.tape = W.tape
  output : W'.output = W.output
  size : W.heap.size ≤ W'.heap.size
  block : ∀ b, b < W.heap.size → G.who b ≠ .other → G.who b ≠ o → W'.heap[b]? = W.heap[b]?
theorem MapF.mono {κ κ' ν : Type} [DecidableEq κ'] [Fs.Key κ'] {P : Program} {b : Nat} {k : TypeId} {ev : ν → Value} {en : κ → κ'} {V : κ → Prop} {N N' : Nat} {f : κ → Option ν} (h : MapF P k ev en V W b N f) (hN : N ≤ N') : MapF P k ev en V W b N' f := by
  obtain ⟨m, h1, h2, h3⟩ := h
  exact ⟨m, h1, Nat.le_trans h2 hN, h3⟩
theorem SimX.mono {N' : Nat} (h : SimX o N W A G s) (hN : N ≤ N') : SimX o N' W A G s :=
  { h with
    nodes := fun e => (h.nodes e).mono hN, had := fun e => (h.had e).mono hN, blocks := fun e => (h.blocks e).mono hN, cells := fun e => (h.cells e).mono hN
    depth := fun e => (h.depth e).mono hN, seen := fun e => (h.seen e).mono hN, names := fun e => (h.names e).mono hN
    lenF := Nat.le_trans h.lenF hN, lenC := fun k => Nat.le_trans (h.lenC k) hN }
/-- Only what o owns changed: all but that is as it was. -/
theorem SimX.move (h : Sim N W A G s) (hk : Kept o W W' G) (ho : o ≠ .img) (hkv : KVars W') : SimX o N W' A G s := by
  have K : ∀ b r, G.who b = r → r ≠ .other → o ≠ r → W'.heap[b]? = W.heap[b]? := fun b r e h1 h2 => hk.block b (h.low b (by rw [e]; exact h1)).2 (by rw [e]; exact h1) (by rw [e]; exact fun c => h2 c.symm)
  exact {
    blk := fun e => (h.blk (by decide)).same (K _ _ h.wC (by decide) e)
    img := h.img.same (K _ _ h.wImg (by decide) ho)
    fnd := fun e => own_same (h.fnd (by decide)) fun g hg => K _ _ (h.wFnd g hg) (by decide) e
    nodes := fun e => (h.nodes (by decide)).same (K _ _ h.wNodes (by decide) e)
    had := fun e => (h.had (by decide)).same (K _ _ h.wHad (by decide) e)
    blocks := fun e => (h.blocks (by decide)).same (K _ _ h.wBlocks (by decide) e)
    cells := fun e => (h.cells (by decide)).same (K _ _ h.wCells (by decide) e)
    depth := fun e => (h.depth (by decide)).same (K _ _ h.wDepth (by decide) e)
    seen := fun e => (h.seen (by decide)).same (K _ _ h.wSeen (by decide) e)
    names := fun e => (h.names (by decide)).same (K _ _ h.wNames (by decide) e)
    rows := fun k v hv e => own_same (h.rows k v hv (by simp)) fun g hg => K _ _ (h.wRow k v g hv hg) (by simp) e
    rowN := h.rowN, wFnd := h.wFnd, wRow := h.wRow, wC := h.wC, wImg := h.wImg, wNodes := h.wNodes, wHad := h.wHad, wBlocks := h.wBlocks, wCells := h.wCells, wDepth := h.wDepth, wSeen := h.wSeen, wNames := h.wNames
    low := fun b hb => ⟨(h.low b hb).1, Nat.lt_of_lt_of_le (h.low b hb).2 hk.size⟩
    lenF := h.lenF, lenC := h.lenC, kv := hkv, t1 := h.t1, t2 := h.t2, len := h.len, n1 := h.n1, n2 := h.n2, cap := h.cap
    base := Nat.le_trans h.base hk.size }
/-- From B on, what is the checker's are rows. -/
def Cw (B : Nat) (W : World) (G : Gh) : Prop := ∀ b, B ≤ b → G.who b ≠ .other → ∃ cs t fr, W.heap[b]? = some (.cells cs t fr)
/-- From a world to a later one: what belongs to others is as it was. -/
structure Stp (W : World) (G : Gh) (W' : World) (G' : Gh) : Prop where
  os : W'.os = W.os
  tape : W'.tape = W.tape
  output : W'.output = W.output
  size : W.heap.size ≤ W'.heap.size
  who : ∀ b, b < W.heap.size → G.who b = .other → G'.who b = .other
  block : ∀ b, b < W.heap.size → G.who b = .other → W'.heap[b]? = W.heap[b]?
  cw : ∀ B, Cw B W G → Cw B W' G'
theorem Stp.refl (W : World) (G : Gh) : Stp W G W G := ⟨rfl, rfl, rfl, Nat.le_refl _, fun _ _ e => e, fun _ _ _ => rfl, fun _ c => c⟩
theorem Stp.trans (h : Stp W G W' G') (k : Stp W' G' W'' G'') : Stp W G W'' G'' :=
  ⟨k.os.trans h.os, k.tape.trans h.tape, k.output.trans h.output, Nat.le_trans h.size k.size, fun b hb e => k.who b (Nat.lt_of_lt_of_le hb h.size) (h.who b hb e),
    fun b hb e => (k.block b (Nat.lt_of_lt_of_le hb h.size) (h.who b hb e)).trans (h.block b hb e), fun B c => k.cw B (h.cw B c)⟩
theorem Stp.of_below (hb : Below W.heap.size W W') : Stp W G W' G := ⟨hb.os, hb.tape, hb.output, hb.size, fun _ _ e => e, fun b h _ => hb.block b h, fun _ c b hB hw => by
  obtain ⟨cs, t, fr, e⟩ := c b hB hw
  exact ⟨cs, t, fr, (hb.block b (lt_of_block e)).trans e⟩⟩
theorem SimX.kvs (h : SimX o N W A G s) (k : Stp W G W' G') : KVars W' := by
  have e : ∀ b, b < A.base → W'.heap[b]? = W.heap[b]? := fun b hb => k.block b (Nat.lt_of_lt_of_le hb h.base) (by
    apply Classical.byContradiction
    intro c
    have := (h.low b c).1
    omega)
  exact h.kv.same k.size (e _ h.t1) (e _ h.t2)
theorem Sim.below (h : Sim N W A G s) (hb : Below W.heap.size W W') : Sim N W' A G s :=
  SimX.move h ⟨hb.os, hb.tape, hb.output, hb.size, fun b h1 _ _ => hb.block b h1⟩ (by decide) (h.kvs (G' := G) (Stp.of_below hb))
theorem Sim.alloc (h : Sim N W A G s) (x : Obj) : Sim N (W.alloc x) A G s := h.below ((Below.refl _ _).alloc (Nat.le_refl _) _)
theorem Sim.drew (h : Sim N W A G s) : Sim N W.drew A G s := h.below (Below.refl _ _).drew
/-- A write into a block of another's. -/
theorem Sim.beside (h : Sim N W A G s) (hs : W.heap.size ≤ W'.heap.size) (ho : W'.os = W.os) (ht : W'.tape = W.tape) (hp : W'.output = W.output) {x : Nat} (hx : A.base ≤ x) (hwx : G.who x = .other) (hb : ∀ b, b < W.heap.size → b ≠ x → W'.heap[b]? = W.heap[b]?) : Sim N W' A G s := by
  refine SimX.move h ⟨ho, ht, hp, hs, fun b h1 h2 _ => hb b h1 (fun e => h2 (by rw [e]; exact hwx))⟩ (by decide) ?_
  exact h.kv.same hs (hb _ h.kv.lt1 (by have := h.t1; omega)) (hb _ h.kv.lt2 (by have := h.t2; omega))
theorem Sim.setCell (h : Sim N W A G s) {x : Nat} (hx : A.base ≤ x) (hwx : G.who x = .other) (j : Nat) (v : Value) : Sim N (W.setCell ⟨x, j, none⟩ v) A G s :=
  h.beside (by simp) rfl rfl rfl hx hwx fun b _ hb => setCell_heap _ _ _ _ _ hb
theorem SimX.other_of (h : SimX o N W A G s) {b : Nat} (hb : W.heap.size ≤ b ∨ b < A.base) : G.who b = .other := by
  apply Classical.byContradiction
  intro c
  have := h.low b c
  omega
end
end Ck
end Go.Proofs.YtegplehbcdeeoaaGreatDoor
