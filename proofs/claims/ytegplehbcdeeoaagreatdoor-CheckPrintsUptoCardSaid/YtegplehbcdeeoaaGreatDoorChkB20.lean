/- The checker gives the inodes that are there, rising: to the body of a range. -/
import Derived.Test.YtegplehbcdeeoaaGreatDoorChkB19
import Derived.RangeFuncNested
import Derived.RangeFuncBound
import Derived.RangeFuncCalls
import Derived.RangeFuncLeaves
import Derived.RangeFuncBox
import Derived.OwnWalkIn
import Derived.TacticsInMore
import Derived.LoopNIn
import Derived.LoopIn
namespace Go.Proofs.YtegplehbcdeeoaaGreatDoor
open Go.RowKit Go.Maps

attribute [local go_sem] Oper.semAt_some
namespace Ck
open Pk Pw
section
variable {F : Fence} {n : Nat} {P : Program}
/-- A store that is known, fenced. -/
theorem wpListIn_store_run (w : World) {ops : Array Oper} {rest : List Oper} {o : Oper} {a : Act} {Q : Exit → Act → World → Prop}
    (hg : o.guard = none) (p v : Operand) (t : TypeId) (hop : o.op = Op.store t p v) (w' : World) (hrun : (Instr.storeAt t (a.eval p) (a.eval v)).run P w = .ok () w') (hK : wpListIn F n P ops Q rest (a.put o.dst undef) w') : wpListIn F n P ops Q (o :: rest) a w := by
  refine wpListIn_plain hg fun K' hK' => ?_
  unfold Oper.wpIn
  refine ⟨by simp [Oper.about, hop], ?_⟩
  rw [Oper.semAt_plain F _ _ (by rw [hop]; intro c hc'; cases hc')]
  simp [execOp, hop, hrun, Result.andThen]
  exact hK' _ _ hK
/-- A load that is known, fenced. -/
theorem wpListIn_load_when (w : World) {ops : Array Oper} {rest : List Oper} {o : Oper} {a : Act} {Q : Exit → Act → World → Prop}
    (hw : Region.wanted o (yielded ops a.tmps) = true) (p : Operand) (t : TypeId) (hop : o.op = Op.load t p) (v : Value) (hrun : (Instr.loadAt t (a.eval p)).run P w = .ok v w) (hK : wpListIn F n P ops Q rest (a.put o.dst v) w) : wpListIn F n P ops Q (o :: rest) a w := by
  refine wpListIn_step fun K' hK' => ?_
  rw [if_pos hw]
  unfold Oper.wpIn
  refine ⟨by simp [Oper.about, hop], ?_⟩
  rw [Oper.semAt_plain F _ _ (by rw [hop]; intro c hc'; cases hc')]
  simp [execOp, hop, hrun, Result.andThen]
  exact hK' _ _ hK
/-- A look-up that is known, fenced. -/
theorem wpListIn_lookup_run (w : World) {ops : Array Oper} {rest : List Oper} {o : Oper} {a : Act} {Q : Exit → Act → World → Prop}
    (hw : Region.wanted o (yielded ops a.tmps) = true) (t : TypeId) (m k : Operand) (c : Bool) (hop : o.op = Op.lookup t m k c) (v : Value) (hrun : (Instr.lookup t (a.eval m) (a.eval k) c).run P w = .ok v w) (hK : wpListIn F n P ops Q rest (a.put o.dst v) w) : wpListIn F n P ops Q (o :: rest) a w := by
  refine wpListIn_step fun K' hK' => ?_
  rw [if_pos hw]
  unfold Oper.wpIn
  refine ⟨by simp [Oper.about, hop], ?_⟩
  rw [Oper.semAt_plain F _ _ (by rw [hop]; intro c hc'; cases hc')]
  simp [execOp, hop, hrun, Result.andThen]
  exact hK' _ _ hK
end
section
variable {A : Adr}
/-- The inodes that are there, up to a number, rising. -/
def eachTo (nodes : Nat → Option Rc) (k : Nat) : List (Nat × Rc) := (List.range' 1 (k - 1)).filterMap fun i => (nodes i).map fun x => (i, x)
theorem eachTo_succ (nodes : Nat → Option Rc) (k : Nat) (hk : 1 ≤ k) : eachTo nodes (k + 1) = eachTo nodes k ++ (match nodes k with | some x => [(k, x)] | none => []) := by
  unfold eachTo
  rw [show k + 1 - 1 = (k - 1) + 1 by omega, List.range'_concat, List.filterMap_append]
  congr 1
  rw [show 1 + 1 * (k - 1) = k by omega]
  cases h : nodes k <;> simp [h]
set_option maxRecDepth 100000 in
set_option maxHeartbeats 2000000 in
theorem each_in (F : Fence) (n : Nat) (hf : F.fn 30) (hro : F.round = none) (hn : 1 ≤ n) (l : Nat) (nodes : Nat → Option Rc) (hno : ∀ i x, nodes i = some x → RcOk x) (J : List (Nat × Rc) → World → Prop)
    (hJ1 : ∀ pre W, J pre W → ∃ N G s, Sim N W A G s ∧ s.nodes = nodes) (hJ2 : ∀ pre W W', J pre W → Below W.heap.size W W' → J pre W')
    (hY : ∀ pre x W, J pre W → pre = eachTo nodes x.1 → nodes x.1 = some x.2 → 1 ≤ x.1 → x.1 < countN A.n → YieldAt F (n - 1) Tryz.prog l #[.int .i64 x.1, .agg (recC x.2)] W fun e W' => e = .returned (.bool true) ∧ J (pre ++ [x]) W')
    (W : World) (h0 : J [] W) :
    CallsIn F n Tryz.prog 30 #[.pointer (some ⟨A.c, 0, none⟩), .func (.yield l) #[] #[]] W fun e W' => (∃ v, e = .returned v) ∧ J (eachTo nodes (countN A.n)) W' := by
  refine callsIn_of_wp Tryz.func30 rfl hf ?_ hro
  simp only [Tryz.ntmps30, List.size_toArray, List.length_cons, List.length_nil, Nat.reduceAdd, Nat.reduceSub, Array.replicate_succ, Array.replicate_zero, List.push_toArray, List.append_toArray, List.nil_append, List.cons_append]
  gi_wp2
  gi_loopw [4] (fun a wr => ∃ k : Nat, 1 ≤ k ∧ a = .int .i64 k ∧ (k ≤ countN A.n ∨ k = 1) ∧ J (eachTo nodes k) wr) (fun a _ => countN A.n - (intOf a).toNat)
  case atStart => exact ⟨1, Nat.le_refl _, rfl, .inr rfl, h0⟩
  case round =>
    obtain ⟨k, hk1, rfl, hkc, hJ⟩ := hrel
    obtain ⟨N, G, s, hS, hsn⟩ := hJ1 _ _ hJ
    obtain ⟨p0, p1, p2, p3, p4, p5, p6⟩ := chk_cells hS
    obtain ⟨m7, _⟩ := chk_maps hS
    have hn2 := hS.n2
    have hcn : countN A.n ≤ 2048 := by unfold countN; omega
    by_cases c : k < countN A.n
    · have hci : (k : Int) < (countN A.n : Int) := by omega
      have hvI : vI k := by unfold vI; omega
      have hlk := (hS.nodes (by decide)).look_ok Fs.kI (t := 65) Tryz.underlying65 (zvR wr) (x := k) hvI (kyI hvI)
      rw [hsn] at hlk
      have hsu := Lib.hid (eachTo_succ nodes k hk1)
      cases hnk : nodes k with
      | none =>
        rw [hnk] at hlk
        replace hlk : (Instr.lookup 65 (.map (some A.nodes)) (.int .i64 k) true).run Tryz.prog wr = .ok (.tuple #[.agg (Array.replicate 15 (.int .i64 0)), .bool false]) wr := hlk
        have hstn := store_new wr 74 (Array.replicate 15 (.int .i64 0)) (Array.replicate 15 (.int .i64 0)) (by kernel_rfl) rfl (natC_one (List.replicate 15 0))
        have hJ' := Lib.hid (hJ2 _ _ _ hJ ((Below.refl _ wr).alloc (Nat.le_refl _) (.cells (Array.replicate 15 (.int .i64 0)) 74)))
        have hsu' := Lib.hid (show eachTo nodes (k + 1) = eachTo nodes k by rw [hsu.out, hnk]; simp)
        clear hJ hS hsn hnk
        gi_wp2_with (first | (refine wpListIn_lookup_run _ rfl 65 (.tmp 20) (.tmp 21) true rfl _ hlk ?_) | (refine wpListIn_store_run _ rfl (.tmp 5) (.tmp 23) 74 rfl _ hstn ?_))
        refine ⟨fun f hf' => (by cases hf'), ?_⟩
        gi_wp2
        go_roundw
        case rel => exact ⟨k + 1, by omega, rfl, .inl (by omega), by rw [hsu'.out]; exact hJ'.out⟩
        case measure => simp only [intOf]; omega
      | some x =>
        rw [hnk] at hlk
        replace hlk : (Instr.lookup 65 (.map (some A.nodes)) (.int .i64 k) true).run Tryz.prog wr = .ok (.tuple #[.agg (recC x), .bool true]) wr := hlk
        have hxz := (hno k x hnk).csize
        have hstn := store_new wr 74 (Array.replicate 15 (.int .i64 0)) (recC x) (by rw [hxz]; kernel_rfl) (by rw [hxz]; rfl) (natC_one _)
        have hld := load_str (ty := 74) (Blk.new wr (recC x) 74) (by exact Tryz.underlying74) (by rw [hxz]; kernel_rfl)
        have hJ' := hJ2 _ _ _ hJ ((Below.refl _ wr).alloc (Nat.le_refl _) (.cells (recC x) 74))
        obtain ⟨fn, tmps, assign, body, hy, hRd⟩ := hY _ (k, x) _ hJ' rfl hnk hk1 c
        have hsu' := Lib.hid (show eachTo nodes (k + 1) = eachTo nodes k ++ [(k, x)] by rw [hsu.out, hnk])
        dsimp only at hy
        generalize recC x = C at *
        clear hJ hS hsn hnk hJ' hxz
        gi_wp2_with (first | (refine wpListIn_lookup_run _ rfl 65 (.tmp 20) (.tmp 21) true rfl _ hlk ?_) | (refine wpListIn_store_run _ rfl (.tmp 5) (.tmp 23) 74 rfl _ hstn ?_) | (refine wpListIn_load_when _ rfl (.tmp 5) 74 rfl _ hld ?_))
        refine hRd.mono ?_
        rintro e W3 ⟨rfl, hJ3⟩
        gi_wp2
        go_roundw
        case rel => exact ⟨k + 1, by omega, rfl, .inl (by omega), by rw [hsu'.out]; exact hJ3⟩
        case measure => simp only [intOf]; omega
    · have hci : ¬ (k : Int) < (countN A.n : Int) := by omega
      have hc2 : 2 ≤ countN A.n := by have := hS.n1; unfold countN; omega
      have hkk : k = countN A.n := by omega
      gi_wp2
      go_end0
      exact ⟨⟨_, rfl⟩, by rw [← hkk]; exact hJ⟩
end
end Ck
end Go.Proofs.YtegplehbcdeeoaaGreatDoor
/- A range over a method's value, whose body always comes to its end. -/
namespace Go.Proofs.YtegplehbcdeeoaaGreatDoor
open Go.RowKit Go.Maps

namespace Ck
open Pk Pw
section
variable {F : Fence} {n : Nat} {P : Program}
/-- How a round's body ends: at its end, the loop's own blocks as they were. -/
def Ends {α : Type} (B : Nat) (I : List α → World → Prop) (xs : List α) (W : World) (e : Exit) (_ : Act) (W' : World) : Prop := e = .normal ∧ KeepsFrom B W W' ∧ I xs W'
theorem below_stays {α : Type} {B : Nat} {I : List α → World → Prop} (hI : OwnFrom B I) {pre : List α} {W W' : World} (h : I pre W) (hb : Below W.heap.size W W') : I pre W' :=
  hI pre W W' none h ⟨hb.os, hb.tape, hb.output, hb.size, fun k hk _ => hb.block k hk⟩ (fun r e => by cases e)
theorem wpIn_range_bound {α : Type} {g : Operand} {ps : Array Tmp} {assign body : Code} {Q : Exit → Act → World → Prop} {a : Act} {w : World}
    (hro : F.round = none) (h1 : 1 ≤ n) {gf : Nat} {rv : Value} (hg : a.eval g = .func (.func gf) #[rv] #[]) (hFg : F.fn gf) (eg : ∀ args w, (callFunc gf args).run P w = .ok (.enter gf args) w)
    (encs : α → Array Value) (hps : ∀ x, (encs x).size = ps.size) (xs : List α) (ok : List α → α → Prop) (I : List α → World → Prop) (hI : OwnFrom w.heap.size I) (h0 : I [] w)
    (hcall : ∀ (l : Nat) (J : List α → World → Prop) (W : World), (∀ pre W', J pre W' → I pre W') → (∀ pre W1 W2, J pre W1 → Below W1.heap.size W1 W2 → J pre W2) →
      (∀ pre x W1, J pre W1 → ok pre x → YieldAt F (n - 1 - 1) P l (encs x) W1 fun e W' => e = .returned (.bool true) ∧ J (pre ++ [x]) W') → J [] W →
      CallsIn F (n - 1) P gf #[rv, .func (.yield l) #[] #[]] W fun e W' => (∃ v, e = .returned v) ∧ J xs W')
    (a₁ : α → Act) (hassign : ∀ (l : Nat) (x : α) (W : World) (K : Act → World → Prop), K (a₁ x) W →
      assign.wpIn (F.inRound l) (n - 1 - 1) P (Exit.then K (fun _ _ _ => False)) { tmps := (ps.zip (encs x)).foldl (fun t (p, v) => t.setIfInBounds p v) a.tmps, defers := [] } W)
    (hbody : ∀ (l : Nat) (pre : List α) (x : α) (W : World), I pre W → ok pre x → w.heap.size ≤ W.heap.size → body.wpIn (F.inRound l) (n - 1 - 1) P (Ends w.heap.size I (pre ++ [x]) W) (a₁ x) W)
    (hdone : ∀ (D : Nat) (W : World), w.heap.size ≤ D → I xs W → W.heap[D]? = some (.deferred (some [])) → Q .normal { a with defers := { target := .collected D, args := #[] } :: a.defers } W) :
    (Code.rangeFunc g ps assign body).wpIn F n P Q a w := by
  refine wpIn_rangeFunc fun fn hfn => ?_
  rw [hro]
  obtain ⟨rec, hrec⟩ : ∃ rec : LoopState → Loop, rec = fun st => { state := st, pending := none, fn, tmps := a.tmps, params := ps, assign, body, defers := w.heap.size } := ⟨_, rfl⟩
  obtain ⟨W1, hW1⟩ : ∃ W1, (w.alloc (.deferred (some []))).alloc (.loop (rec .ready)) = W1 := ⟨_, rfl⟩
  have hl1 : W1.heap[w.heap.size + 1]? = some (.loop (rec .ready)) := by
    rw [← hW1]
    have := World.alloc_heap_new (w.alloc (.deferred (some []))) (.loop (rec .ready))
    rwa [World.size_alloc] at this
  have hd1 : W1.heap[w.heap.size]? = some (.deferred (some [])) := by
    rw [← hW1]
    exact (Below.heap_alloc _ _ _ (by simp)).trans (World.alloc_heap_new w _)
  have hi1 : I [] W1 := by rw [← hW1]; exact hI.alloc _ (hI.alloc _ h0)
  refine ⟨w.heap.size + 1, [{ target := .collected w.heap.size, args := #[] }], W1, { target := .fn (.func gf) #[], args := #[rv, .func (.yield (w.heap.size + 1)) #[] #[]] }, W1, gf, #[rv, .func (.yield (w.heap.size + 1)) #[] #[]], W1, ?_, ?_, ?_, ?_, fun _ => h1, ?_⟩
  · rw [← hW1, hrec]; exact run_enterLoop_outer _ _ _ _ _
  · simp only [resolve, hg]
    simp [go_sem]
  · intro f' hf'; simp [Target.leads] at hf'; subst hf'; exact hFg
  · simp [invoke, go_sem, eg]
  · refine (hcall (w.heap.size + 1) (fun pre W => I pre W ∧ W.heap[w.heap.size + 1]? = some (.loop (rec .ready)) ∧ W.heap[w.heap.size]? = some (.deferred (some []))) W1 (fun _ _ h => h.1)
      (fun pre A B h hb => ⟨below_stays hI h.1 hb, (hb.block _ (Array.getElem?_eq_some_iff.1 h.2.1).1).trans h.2.1, (hb.block _ (Array.getElem?_eq_some_iff.1 h.2.2).1).trans h.2.2⟩) ?_ ⟨hi1, hl1, hd1⟩).mono ?_
    · rintro pre x W ⟨hi, hl, hd⟩ hok
      have hlt : w.heap.size + 1 < W.heap.size := (Array.getElem?_eq_some_iff.1 hl).1
      have hy := run_yield (P := P) (args := encs x) hl (by rw [hrec]; exact hps x)
      rw [hrec] at hy
      obtain ⟨V, hV⟩ : ∃ V, W.putObj (w.heap.size + 1) (.loop { rec .ready with state := .busy }) = V := ⟨_, rfl⟩
      have hlV : V.heap[w.heap.size + 1]? = some (.loop { rec .ready with state := .busy }) := by rw [← hV]; exact World.putObj_heap_same hlt
      have hdV : V.heap[w.heap.size]? = some (.deferred (some [])) := by rw [← hV]; exact (World.putObj_heap_other (by omega)).trans hd
      have hiV : I pre V := by rw [← hV]; exact hI.putObj _ hi (by omega) hl rfl
      have hsV : w.heap.size ≤ V.heap.size := by rw [← hV]; simp; omega
      refine ⟨fn, _, assign, body, hy, roundIn_of_wpIn hfn (hassign _ x W _ ⟨V, by rw [← hV]; exact run_beginRound hl (by rw [hrec]), ?_⟩)⟩
      refine wpIn_mono (hbody _ pre x V hiV hok hsV) ?_
      rintro e a3 W3 ⟨rfl, hk3, hi3⟩
      have hl3 := hk3.same _ _ (by omega) hlV rfl
      have hd3 := hk3.same _ _ (Nat.le_refl _) hdV rfl
      have hr := run_endRound (P := P) none hl3
      refine ⟨_, _, hr, rfl, hI.putObj _ hi3 (by omega) hl3 rfl, ?_, (World.putObj_heap_other (by omega)).trans hd3⟩
      rw [World.putObj_heap_same (Array.getElem?_eq_some_iff.1 hl3).1, hrec]
      rfl
    · rintro e W2 ⟨⟨v, rfl⟩, hi, hl, hd⟩
      refine ⟨none, _, by have := run_endLoop (P := P) hl (by rw [hrec]; simp); rw [hrec] at this; exact this, hdone _ _ (Nat.le_refl _) (hI.putObj _ hi (by omega) hl rfl) ((World.putObj_heap_other (by omega)).trans hd)⟩
end
end Ck
end Go.Proofs.YtegplehbcdeeoaaGreatDoor
/- Directories: what is found out of one, entry by entry; the two maps beside the checker. -/
namespace Go.Proofs.YtegplehbcdeeoaaGreatDoor
open Go.RowKit Go.Maps

namespace Ck
open Pk Pw
/-- What is known, with the names that are there and the inodes that were named. -/
structure Dt where
  s : St
  there : Nat × B → Option Nat
  parents : Nat → Option Nat
def fndN (kind inode : Nat) (name : B) : Fnd := ⟨kind, inode, 0, name⟩
/-- By so many cells an inode is named, at most. -/
def NamesOk (N : Nat) (s : St) : Prop := ∀ i v, s.names i = some v → v ≤ N
/-- What an entry's inode says. -/
def kindS (nd : Nat) (d : Dt) (s2 : St) (nm : B) (ino : Nat) : St :=
  match s2.nodes ino with
  | none => s2.tell (fndN 12 nd nm)
  | some y => if y.kind ≠ 2 then s2 else if ino = 1 ∨ 0 < (d.parents ino).getD 0 then s2.tell (fndN 13 ino nm) else s2
def noteS (nd : Nat) (s : St) (nm : B) (ino : Nat) : St :=
  { s with cells := fun j => if j = nd then s.cells nd ++ [(nm, ino)] else s.cells j, names := fun j => if j = ino then some ((s.names ino).getD 0 + 1) else s.names j }
/-- An entry. -/
def entS (nd : Nat) (d : Dt) (e : Ent) : Dt :=
  let s1 := noteS nd d.s e.2.1 e.2.2
  let s2 := if 0 < (d.there (nd, e.2.1)).getD 0 then s1.tell (fndN 11 nd e.2.1) else s1
  ⟨kindS nd d s2 e.2.1 e.2.2, fun p => if p = (nd, e.2.1) then some 1 else d.there p, fun i => if i = e.2.2 then some 1 else d.parents i⟩
/-- A directory's block: what is known then; whether no further block is looked at. -/
def dirB (l : B) (nd : Nat) (d : Dt) (k : Nat) : Dt × Bool :=
  match d.s.blocks (nd, k) with
  | none => ({ d with s := d.s.tell (fnd 10 nd 0) }, true)
  | some i =>
    match slotsP (sub l (512 * i) 512) with
    | none => ({ d with s := d.s.tell (fnd 10 nd i) }, false)
    | some r => (r.foldl (entS nd) d, false)
def dirGo (l : B) (nd : Nat) : List Nat → Dt → Dt
  | [], d => d
  | k :: r, d => if (dirB l nd d k).2 then (dirB l nd d k).1 else dirGo l nd r (dirB l nd d k).1
/-- A directory. -/
def dirS (l : B) (nd size : Nat) (d : Dt) : Dt := dirGo l nd (List.range (size / 512)) d
theorem range_from (m k : Nat) (hk : k < m) : List.range' k (m - k) = k :: List.range' (k + 1) (m - (k + 1)) := by
  rw [show m - k = (m - (k + 1)) + 1 by omega, List.range'_succ]
section
variable {W W' W'' : World} {A : Adr} {G G' G'' : Gh} {s : St} {N N' : Nat} {tB pB : Nat} {d : Dt}
/-- The checker's data, and the two maps beside them. -/
structure SimD (N : Nat) (W : World) (A : Adr) (G : Gh) (tB pB : Nat) (d : Dt) : Prop where
  sim : Sim N W A G d.s
  there : MapN W tB N d.there
  parents : MapI iv W pB N d.parents
  wT : G.who tB = .other
  wP : G.who pB = .other
  ne : tB ≠ pB
  bT : A.base ≤ tB
  bP : A.base ≤ pB
/-- What belongs to others, but for the two maps, is as it was. -/
structure StpD (tB pB : Nat) (W : World) (G : Gh) (W' : World) (G' : Gh) : Prop where
  os : W'.os = W.os
  tape : W'.tape = W.tape
  output : W'.output = W.output
  size : W.heap.size ≤ W'.heap.size
  who : ∀ b, b < W.heap.size → G.who b = .other → G'.who b = .other
  block : ∀ b, b < W.heap.size → G.who b = .other → b ≠ tB → b ≠ pB → W'.heap[b]? = W.heap[b]?
  cw : ∀ B, Cw B W G → Cw B W' G'
theorem StpD.trans (h : StpD tB pB W G W' G') (k : StpD tB pB W' G' W'' G'') : StpD tB pB W G W'' G'' :=
  ⟨k.os.trans h.os, k.tape.trans h.tape, k.output.trans h.output, Nat.le_trans h.size k.size, fun b hb e => k.who b (Nat.lt_of_lt_of_le hb h.size) (h.who b hb e),
    fun b hb e e1 e2 => (k.block b (Nat.lt_of_lt_of_le hb h.size) (h.who b hb e) e1 e2).trans (h.block b hb e e1 e2), fun B c => k.cw B (h.cw B c)⟩
theorem Stp.toD (h : Stp W G W' G') : StpD tB pB W G W' G' := ⟨h.os, h.tape, h.output, h.size, h.who, fun b h1 h2 _ _ => h.block b h1 h2, h.cw⟩
theorem StpD.refl (tB pB : Nat) (W : World) (G : Gh) : StpD tB pB W G W G := (Stp.refl W G).toD
theorem SimD.mono (h : SimD N W A G tB pB d) (hN : N ≤ N') : SimD N' W A G tB pB d := { h with sim := h.sim.mono hN, there := h.there.mono hN, parents := h.parents.mono hN }
theorem SimD.step (h : SimD N W A G tB pB d) {s' : St} (h2 : Sim N' W' A G' s') (t : Stp W G W' G') (hN : N ≤ N') : SimD N' W' A G' tB pB { d with s := s' } :=
  ⟨h2, (h.there.mono hN).same (t.block _ h.there.lt h.wT), (h.parents.mono hN).same (t.block _ h.parents.lt h.wP), t.who _ h.there.lt h.wT, t.who _ h.parents.lt h.wP, h.ne, h.bT, h.bP⟩
theorem SimD.below (h : SimD N W A G tB pB d) (hb : Below W.heap.size W W') : SimD N W' A G tB pB d := h.step (h.sim.below hb) (Stp.of_below hb) (Nat.le_refl _)
theorem SimD.putThere (h : SimD N W A G tB pB d) {f : Nat × B → Option Nat} (hm : MapN W' tB (N + 1) f) (hg : W.grownBy W' (some tB)) : SimD (N + 1) W' A G tB pB { d with there := f } ∧ StpD tB pB W G W' G :=
  ⟨⟨(h.sim.beside hg.size hg.os hg.tape hg.output h.bT h.wT fun b h1 h2 => hg.block b h1 (fun e => h2 (by cases e; rfl))).mono (Nat.le_succ _), hm, (h.parents.mono (Nat.le_succ _)).same (hg.block _ h.parents.lt (fun e => h.ne (by cases e; rfl))), h.wT, h.wP, h.ne, h.bT, h.bP⟩,
    ⟨hg.os, hg.tape, hg.output, hg.size, fun _ _ e => e, fun b h1 _ h3 _ => hg.block b h1 (fun e => h3 (by cases e; rfl)), fun _ c b hB hw => by
      obtain ⟨cs, t, fr, e⟩ := c b hB hw
      exact ⟨cs, t, fr, (hg.block b (lt_of_block e) (fun e2 => by cases e2; exact h.there.not_cells _ _ _ e)).trans e⟩⟩⟩
theorem SimD.putParents (h : SimD N W A G tB pB d) {f : Nat → Option Nat} (hm : MapI iv W' pB (N + 1) f) (hg : W.grownBy W' (some pB)) : SimD (N + 1) W' A G tB pB { d with parents := f } ∧ StpD tB pB W G W' G :=
  ⟨⟨(h.sim.beside hg.size hg.os hg.tape hg.output h.bP h.wP fun b h1 h2 => hg.block b h1 (fun e => h2 (by cases e; rfl))).mono (Nat.le_succ _), (h.there.mono (Nat.le_succ _)).same (hg.block _ h.there.lt (fun e => h.ne (by cases e; rfl))), hm, h.wT, h.wP, h.ne, h.bT, h.bP⟩,
    ⟨hg.os, hg.tape, hg.output, hg.size, fun _ _ e => e, fun b h1 _ _ h3 => hg.block b h1 (fun e => h3 (by cases e; rfl)), fun _ c b hB hw => by
      obtain ⟨cs, t, fr, e⟩ := c b hB hw
      exact ⟨cs, t, fr, (hg.block b (lt_of_block e) (fun e2 => by cases e2; exact h.parents.not_cells _ _ _ e)).trans e⟩⟩⟩
theorem entsV_get {l : List Ent} {i : Nat} {c : Ent} (h : l[i]? = some c) : (entsV l)[i * 3]? = some (.int .i64 c.1) ∧ (entsV l)[i * 3 + 1]? = some (.string (mk c.2.1)) ∧ (entsV l)[i * 3 + 2]? = some (.int .i64 c.2.2) := by
  induction l generalizing i with
  | nil => simp at h
  | cons x t ih =>
    have e : entsV (x :: t) = .int .i64 x.1 :: .string (mk x.2.1) :: .int .i64 x.2.2 :: entsV t := rfl
    rw [e]
    cases i with
    | zero => simp at h; subst h; exact ⟨rfl, rfl, rfl⟩
    | succ i =>
      have := ih (i := i) (by simpa using h)
      rw [show (i + 1) * 3 = i * 3 + 1 + 1 + 1 by omega]
      simp only [List.getElem?_cons_succ]
      exact this
theorem slot_mem {l : B} {r : List Ent} (h : slotsP l = some r) {e : Ent} (he : e ∈ r) : e.2.2 < 4294967296 ∧ e.2.1.length ≤ 27 ∧ e.2.2 ≠ 0 := by
  unfold slotsP at h
  split at h
  · cases h
    unfold slotTo at he
    rw [List.mem_filterMap] at he
    obtain ⟨j, _, hj⟩ := he
    split at hj
    · cases hj
    · rename_i hne
      cases hj
      exact ⟨(rdP_lt _).1, (rdP_lt _).2, hne⟩
  · cases h
theorem kindS_keeps (nd : Nat) (d : Dt) (s2 : St) (nm : B) (ino : Nat) : (kindS nd d s2 nm ino).nodes = s2.nodes ∧ (kindS nd d s2 nm ino).blocks = s2.blocks := by
  unfold kindS
  split
  · exact ⟨rfl, rfl⟩
  · split
    · exact ⟨rfl, rfl⟩
    · split <;> exact ⟨rfl, rfl⟩
theorem entS_keeps (nd : Nat) (d : Dt) (e : Ent) : (entS nd d e).s.nodes = d.s.nodes ∧ (entS nd d e).s.blocks = d.s.blocks := by
  unfold entS
  have := kindS_keeps nd d (if 0 < (d.there (nd, e.2.1)).getD 0 then (noteS nd d.s e.2.1 e.2.2).tell (fndN 11 nd e.2.1) else noteS nd d.s e.2.1 e.2.2) e.2.1 e.2.2
  refine ⟨this.1.trans ?_, this.2.trans ?_⟩ <;> split <;> rfl
theorem fold_keeps (nd : Nat) : ∀ (l : List Ent) (d : Dt), (l.foldl (entS nd) d).s.nodes = d.s.nodes ∧ (l.foldl (entS nd) d).s.blocks = d.s.blocks
  | [], _ => ⟨rfl, rfl⟩
  | e :: l, d => by
    have h1 := entS_keeps nd d e
    have h2 := fold_keeps nd l (entS nd d e)
    exact ⟨h2.1.trans h1.1, h2.2.trans h1.2⟩
theorem fold_take (nd : Nat) (r : List Ent) (d : Dt) (j : Nat) (e : Ent) (h : r[j]? = some e) : (r.take (j + 1)).foldl (entS nd) d = entS nd ((r.take j).foldl (entS nd) d) e := by
  rw [List.take_add_one, h, List.foldl_append]
  rfl
end
end Ck
end Go.Proofs.YtegplehbcdeeoaaGreatDoor
/- What a round over the inodes keeps. -/
namespace Go.Proofs.YtegplehbcdeeoaaGreatDoor
open Go.RowKit Go.Maps

namespace Ck
open Pk Pw
section
variable {W W' w0 : World} {A : Adr} {G G' G0 : Gh} {s : St} {N : Nat}
/-- The checker's data, since the loop began. -/
def InL (w0 : World) (G0 : Gh) (A : Adr) (N : Nat) (s : St) (W : World) : Prop := ∃ G, Sim N W A G s ∧ Stp w0 G0 W G ∧ Cw w0.heap.size W G
theorem Cw.start (h : Sim N W A G s) : Cw W.heap.size W G := fun _ hb hw => absurd (h.other_of (.inl hb)) hw
theorem InL.start (h : Sim N w0 A G0 s) : InL w0 G0 A N s w0 := ⟨G0, h, Stp.refl _ _, Cw.start h⟩
theorem cw_other {B : Nat} (hc : Cw B W G) {r : Nat} (hr : B ≤ r) {o : Obj} (ho : W.heap[r]? = some o) (hn : o.isCells = false) : G.who r = .other := by
  apply Classical.byContradiction
  intro c
  obtain ⟨cs, t, fr, e⟩ := hc r hr c
  rw [ho] at e
  cases e
  cases hn
theorem InL.grown (h : InL w0 G0 A N s W) {row : Option Nat} (hg : W.grownBy W' row) (hr : ∀ r, row = some r → w0.heap.size ≤ r ∧ ∃ o : Obj, W.heap[r]? = some o ∧ o.isCells = false) (hb0 : A.base ≤ w0.heap.size) : InL w0 G0 A N s W' := by
  obtain ⟨G, hS, hT, hC⟩ := h
  cases row with
  | none =>
    have hb : Below W.heap.size W W' := ⟨hg.os, hg.tape, hg.output, hg.size, fun k hk => hg.block k hk (fun e => by cases e)⟩
    exact ⟨G, hS.below hb, hT.trans (Stp.of_below hb), (Stp.of_below (G := G) hb).cw _ hC⟩
  | some r =>
    obtain ⟨hB, o, ho, hn⟩ := hr r rfl
    have hw := cw_other hC hB ho hn
    have hk : ∀ b, b < W.heap.size → b ≠ r → W'.heap[b]? = W.heap[b]? := fun b hb hne => hg.block b hb (fun e => hne (by cases e; rfl))
    refine ⟨G, hS.beside hg.size hg.os hg.tape hg.output (Nat.le_trans hb0 hB) hw hk, ?_, ?_⟩
    · exact ⟨hg.os.trans hT.os, hg.tape.trans hT.tape, hg.output.trans hT.output, Nat.le_trans hT.size hg.size, hT.who, fun b hb e => (hk b (Nat.lt_of_lt_of_le hb hT.size) (by omega)).trans (hT.block b hb e), fun B c b hB' hw' => by
        obtain ⟨cs, t, fr, e⟩ := hT.cw B c b hB' hw'
        have hne : b ≠ r := fun e2 => by subst e2; exact hw' hw
        exact ⟨cs, t, fr, (hk b (lt_of_block e) hne).trans e⟩⟩
    · intro b hb hw'
      obtain ⟨cs, t, fr, e⟩ := hC b hb hw'
      have hne : b ≠ r := fun e2 => by subst e2; exact hw' hw
      exact ⟨cs, t, fr, (hk b (lt_of_block e) hne).trans e⟩
theorem inL_own {α : Type} (Nf : List α → Nat) (f : List α → St) (hb0 : A.base ≤ w0.heap.size) : OwnFrom w0.heap.size (fun (pre : List α) W => InL w0 G0 A (Nf pre) (f pre) W) :=
  fun _ _ _ _ h hg hr => h.grown hg hr hb0
theorem keeps_of (hc : Cw w0.heap.size W G) (t : Stp W G W' G') : KeepsFrom w0.heap.size W W' :=
  ⟨t.size, fun k _ hk ho hn => (t.block k (Array.getElem?_eq_some_iff.1 ho).1 (cw_other hc hk ho hn)).trans ho⟩
theorem InL.go {N' : Nat} {s' : St} (hT : Stp w0 G0 W G) (hC : Cw w0.heap.size W G) (h2 : Sim N' W' A G' s') (t : Stp W G W' G') : InL w0 G0 A N' s' W' := ⟨G', h2, hT.trans t, t.cw _ hC⟩
/-- A call of a walk's, fenced. -/
theorem callsIn_of {F : Fence} {n : Nat} {P : Program} {f : FuncId} {args : Array Value} {w : World} {R : Ending → World → Prop} (hF : F = Fence.wide) (h : Calls P f args w R) : CallsIn F n P f args w R := by
  subst hF
  exact callsIn_wide.2 h
end
end Ck
end Go.Proofs.YtegplehbcdeeoaaGreatDoor
/- The checker tells the names that lie too deep. -/
namespace Go.Proofs.YtegplehbcdeeoaaGreatDoor
open Go.RowKit Go.Maps

attribute [local go_sem] Oper.semAt_some
namespace Ck
open Pk Pw
section
variable {W : World} {A : Adr} {G : Gh} {s : St} {N : Nat}
/-- A directory's names, told. -/
def deepNames (k : Nat) (l : List Cl) (s : St) : St := l.foldl (fun s c => s.tell (fndN 16 k c.1)) s
def deep1 (s : St) (x : Nat × Rc) : St :=
  match s.depth x.1 with
  | none => s
  | some d => if d < 32 then s else deepNames x.1 (s.cells x.1) s
def deepS (n : Nat) (s : St) : St := (eachTo s.nodes (countN n)).foldl deep1 s
theorem deepNames_keeps (k : Nat) : ∀ (l : List Cl) (s : St), (deepNames k l s).nodes = s.nodes ∧ (deepNames k l s).cells = s.cells ∧ (deepNames k l s).depth = s.depth
  | [], _ => ⟨rfl, rfl, rfl⟩
  | c :: l, s => deepNames_keeps k l (s.tell (fndN 16 k c.1))
theorem deep1_keeps (s : St) (x : Nat × Rc) : (deep1 s x).nodes = s.nodes ∧ (deep1 s x).cells = s.cells ∧ (deep1 s x).depth = s.depth := by
  unfold deep1
  split
  · exact ⟨rfl, rfl, rfl⟩
  · split
    · exact ⟨rfl, rfl, rfl⟩
    · exact deepNames_keeps _ _ _
theorem deepF_keeps : ∀ (l : List (Nat × Rc)) (s : St), (l.foldl deep1 s).nodes = s.nodes ∧ (l.foldl deep1 s).cells = s.cells ∧ (l.foldl deep1 s).depth = s.depth
  | [], _ => ⟨rfl, rfl, rfl⟩
  | x :: l, s => by
    have h1 := deep1_keeps s x
    have h2 := deepF_keeps l (deep1 s x)
    exact ⟨h2.1.trans h1.1, h2.2.1.trans h1.2.1, h2.2.2.trans h1.2.2⟩
theorem deepNames_take (k : Nat) (l : List Cl) (s : St) (j : Nat) (e : Cl) (h : l[j]? = some e) : deepNames k (l.take (j + 1)) s = (deepNames k (l.take j) s).tell (fndN 16 k e.1) := by
  unfold deepNames
  rw [List.take_add_one, h, List.foldl_append]
  rfl
theorem eachTo_len (nodes : Nat → Option Rc) (k : Nat) : (eachTo nodes k).length ≤ k := by
  unfold eachTo
  exact Nat.le_trans (List.length_filterMap_le _ _) (by simp)
set_option maxRecDepth 100000 in
set_option maxHeartbeats 4000000 in
theorem deep_any (h : Sim N W A G s) (hno : NodesOk s) (hcl : ∀ k, (s.cells k).length ≤ 300000) (hN : N ≤ 100000000000) : Calls Tryz.prog 35 #[.pointer (some ⟨A.c, 0, none⟩)] W
    fun e W' => (∃ v, e = .returned v) ∧ ∃ G', Sim (N + 300000 * 2048) W' A G' (deepS A.n s) ∧ Stp W G W' G' := by
  refine (callsIn_wide (n := 4)).1 ?_
  refine callsIn_of_wp_marks Tryz.func35 rfl trivial ?_ rfl
  simp only [Tryz.ntmps35, List.size_toArray, List.length_cons, List.length_nil, Nat.reduceAdd, Nat.reduceSub, Array.replicate_succ, Array.replicate_zero, List.push_toArray, List.append_toArray, List.nil_append, List.cons_append]
  gi_wp2
  have hb0 := (Below.refl W.heap.size W).alloc (Nat.le_refl _) (.cells #[.pointer (some ⟨A.c, 0, none⟩)] 64)
  have hS0 := h.below hb0
  have hbox := Blk.new W #[.pointer (some ⟨A.c, 0, none⟩)] 64
  have hbw : G.who W.heap.size = .other := h.other_of (.inl (Nat.le_refl _))
  have hT0 := Stp.of_below (G := G) hb0
  generalize W.alloc (.cells #[.pointer (some ⟨A.c, 0, none⟩)] 64) = w0 at *
  have hcn : countN A.n ≤ 2048 := by have := h.n2; unfold countN; omega
  refine wpIn_range_bound (F := Fence.wide) (α := Nat × Rc) rfl (by omega) (gf := 30) (rv := .pointer (some ⟨A.c, 0, none⟩)) rfl trivial (enters_of Tryz.func30 (by kernel_rfl) rfl)
    (fun x => #[.int .i64 x.1, .agg (recC x.2)]) (fun _ => rfl) (eachTo s.nodes (countN A.n)) (fun pre x => pre = eachTo s.nodes x.1 ∧ s.nodes x.1 = some x.2 ∧ 1 ≤ x.1 ∧ x.1 < countN A.n)
    (fun pre V => InL w0 G A (N + 300000 * pre.length) (pre.foldl deep1 s) V) (inL_own _ _ hS0.base) (InL.start (by simpa using hS0)) ?_
    (fun x => { tmps := #[.pointer (some ⟨A.c, 0, none⟩), .pointer (some ⟨W.heap.size, 0, none⟩), .int .i64 x.1, undef, undef, undef, undef, .pointer (some ⟨A.c, 0, none⟩), .func (.func 30) #[.pointer (some ⟨A.c, 0, none⟩)] #[], .int .i64 x.1, .agg (recC x.2), undef, undef, undef, undef, undef, undef, undef, undef, undef, undef, undef, undef, undef, undef, undef, undef, undef, undef, undef, undef, undef, undef, undef, undef, undef, undef, undef, undef, undef, undef, undef, undef, undef], defers := [] }) ?_ ?_ ?_
  · intro l J V hJI hJb hY hJ0
    exact each_in Fence.wide 3 trivial rfl (by omega) l s.nodes hno J (fun pre V' hj => by
      obtain ⟨G1, k1, _⟩ := hJI pre V' hj
      exact ⟨_, G1, _, k1, (deepF_keeps pre s).1⟩) hJb (fun pre x W1 hj hp hn h1 hc => hY pre x W1 hj ⟨hp, hn, h1, hc⟩) V hJ0
  · intro l x V K hK
    gi_wp2
    exact hK
  · rintro l pre x V ⟨G1, hS, hT, hC⟩ ⟨hp, hn, h1, hc⟩ hsz
    obtain ⟨i, y⟩ := x
    dsimp only at hp hn h1 hc
    have hpl : pre.length ≤ 2048 := by rw [hp]; exact Nat.le_trans (eachTo_len _ _) (by omega)
    replace hp := Lib.hid hp
    have hbx := hbox.same (hT.block _ hbox.lt hbw)
    have b0 := hbx.cell 0
    have hbw1 : G1.who W.heap.size = .other := hT.who _ hbox.lt hbw
    have hk := deepF_keeps pre s
    obtain ⟨m7, m8, m9, m10, m11, m12, m13⟩ := chk_maps hS
    have hvI : vI i := by unfold vI; omega
    have hlk := (hS.depth (by decide)).look_ok Fs.kI (t := 66) Tryz.underlying66 (zvI V) (x := i) hvI (kyI hvI)
    have hf1 : (pre ++ [(i, y)]).foldl deep1 s = deep1 (pre.foldl deep1 s) (i, y) := by rw [List.foldl_append]; rfl
    rw [hk.2.2] at hlk
    cases hdp : s.depth i with
    | none =>
      rw [hdp] at hlk
      replace hlk : (Instr.lookup 66 (.map (some A.depth)) (.int .i64 i) true).run Tryz.prog V = .ok (.tuple #[.int .i64 0, .bool false]) V := hlk
      have hf2 := Lib.hid (show (pre ++ [(i, y)]).foldl deep1 s = pre.foldl deep1 s by rw [hf1]; simp only [deep1, hk.2.2, hdp])
      have hE := Lib.hid (show InL w0 G A (N + 300000 * (pre ++ [(i, y)]).length) (pre.foldl deep1 s) V from ⟨G1, hS.mono (by simp; omega), hT, hC⟩)
      clear hS hT hC hf1
      gi_wp2_with (refine wpListIn_lookup_run _ rfl 66 (.tmp 15) (.tmp 16) true rfl _ hlk ?_)
      exact ⟨rfl, KeepsFrom.refl _ _, by show InL w0 G A _ ((pre ++ [(i, y)]).foldl deep1 s) V; rw [hf2.out]; exact hE.out⟩
    | some d =>
      rw [hdp] at hlk
      replace hlk : (Instr.lookup 66 (.map (some A.depth)) (.int .i64 i) true).run Tryz.prog V = .ok (.tuple #[.int .i64 d, .bool true]) V := hlk
      by_cases hd : d < 32
      · have hd' : (d : Int) < 32 := by omega
        have hf2 := Lib.hid (show (pre ++ [(i, y)]).foldl deep1 s = pre.foldl deep1 s by rw [hf1]; simp only [deep1, hk.2.2, hdp, if_pos hd])
        have hE := Lib.hid (show InL w0 G A (N + 300000 * (pre ++ [(i, y)]).length) (pre.foldl deep1 s) V from ⟨G1, hS.mono (by simp; omega), hT, hC⟩)
        clear hS hT hC hf1
        gi_wp2_with (refine wpListIn_lookup_run _ rfl 66 (.tmp 15) (.tmp 16) true rfl _ hlk ?_)
        exact ⟨rfl, KeepsFrom.refl _ _, by show InL w0 G A _ ((pre ++ [(i, y)]).foldl deep1 s) V; rw [hf2.out]; exact hE.out⟩
      · have hd' : ¬ (d : Int) < 32 := by omega
        have hf2 := Lib.hid (show (pre ++ [(i, y)]).foldl deep1 s = deepNames i (s.cells i) (pre.foldl deep1 s) by rw [hf1]; simp only [deep1, hk.2.2, hdp, if_neg hd, hk.2.1])
        have hlC := (hS.cells (by decide)).look Fs.kI (t := 68) Tryz.underlying68 (zvS V) (x := i) hvI (kyI hvI)
        obtain ⟨ao, cap, hrow, hcells⟩ := row_of hS i
        rw [hrow] at hlC
        rw [hk.2.1] at hlC hcells
        have hcli := hcl i
        generalize s.cells i = cl at *
        generalize pre.foldl deep1 s = sp at *
        have hSb := Lib.hid hS
        have hTC := Lib.hid (And.intro hT hC)
        have hbox' := Lib.hid hbx
        clear hf1 hrow hS hT hC hbx
        gi_wp2_with (first | (refine wpListIn_lookup_run _ rfl 66 (.tmp 15) (.tmp 16) true rfl _ hlk ?_) | (refine wpListIn_lookup_run _ rfl 68 (.tmp 29) (.tmp 30) false rfl _ hlC ?_))
        gi_loopw [33] (fun jv wr => ∃ j : Nat, jv = .int .i64 j ∧ j ≤ cl.length ∧ Hid (∃ G3, Sim (N + 300000 * pre.length + j) wr A G3 (deepNames i (cl.take j) sp) ∧ Stp V G1 wr G3 ∧ (∀ b k, G1.who b = .row k → wr.heap[b]? = V.heap[b]? ∧ G3.who b = .row k))) (fun jv _ => cl.length - (intOf jv).toNat)
        case atStart => exact ⟨0, rfl, Nat.zero_le _, Lib.hid ⟨G1, hSb.out, Stp.refl _ _, fun _ _ e => ⟨rfl, e⟩⟩⟩
        case round =>
          obtain ⟨j, rfl, hj, hG⟩ := hrel
          obtain ⟨G3, hS3, hT3, hR3⟩ := hG.out
          by_cases cj : j < cl.length
          · have hcj : (j : Int) < (cl.length : Int) := by omega
            obtain ⟨e, he⟩ : ∃ e, cl[j]? = some e := ⟨_, List.getElem?_eq_getElem cj⟩
            obtain ⟨g, rfl, hg, hgw, e1, e2⟩ := hcells j e he
            have hkeep := (hR3 g i hgw).1
            rw [← World.cell?_of_block (a := ⟨g, j * 2, none⟩) hkeep] at e1
            rw [← World.cell?_of_block (a := ⟨g, j * 2 + 1, none⟩) hkeep] at e2
            have hdt := Lib.hid (deepNames_take i cl sp j e he)
            obtain ⟨nm, ino⟩ := e
            dsimp only at *
            have hbe := (Below.refl wr.heap.size wr).alloc (Nat.le_refl _) (.cells #[.string (mk nm), .int .i64 ino] 118)
            have hstn := store_new wr 118 #[.string (mk []), .int .i64 0] #[.string (mk nm), .int .i64 ino] (by kernel_rfl) rfl (by simp [Value.oneCell'])
            have hY := Blk.new wr #[.string (mk nm), .int .i64 ino] 118
            have hS4 := hS3.below hbe
            have hb3 := hbox'.out.same (hT3.block _ hbox'.out.lt hbw1)
            have hb4 := hb3.same (hbe.block _ hb3.lt)
            have HT := tell_rows hS4 (by omega) (fndN 16 i nm)
            have y0 := hY.cell 0
            have b4 := hb4.cell 0
            have hT4 := Lib.hid (hT3.trans (Stp.of_below (G := G3) hbe))
            have hR4 := Lib.hid (And.intro hR3 (fun b (hb : b < wr.heap.size) => hbe.block b hb))
            have hlw := Lib.hid (fun b k (e : G1.who b = .row k) => (hS3.low b (by rw [(hR3 b k e).2]; simp)).2)
            clear hS3 hT3 hR3 hS4 hb3 hb4 hbe hkeep he hcells hY
            gi_wp2_with (refine wpListIn_store_run _ rfl (.tmp 6) (.tmp 36) 118 rfl _ hstn ?_)
            refine ⟨trivial, (CallsIn.inRound l (callsIn_wide.2 HT)).mono ?_⟩
            clear HT
            rintro e w5 ⟨rfl, hG5⟩
            gi_wp2
            go_roundw
            case rel =>
              obtain ⟨G5, k1, k2, k3⟩ := hG5
              refine ⟨j + 1, rfl, by omega, Lib.hid ⟨G5, by rw [hdt.out]; exact k1, hT4.out.trans k2, fun b k e => ?_⟩⟩
              have r1 := hR4.out.1 b k e
              have r2 := k3 b k r1.2
              exact ⟨r2.1.trans ((hR4.out.2 b (hlw.out b k e)).trans r1.1), r2.2⟩
            case measure => simp only [intOf]; omega
          · obtain rfl : j = cl.length := by omega
            have hcj : ¬ (cl.length : Int) < (cl.length : Int) := by omega
            rw [List.take_length] at hS3
            obtain ⟨hT, hC⟩ := hTC.out
            have hE := Lib.hid (show KeepsFrom w0.heap.size V wr ∧ InL w0 G A (N + 300000 * (pre ++ [(i, y)]).length) (deepNames i cl sp) wr from
              ⟨keeps_of hC hT3, InL.go hT hC (hS3.mono (by simp; omega)) hT3⟩)
            clear hS3 hT3 hR3 hT hC hcells hcli hG
            gi_wp2
            exact ⟨rfl, hE.out.1, by show InL w0 G A _ ((pre ++ [(i, y)]).foldl deep1 s) wr; rw [hf2.out]; exact hE.out.2⟩
  · rintro D V hD hI hdef
    have hg := grownBy_putObj' V D (.deferred none)
    obtain ⟨G1, hS, hT, _⟩ := hI.grown hg (fun r e => by cases e; exact ⟨hD, _, hdef, rfl⟩) hS0.base
    simp only [Exit.inBlock]
    refine ⟨by simp, .inl ⟨_, _, rfl, run_takeDeferred hdef, ?_⟩⟩
    refine ⟨.tuple #[], ?_, ⟨_, rfl⟩, G1, ?_, hT0.trans hT⟩
    · simp [results, Tryz.f35, go_sem]
    · have hlen := eachTo_len s.nodes (countN A.n)
      exact hS.mono (by have := Nat.mul_le_mul_left 300000 (Nat.le_trans hlen hcn); omega)
end
end Ck
end Go.Proofs.YtegplehbcdeeoaaGreatDoor
