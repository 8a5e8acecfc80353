/- A range over a method's value, whose rounds box what they are given. -/
import Derived.Test.YtegplehbcdeeoaaGreatDoorChkB20
import Derived.Sort.CutIn
import Derived.Stop.RegionWithIn
namespace Go.Proofs.YtegplehbcdeeoaaGreatDoor
open Go.RowKit Go.Maps

namespace Ck
open Pk Pw
section
variable {F : Fence} {n : Nat} {P : Program}
theorem wpIn_range_boxed {α : Type} {g : Operand} {ps : Array Tmp} {assign body : Code} {Q : Exit → Act → World → Prop} {a : Act} {w : World}
    (hro : F.round = none) (h1 : 1 ≤ n) {gf : Nat} {rv : Value} (hg : a.eval g = .func (.func gf) #[rv] #[]) (hFg : F.fn gf) (eg : ∀ args w, (callFunc gf args).run P w = .ok (.enter gf args) w)
    (encs : α → Array Value) (hps : ∀ x, (encs x).size = ps.size) (xs : List α) (ok : List α → α → Prop) (I : List α → World → Prop) (hI : OwnFrom w.heap.size I) (h0 : I [] w)
    (hcall : ∀ (l : Nat) (J : List α → World → Prop) (W : World), (∀ pre W', J pre W' → I pre W') → (∀ pre W1 W2, J pre W1 → Below W1.heap.size W1 W2 → J pre W2) →
      (∀ pre x W1, J pre W1 → ok pre x → YieldAt F (n - 1 - 1) P l (encs x) W1 fun e W' => e = .returned (.bool true) ∧ J (pre ++ [x]) W') → J [] W →
      CallsIn F (n - 1) P gf #[rv, .func (.yield l) #[] #[]] W fun e W' => (∃ v, e = .returned v) ∧ J xs W')
    (ob : α → Obj) (a₁ : α → Nat → Act) (hassign : ∀ (l : Nat) (pre : List α) (x : α) (W : World) (K : Act → World → Prop), ok pre x → K (a₁ x W.heap.size) (W.alloc (ob x)) →
      assign.wpIn (F.inRound l) (n - 1 - 1) P (Exit.then K (fun _ _ _ => False)) { tmps := (ps.zip (encs x)).foldl (fun t (p, v) => t.setIfInBounds p v) a.tmps, defers := [] } W)
    (hbody : ∀ (l : Nat) (pre : List α) (x : α) (b : Nat) (W : World), I pre W → ok pre x → w.heap.size ≤ b → W.heap[b]? = some (ob x) → body.wpIn (F.inRound l) (n - 1 - 1) P (Ends w.heap.size I (pre ++ [x]) W) (a₁ x b) W)
    (hdone : ∀ (D : Nat) (W : World), w.heap.size ≤ D → I xs W → W.heap[D]? = some (.deferred (some [])) → Q .normal { a with defers := { target := .collected D, args := #[] } :: a.defers } W) :
    (Code.rangeFunc g ps assign body).wpIn F n P Q a w := by
  refine wpIn_rangeFunc fun fn hfn => ?_
  rw [hro]
  obtain ⟨rec, hrec⟩ : ∃ rec : LoopState → Loop, rec = fun st => { state := st, pending := none, fn, tmps := a.tmps, params := ps, assign, body, defers := w.heap.size } := ⟨_, rfl⟩
  obtain ⟨W1, hW1⟩ : ∃ W1, (w.alloc (.deferred (some []))).alloc (.loop (rec .ready)) = W1 := ⟨_, rfl⟩
  have hl1 : W1.heap[w.heap.size + 1]? = some (.loop (rec .ready)) := by
    rw [← hW1]
    have := World.alloc_heap_new (w.alloc (.deferred (some []))) (.loop (rec .ready))
    rwa [World.size_alloc] at this
  have hd1 : W1.heap[w.heap.size]? = some (.deferred (some [])) := by
    rw [← hW1]
    exact (Below.heap_alloc _ _ _ (by simp)).trans (World.alloc_heap_new w _)
  have hi1 : I [] W1 := by rw [← hW1]; exact hI.alloc _ (hI.alloc _ h0)
  refine ⟨w.heap.size + 1, [{ target := .collected w.heap.size, args := #[] }], W1, { target := .fn (.func gf) #[], args := #[rv, .func (.yield (w.heap.size + 1)) #[] #[]] }, W1, gf, #[rv, .func (.yield (w.heap.size + 1)) #[] #[]], W1, ?_, ?_, ?_, ?_, fun _ => h1, ?_⟩
  · rw [← hW1, hrec]; exact run_enterLoop_outer _ _ _ _ _
  · simp only [resolve, hg]
    simp [go_sem]
  · intro f' hf'; simp [Target.leads] at hf'; subst hf'; exact hFg
  · simp [invoke, go_sem, eg]
  · refine (hcall (w.heap.size + 1) (fun pre W => I pre W ∧ W.heap[w.heap.size + 1]? = some (.loop (rec .ready)) ∧ W.heap[w.heap.size]? = some (.deferred (some []))) W1 (fun _ _ h => h.1)
      (fun pre A B h hb => ⟨below_stays hI h.1 hb, (hb.block _ (Array.getElem?_eq_some_iff.1 h.2.1).1).trans h.2.1, (hb.block _ (Array.getElem?_eq_some_iff.1 h.2.2).1).trans h.2.2⟩) ?_ ⟨hi1, hl1, hd1⟩).mono ?_
    · rintro pre x W ⟨hi, hl, hd⟩ hok
      have hlt : w.heap.size + 1 < W.heap.size := (Array.getElem?_eq_some_iff.1 hl).1
      have hy := run_yield (P := P) (args := encs x) hl (by rw [hrec]; exact hps x)
      rw [hrec] at hy
      have hba := (Below.refl W.heap.size W).alloc (Nat.le_refl _) (ob x)
      have hla : (W.alloc (ob x)).heap[w.heap.size + 1]? = some (.loop (rec .ready)) := (hba.block _ hlt).trans hl
      have hlta : w.heap.size + 1 < (W.alloc (ob x)).heap.size := Nat.lt_of_lt_of_le hlt hba.size
      obtain ⟨V, hV⟩ : ∃ V, (W.alloc (ob x)).putObj (w.heap.size + 1) (.loop { rec .ready with state := .busy }) = V := ⟨_, rfl⟩
      have hlV : V.heap[w.heap.size + 1]? = some (.loop { rec .ready with state := .busy }) := by rw [← hV]; exact World.putObj_heap_same hlta
      have hdV : V.heap[w.heap.size]? = some (.deferred (some [])) := by rw [← hV]; exact (World.putObj_heap_other (by omega)).trans ((hba.block _ (by omega)).trans hd)
      have hoV : V.heap[W.heap.size]? = some (ob x) := by rw [← hV]; exact (World.putObj_heap_other (by omega)).trans (heap_alloc_new W (ob x))
      have hiV : I pre V := by rw [← hV]; exact hI.putObj _ (hI.alloc _ hi) (by omega) hla rfl
      refine ⟨fn, _, assign, body, hy, roundIn_of_wpIn hfn (hassign _ pre x W _ hok ⟨V, by rw [← hV]; exact run_beginRound hla (by rw [hrec]), ?_⟩)⟩
      refine wpIn_mono (hbody _ pre x W.heap.size V hiV hok (by omega) hoV) ?_
      rintro e a3 W3 ⟨rfl, hk3, hi3⟩
      have hl3 := hk3.same _ _ (by omega) hlV rfl
      have hd3 := hk3.same _ _ (Nat.le_refl _) hdV rfl
      have hr := run_endRound (P := P) none hl3
      refine ⟨_, _, hr, rfl, hI.putObj _ hi3 (by omega) hl3 rfl, ?_, (World.putObj_heap_other (by omega)).trans hd3⟩
      rw [World.putObj_heap_same (Array.getElem?_eq_some_iff.1 hl3).1, hrec]
      rfl
    · rintro e W2 ⟨⟨v, rfl⟩, hi, hl, hd⟩
      refine ⟨none, _, by have := run_endLoop (P := P) hl (by rw [hrec]; simp); rw [hrec] at this; exact this, hdone _ _ (Nat.le_refl _) (hI.putObj _ hi (by omega) hl rfl) ((World.putObj_heap_other (by omega)).trans hd)⟩
theorem wpIn_range_boxed2 {α : Type} {g : Operand} {ps : Array Tmp} {assign body : Code} {Q : Exit → Act → World → Prop} {a : Act} {w : World}
    (hro : F.round = none) (h1 : 1 ≤ n) {gf : Nat} {rv : Value} (hg : a.eval g = .func (.func gf) #[rv] #[]) (hFg : F.fn gf) (eg : ∀ args w, (callFunc gf args).run P w = .ok (.enter gf args) w)
    (encs : α → Array Value) (hps : ∀ x, (encs x).size = ps.size) (xs : List α) (ok : List α → α → Prop) (I : List α → World → Prop) (hI : OwnFrom w.heap.size I) (h0 : I [] w)
    (hcall : ∀ (l : Nat) (J : List α → World → Prop) (W : World), (∀ pre W', J pre W' → I pre W') → (∀ pre W1 W2, J pre W1 → Below W1.heap.size W1 W2 → J pre W2) →
      (∀ pre x W1, J pre W1 → ok pre x → YieldAt F (n - 1 - 1) P l (encs x) W1 fun e W' => e = .returned (.bool true) ∧ J (pre ++ [x]) W') → J [] W →
      CallsIn F (n - 1) P gf #[rv, .func (.yield l) #[] #[]] W fun e W' => (∃ v, e = .returned v) ∧ J xs W')
    (ob : α → Obj) (a₁ : α → Nat → Act) (hassign : ∀ (l : Nat) (pre : List α) (x : α) (W : World) (K : Act → World → Prop), ok pre x → K (a₁ x W.heap.size) (W.alloc (ob x)) →
      assign.wpIn (F.inRound l) (n - 1 - 1) P (Exit.then K (fun _ _ _ => False)) { tmps := (ps.zip (encs x)).foldl (fun t (p, v) => t.setIfInBounds p v) a.tmps, defers := [] } W)
    (hbody : ∀ (l : Nat) (pre : List α) (x : α) (W V : World), I pre W → ok pre x → w.heap.size ≤ W.heap.size → W.grownBy V (some l) → w.heap.size ≤ l → (∃ o : Obj, W.heap[l]? = some o ∧ o.isCells = false) → V.heap[W.heap.size]? = some (ob x) → body.wpIn (F.inRound l) (n - 1 - 1) P (Ends w.heap.size I (pre ++ [x]) V) (a₁ x W.heap.size) V)
    (hdone : ∀ (D : Nat) (W : World), w.heap.size ≤ D → I xs W → W.heap[D]? = some (.deferred (some [])) → Q .normal { a with defers := { target := .collected D, args := #[] } :: a.defers } W) :
    (Code.rangeFunc g ps assign body).wpIn F n P Q a w := by
  refine wpIn_rangeFunc fun fn hfn => ?_
  rw [hro]
  obtain ⟨rec, hrec⟩ : ∃ rec : LoopState → Loop, rec = fun st => { state := st, pending := none, fn, tmps := a.tmps, params := ps, assign, body, defers := w.heap.size } := ⟨_, rfl⟩
  obtain ⟨W1, hW1⟩ : ∃ W1, (w.alloc (.deferred (some []))).alloc (.loop (rec .ready)) = W1 := ⟨_, rfl⟩
  have hl1 : W1.heap[w.heap.size + 1]? = some (.loop (rec .ready)) := by
    rw [← hW1]
    have := World.alloc_heap_new (w.alloc (.deferred (some []))) (.loop (rec .ready))
    rwa [World.size_alloc] at this
  have hd1 : W1.heap[w.heap.size]? = some (.deferred (some [])) := by
    rw [← hW1]
    exact (Below.heap_alloc _ _ _ (by simp)).trans (World.alloc_heap_new w _)
  have hi1 : I [] W1 := by rw [← hW1]; exact hI.alloc _ (hI.alloc _ h0)
  refine ⟨w.heap.size + 1, [{ target := .collected w.heap.size, args := #[] }], W1, { target := .fn (.func gf) #[], args := #[rv, .func (.yield (w.heap.size + 1)) #[] #[]] }, W1, gf, #[rv, .func (.yield (w.heap.size + 1)) #[] #[]], W1, ?_, ?_, ?_, ?_, fun _ => h1, ?_⟩
  · rw [← hW1, hrec]; exact run_enterLoop_outer _ _ _ _ _
  · simp only [resolve, hg]
    simp [go_sem]
  · intro f' hf'; simp [Target.leads] at hf'; subst hf'; exact hFg
  · simp [invoke, go_sem, eg]
  · refine (hcall (w.heap.size + 1) (fun pre W => I pre W ∧ W.heap[w.heap.size + 1]? = some (.loop (rec .ready)) ∧ W.heap[w.heap.size]? = some (.deferred (some []))) W1 (fun _ _ h => h.1)
      (fun pre A B h hb => ⟨below_stays hI h.1 hb, (hb.block _ (Array.getElem?_eq_some_iff.1 h.2.1).1).trans h.2.1, (hb.block _ (Array.getElem?_eq_some_iff.1 h.2.2).1).trans h.2.2⟩) ?_ ⟨hi1, hl1, hd1⟩).mono ?_
    · rintro pre x W ⟨hi, hl, hd⟩ hok
      have hlt : w.heap.size + 1 < W.heap.size := (Array.getElem?_eq_some_iff.1 hl).1
      have hy := run_yield (P := P) (args := encs x) hl (by rw [hrec]; exact hps x)
      rw [hrec] at hy
      have hba := (Below.refl W.heap.size W).alloc (Nat.le_refl _) (ob x)
      have hla : (W.alloc (ob x)).heap[w.heap.size + 1]? = some (.loop (rec .ready)) := (hba.block _ hlt).trans hl
      have hlta : w.heap.size + 1 < (W.alloc (ob x)).heap.size := Nat.lt_of_lt_of_le hlt hba.size
      obtain ⟨V, hV⟩ : ∃ V, (W.alloc (ob x)).putObj (w.heap.size + 1) (.loop { rec .ready with state := .busy }) = V := ⟨_, rfl⟩
      have hlV : V.heap[w.heap.size + 1]? = some (.loop { rec .ready with state := .busy }) := by rw [← hV]; exact World.putObj_heap_same hlta
      have hdV : V.heap[w.heap.size]? = some (.deferred (some [])) := by rw [← hV]; exact (World.putObj_heap_other (by omega)).trans ((hba.block _ (by omega)).trans hd)
      have hoV : V.heap[W.heap.size]? = some (ob x) := by rw [← hV]; exact (World.putObj_heap_other (by omega)).trans (heap_alloc_new W (ob x))
      have hgV : W.grownBy V (some (w.heap.size + 1)) := by
        rw [← hV]
        exact ⟨hba.os, hba.tape, hba.output, by simp, fun k hk hne => (World.putObj_heap_other (by intro e; apply hne; rw [e])).trans (hba.block k hk)⟩
      have hiV : I pre V := by rw [← hV]; exact hI.putObj _ (hI.alloc _ hi) (by omega) hla rfl
      refine ⟨fn, _, assign, body, hy, roundIn_of_wpIn hfn (hassign _ pre x W _ hok ⟨V, by rw [← hV]; exact run_beginRound hla (by rw [hrec]), ?_⟩)⟩
      refine wpIn_mono (hbody _ pre x W V hi hok (by omega) hgV (by omega) ⟨_, hl, rfl⟩ hoV) ?_
      rintro e a3 W3 ⟨rfl, hk3, hi3⟩
      have hl3 := hk3.same _ _ (by omega) hlV rfl
      have hd3 := hk3.same _ _ (Nat.le_refl _) hdV rfl
      have hr := run_endRound (P := P) none hl3
      refine ⟨_, _, hr, rfl, hI.putObj _ hi3 (by omega) hl3 rfl, ?_, (World.putObj_heap_other (by omega)).trans hd3⟩
      rw [World.putObj_heap_same (Array.getElem?_eq_some_iff.1 hl3).1, hrec]
      rfl
    · rintro e W2 ⟨⟨v, rfl⟩, hi, hl, hd⟩
      refine ⟨none, _, by have := run_endLoop (P := P) hl (by rw [hrec]; simp); rw [hrec] at this; exact this, hdone _ _ (Nat.le_refl _) (hI.putObj _ hi (by omega) hl rfl) ((World.putObj_heap_other (by omega)).trans hd)⟩
end
end Ck
end Go.Proofs.YtegplehbcdeeoaaGreatDoor
/- The checker tells what is lost, orphans, wrong links. -/
namespace Go.Proofs.YtegplehbcdeeoaaGreatDoor
open Go.RowKit Go.Maps

attribute [local go_sem] Oper.semAt_some
namespace Ck
open Pk Pw
section
variable {W W' w0 : World} {A : Adr} {G G' G0 : Gh} {s : St} {N N' : Nat}
theorem grown3 (hS : Sim N W A G s) (hT : Stp w0 G0 W G) (hC : Cw w0.heap.size W G) {row : Option Nat} (hg : W.grownBy W' row) (hr : ∀ r, row = some r → w0.heap.size ≤ r ∧ ∃ o : Obj, W.heap[r]? = some o ∧ o.isCells = false) (hb0 : A.base ≤ w0.heap.size) : Sim N W' A G s ∧ Stp w0 G0 W' G ∧ Cw w0.heap.size W' G := by
  cases row with
  | none =>
    have hb : Below W.heap.size W W' := ⟨hg.os, hg.tape, hg.output, hg.size, fun k hk => hg.block k hk (fun e => by cases e)⟩
    exact ⟨hS.below hb, hT.trans (Stp.of_below hb), (Stp.of_below (G := G) hb).cw _ hC⟩
  | some r =>
    obtain ⟨hB, o, ho, hn⟩ := hr r rfl
    have hw := cw_other hC hB ho hn
    have hk : ∀ b, b < W.heap.size → b ≠ r → W'.heap[b]? = W.heap[b]? := fun b hb hne => hg.block b hb (fun e => hne (by cases e; rfl))
    refine ⟨hS.beside hg.size hg.os hg.tape hg.output (Nat.le_trans hb0 hB) hw hk, ?_, ?_⟩
    · exact ⟨hg.os.trans hT.os, hg.tape.trans hT.tape, hg.output.trans hT.output, Nat.le_trans hT.size hg.size, hT.who, fun b hb e => (hk b (Nat.lt_of_lt_of_le hb hT.size) (by omega)).trans (hT.block b hb e), fun B c b hB' hw' => by
        obtain ⟨cs, t, fr, e⟩ := hT.cw B c b hB' hw'
        have hne : b ≠ r := fun e2 => by subst e2; exact hw' hw
        exact ⟨cs, t, fr, (hk b (lt_of_block e) hne).trans e⟩⟩
    · intro b hb hw'
      obtain ⟨cs, t, fr, e⟩ := hC b hb hw'
      have hne : b ≠ r := fun e2 => by subst e2; exact hw' hw
      exact ⟨cs, t, fr, (hk b (lt_of_block e) hne).trans e⟩
/-- An inode's end: .. -/
def endA (s : St) (x : Nat × Rc) : St :=
  if x.2.kind = 1 ∧ x.2.links = 0 ∧ x.1 ≠ 1 ∧ (s.names x.1).getD 0 = 0 then s.tell (fnd 18 x.1 0)
  else if (s.seen x.1).getD 0 = 0 then s.tell (fnd 14 x.1 0) else s
def ends1 (s : St) (x : Nat × Rc) : St :=
  if x.2.links ≠ linksS (endA s x) x.1 x.2 then (endA s x).tell (fnd 15 x.1 0) else endA s x
def ends0 (s : St) : St := match s.nodes 1 with | none => s.tell (fnd 14 1 0) | some _ => s
def endsS (n : Nat) (s : St) : St := (eachTo s.nodes (countN n)).foldl ends1 (ends0 s)
theorem cells15 {w : World} {b : Nat} {C : Array Value} {t : TypeId} {c0 c1 c2 c3 c4 c5 c6 c7 c8 c9 c10 c11 c12 c13 c14 : Value} (h : Blk w b C t) (e : C = #[c0, c1, c2, c3, c4, c5, c6, c7, c8, c9, c10, c11, c12, c13, c14]) :
    w.cell? ⟨b, 0, none⟩ = some c0 ∧ w.cell? ⟨b, 1, none⟩ = some c1 ∧ w.cell? ⟨b, 2, none⟩ = some c2 ∧ w.cell? ⟨b, 3, none⟩ = some c3 ∧ w.cell? ⟨b, 4, none⟩ = some c4 ∧ w.cell? ⟨b, 5, none⟩ = some c5 ∧ w.cell? ⟨b, 6, none⟩ = some c6 ∧ w.cell? ⟨b, 7, none⟩ = some c7 ∧ w.cell? ⟨b, 8, none⟩ = some c8 ∧ w.cell? ⟨b, 9, none⟩ = some c9 ∧ w.cell? ⟨b, 10, none⟩ = some c10 ∧ w.cell? ⟨b, 11, none⟩ = some c11 ∧ w.cell? ⟨b, 12, none⟩ = some c12 ∧ w.cell? ⟨b, 13, none⟩ = some c13 ∧ w.cell? ⟨b, 14, none⟩ = some c14 := by
  subst e
  exact ⟨h.cell 0, h.cell 1, h.cell 2, h.cell 3, h.cell 4, h.cell 5, h.cell 6, h.cell 7, h.cell 8, h.cell 9, h.cell 10, h.cell 11, h.cell 12, h.cell 13, h.cell 14⟩
theorem getD_iv (o : Option Nat) : (o.map iv).getD (.int .i64 0) = .int .i64 (o.getD 0 : Nat) := by cases o <;> rfl
structure Same (s s' : St) : Prop where
  nodes : s'.nodes = s.nodes
  cells : s'.cells = s.cells
  names : s'.names = s.names
  seen : s'.seen = s.seen
theorem Same.refl (s : St) : Same s s := ⟨rfl, rfl, rfl, rfl⟩
theorem Same.trans {a b c : St} (h : Same a b) (k : Same b c) : Same a c := ⟨k.nodes.trans h.nodes, k.cells.trans h.cells, k.names.trans h.names, k.seen.trans h.seen⟩
theorem Same.tell (s : St) (f : Fnd) : Same s (s.tell f) := ⟨rfl, rfl, rfl, rfl⟩
theorem endA_same (s : St) (x : Nat × Rc) : Same s (endA s x) := by
  unfold endA
  split
  · exact .tell _ _
  · split
    · exact .tell _ _
    · exact .refl _
theorem ends1_same (s : St) (x : Nat × Rc) : Same s (ends1 s x) := by
  unfold ends1
  split
  · exact (endA_same s x).trans (.tell _ _)
  · exact endA_same s x
theorem endsF_same : ∀ (l : List (Nat × Rc)) (s : St), Same s (l.foldl ends1 s)
  | [], s => .refl s
  | x :: l, s => (ends1_same s x).trans (endsF_same l _)
theorem ends0_same (s : St) : Same s (ends0 s) := by
  unfold ends0
  split
  · exact .tell _ _
  · exact .refl _
set_option maxRecDepth 100000 in
set_option maxHeartbeats 4000000 in
theorem ends_any (h : Sim N W A G s) (hno : NodesOk s) (hcl : ∀ k, ∀ c ∈ s.cells k, c.2 < 4294967296) (hN : N ≤ 100000000000) : Calls Tryz.prog 36 #[.pointer (some ⟨A.c, 0, none⟩)] W
    fun e W' => (∃ v, e = .returned v) ∧ ∃ G', Sim (N + 8192) W' A G' (endsS A.n s) ∧ Stp W G W' G' := by
  refine (callsIn_wide (n := 4)).1 ?_
  refine callsIn_of_wp_marks Tryz.func36 rfl trivial ?_ rfl
  simp only [Tryz.ntmps36, List.size_toArray, List.length_cons, List.length_nil, Nat.reduceAdd, Nat.reduceSub, Array.replicate_succ, Array.replicate_zero, List.push_toArray, List.append_toArray, List.nil_append, List.cons_append]
  gi_step
  gi_step
  gi_step
  iterate 6 (first | gi_step | gi_upon | gi_back)
  gi_step
  have hb0 := (Below.refl W.heap.size W).alloc (Nat.le_refl _) (.cells #[.pointer (some ⟨A.c, 0, none⟩)] 64)
  have hS0 := h.below hb0
  have hbox := Blk.new W #[.pointer (some ⟨A.c, 0, none⟩)] 64
  have hbw : G.who W.heap.size = .other := h.other_of (.inl (Nat.le_refl _))
  have hT0 := Stp.of_below (G := G) hb0
  have b0 := hbox.cell 0
  have hw0s := hbox.lt
  generalize W.alloc (.cells #[.pointer (some ⟨A.c, 0, none⟩)] 64) = w0 at *
  obtain ⟨m7, m8, m9, m10, m11, m12, m13⟩ := chk_maps hS0
  have hlk := (hS0.nodes (by decide)).look_ok Fs.kI (t := 65) Tryz.underlying65 (zvR w0) (x := 1) (by unfold vI; omega) (kyI (by unfold vI; omega))
  have hcn : countN A.n ≤ 2048 := by have := h.n2; unfold countN; omega
  gi_cut [] from 6 (fun wx => ∃ G2, Sim (N + 1) wx A G2 (ends0 s) ∧ Stp w0 G wx G2)
  case first =>
    cases hr : s.nodes 1 with
    | none =>
      rw [hr] at hlk
      replace hlk : (Instr.lookup 65 (.map (some A.nodes)) (.int .i64 1) true).run Tryz.prog w0 = .ok (.tuple #[.agg (Array.replicate 15 (.int .i64 0)), .bool false]) w0 := hlk
      have hst := store_new w0 74 (Array.replicate 15 (.int .i64 0)) (Array.replicate 15 (.int .i64 0)) (by kernel_rfl) rfl (natC_one (List.replicate 15 0))
      have hb1 := (Below.refl w0.heap.size w0).alloc (Nat.le_refl _) (.cells (Array.replicate 15 (.int .i64 0)) 74)
      have hS1 := hS0.below hb1
      have hT1 := Lib.hid (Stp.of_below (G := G) hb1)
      have hbox1 := hbox.same (hb1.block _ hbox.lt)
      have HT := tell_any hS1 (by omega) (fnd 14 1 0)
      have he0 := Lib.hid (show ends0 s = s.tell (fnd 14 1 0) by unfold ends0; rw [hr])
      have b1 := hbox1.cell 0
      clear hS0 hb0 hS1 hb1 hbox hbox1
      gi_wp2_with (first | (refine wpListIn_lookup_run _ rfl 65 (.tmp 10) (.const (.int .i64 1)) true rfl _ hlk ?_) | (refine wpListIn_store_run _ rfl (.tmp 2) (.tmp 12) 74 rfl _ hst ?_))
      refine ⟨trivial, (callsIn_wide.2 HT).mono ?_⟩
      clear HT
      rintro e w2 ⟨rfl, G2, k1, k2⟩
      gi_wp2_with fail
      gi_meet
      case rel => exact ⟨G2, by rw [he0.out]; exact k1, hT1.out.trans k2⟩
    | some x1 =>
      rw [hr] at hlk
      replace hlk : (Instr.lookup 65 (.map (some A.nodes)) (.int .i64 1) true).run Tryz.prog w0 = .ok (.tuple #[.agg (recC x1), .bool true]) w0 := hlk
      have hxz := (hno _ _ hr).csize
      have hst := store_new w0 74 (Array.replicate 15 (.int .i64 0)) (recC x1) (by rw [hxz]; kernel_rfl) (by rw [hxz]; rfl) (natC_one _)
      have hb1 := (Below.refl w0.heap.size w0).alloc (Nat.le_refl _) (.cells (recC x1) 74)
      have hS1 := Lib.hid (hS0.below hb1)
      have hT1 := Lib.hid (Stp.of_below (G := G) hb1)
      have he0 := Lib.hid (show ends0 s = s by unfold ends0; rw [hr])
      generalize recC x1 = C1 at *
      clear hS0 hb0 hb1 hbox hxz
      gi_wp2_with (first | (refine wpListIn_lookup_run _ rfl 65 (.tmp 10) (.const (.int .i64 1)) true rfl _ hlk ?_) | (refine wpListIn_store_run _ rfl (.tmp 2) (.tmp 12) 74 rfl _ hst ?_))
      gi_meet
      case rel => exact ⟨G, by rw [he0.out]; exact hS1.out.mono (Nat.le_succ _), hT1.out⟩
  obtain ⟨G2, hS2, hT20⟩ := hcut
  obtain ⟨wz, hwz⟩ : ∃ wz, wz = wc := ⟨_, rfl⟩
  subst hwz
  have hT2 := hT0.trans hT20
  have hbox2 := hbox.same (hT20.block _ hw0s hbw)
  have hw2 : G2.who W.heap.size = .other := hT20.who _ hw0s hbw
  have b2 := hbox2.cell 0
  clear hlk hS0 hb0 m7 m8 m9 m10 m11 m12 m13 b0 hbox hT20 hT0
  gi_wp2_with fail
  refine wpIn_range_boxed2 (F := Fence.wide) (α := Nat × Rc) rfl (by omega) (gf := 30) (rv := .pointer (some ⟨A.c, 0, none⟩)) rfl trivial (enters_of Tryz.func30 (by kernel_rfl) rfl)
      (fun x => #[.int .i64 x.1, .agg (recC x.2)]) (fun _ => rfl) (eachTo s.nodes (countN A.n)) (fun pre x => pre = eachTo s.nodes x.1 ∧ s.nodes x.1 = some x.2 ∧ 1 ≤ x.1 ∧ x.1 < countN A.n)
      (fun pre V => InL wz G2 A (N + 1 + 2 * pre.length) (pre.foldl ends1 (ends0 s)) V) (inL_own _ _ hS2.base) (InL.start (by simpa using hS2)) ?_
      (fun x => .cells (recC x.2) 74)
      (fun x b => { tmps := #[.pointer (some ⟨A.c, 0, none⟩), .pointer (some ⟨W.heap.size, 0, none⟩), u2, u3, .int .i64 x.1, .pointer (some ⟨b, 0, none⟩), u6, u7, u8, u9, u10, u11, u12, u13, u14, u15, u16, u17, u18, .pointer (some ⟨A.c, 0, none⟩), .func (.func 30) #[.pointer (some ⟨A.c, 0, none⟩)] #[], .int .i64 x.1, .agg (recC x.2), u23, u24, u25, u26, u27, u28, u29, u30, u31, u32, u33, u34, u35, u36, u37, u38, u39, u40, u41, u42, u43, u44, u45, u46, u47, u48, u49, u50, u51, u52, u53, u54, u55, u56, u57, u58, u59, u60, u61, u62, u63, u64, u65, u66, u67, u68, u69, u70, u71], defers := [] }) ?_ ?_ ?_
  · intro l J V hJI hJb hY hJ0
    exact each_in Fence.wide 3 trivial rfl (by omega) l s.nodes hno J (fun pre V' hj => by
      obtain ⟨G1, k1, _⟩ := hJI pre V' hj
      exact ⟨_, G1, _, k1, ((ends0_same s).trans (endsF_same pre _)).nodes⟩) hJb (fun pre x W1 hj hp hn h1 hc => hY pre x W1 hj ⟨hp, hn, h1, hc⟩) V hJ0
  · rintro l pre x V K ⟨_, hnx, _, _⟩ hK
    have hxz := (hno _ _ hnx).csize
    have hst := store_new V 74 (Array.replicate 15 (.int .i64 0)) (recC x.2) (by rw [hxz]; kernel_rfl) (by rw [hxz]; rfl) (natC_one _)
    generalize recC x.2 = C at *
    clear hxz
    gi_wp2_with (refine wpListIn_store_run _ rfl (.tmp 5) (.tmp 22) 74 rfl _ hst ?_)
    exact hK
  · rintro l pre x W9 V ⟨G1, hS9, hT9, hC9⟩ ⟨hp, hn, h1, hc⟩ hbb hgV hBl hol hbV
    obtain ⟨i, y⟩ := x
    obtain ⟨hS, hT, hC⟩ := grown3 hS9 hT9 hC9 hgV (fun r e => by cases e; exact ⟨hBl, hol⟩) hS2.base
    have hXw : G1.who W9.heap.size = .other := hS9.other_of (.inl (Nat.le_refl _))
    clear hS9 hT9 hC9 hgV hBl hol
    generalize W9.heap.size = b at *
    dsimp only at hp hn h1 hc hbV
    have hpl : pre.length ≤ 2048 := by rw [hp]; exact Nat.le_trans (eachTo_len _ _) (by omega)
    replace hp := Lib.hid hp
    have hbw1 : G1.who W.heap.size = .other := hT.who _ hbox2.lt hw2
    have hbx := hbox2.same (hT.block _ hbox2.lt hw2)
    have b0 := hbx.cell 0
    have hX : Blk V b (recC y) 74 := hbV
    have hxz := (hno _ _ hn).csize
    have hk0 := hX.cell 0
    have hk1 := hX.cell 1
    have hk0' : (recC y)[0]? = some (.int .i64 y.kind) := by unfold recC; rw [natC_get]; rfl
    have hk1' : (recC y)[1]? = some (.int .i64 y.links) := by unfold recC; rw [natC_get]; rfl
    rw [hk0'] at hk0
    rw [hk1'] at hk1
    have hf1 := Lib.hid (show (pre ++ [(i, y)]).foldl ends1 (ends0 s) = ends1 (pre.foldl ends1 (ends0 s)) (i, y) by rw [List.foldl_append]; rfl)
    have hsm := (ends0_same s).trans (endsF_same pre (ends0 s))
    have hiN : i ≤ 1000000000 := by omega
    have hvI : vI i := by unfold vI; omega
    obtain ⟨m7, m8, m9, m10, m11, m12, m13⟩ := chk_maps hS
    have hlN := (hS.names (by decide)).look Fs.kI (t := 66) Tryz.underlying66 (zvI V) (x := i) hvI (kyI hvI)
    have hlS := (hS.seen (by decide)).look Fs.kI (t := 66) Tryz.underlying66 (zvI V) (x := i) hvI (kyI hvI)
    rw [getD_iv] at hlN hlS
    generalize hsp : pre.foldl ends1 (ends0 s) = sp at *
    have hno5 : NodesOk (endA sp (i, y)) := by unfold NodesOk; rw [(endA_same sp (i, y)).nodes, hsm.nodes]; exact hno
    have hcl5 : ∀ c ∈ (endA sp (i, y)).cells i, c.2 < 4294967296 := by rw [(endA_same sp (i, y)).cells, hsm.cells]; exact hcl i
    have hTC := Lib.hid (And.intro hT hC)
    have hbx' := Lib.hid hbx
    have hX' := Lib.hid hX
    have hSb := Lib.hid hS
    clear hT hC hbx hX b2
    gi_step
    gi_step
    gi_step
    dsimp only
    gi_cut [] from 23 (fun wx => ∃ G5, Sim (N + 1 + 2 * pre.length + 1) wx A G5 (endA sp (i, y)) ∧ Stp V G1 wx G5)
    case first =>
      gi_step
      gi_step
      gi_cut [23] from 24 (fun v wx => v = .bool (decide (y.kind = 1 ∧ y.links = 0 ∧ i ≠ 1 ∧ (sp.names i).getD 0 = 0)) ∧ wx = V)
      case first =>
        have hor : ¬ y.kind = 1 ∨ (y.kind = 1 ∧ ¬ y.links = 0) ∨ (y.kind = 1 ∧ y.links = 0 ∧ i = 1) ∨ (y.kind = 1 ∧ y.links = 0 ∧ ¬ i = 1 ∧ ¬ (sp.names i).getD 0 = 0) ∨ (y.kind = 1 ∧ y.links = 0 ∧ ¬ i = 1 ∧ (sp.names i).getD 0 = 0) := by
          by_cases a1 : y.kind = 1
          · by_cases a2 : y.links = 0
            · by_cases a3 : i = 1
              · exact .inr (.inr (.inl ⟨a1, a2, a3⟩))
              · by_cases a4 : (sp.names i).getD 0 = 0
                · exact .inr (.inr (.inr (.inr ⟨a1, a2, a3, a4⟩)))
                · exact .inr (.inr (.inr (.inl ⟨a1, a2, a3, a4⟩)))
            · exact .inr (.inl ⟨a1, a2⟩)
          · exact .inl a1
        clear hS hsm hcl5 hno5 hlS hxz hvI
        rcases hor with q1 | ⟨q1, q2⟩ | ⟨q1, q2, q3⟩ | ⟨q1, q2, q3, q4⟩ | ⟨q1, q2, q3, q4⟩
        · have qa : ((y.kind : Int) == 1) = false := by rw [beq_eq_false_iff_ne]; omega
          have hcc := Lib.hid (show decide (y.kind = 1 ∧ y.links = 0 ∧ i ≠ 1 ∧ (sp.names i).getD 0 = 0) = false from decide_eq_false (fun h => q1 h.1))
          clear q1
          gi_wp2_with (refine wpListIn_lookup_run _ rfl 66 (.tmp 40) (.tmp 41) false rfl _ hlN ?_)
          gi_meet
          case rel => exact ⟨by first | (rw [hcc.out]; done) | (rw [hcc.out, bne, qc]; rfl), rfl⟩
        · rw [q1] at hk0
          have qb : ((y.links : Int) == 0) = false := by rw [beq_eq_false_iff_ne]; omega
          have hcc := Lib.hid (show decide (y.kind = 1 ∧ y.links = 0 ∧ i ≠ 1 ∧ (sp.names i).getD 0 = 0) = false from decide_eq_false (fun h => q2 h.2.1))
          clear q1  q2
          gi_wp2_with (refine wpListIn_lookup_run _ rfl 66 (.tmp 40) (.tmp 41) false rfl _ hlN ?_)
          gi_meet
          case rel => exact ⟨by first | (rw [hcc.out]; done) | (rw [hcc.out, bne, qc]; rfl), rfl⟩
        · rw [q1] at hk0
          rw [q2] at hk1
          have hcc := Lib.hid (show decide (y.kind = 1 ∧ y.links = 0 ∧ i ≠ 1 ∧ (sp.names i).getD 0 = 0) = false from decide_eq_false (fun h => h.2.2.1 q3))
          subst q3
          have q3 := trivial
          clear q1  q2  q3
          gi_wp2_with (refine wpListIn_lookup_run _ rfl 66 (.tmp 40) (.tmp 41) false rfl _ hlN ?_)
          gi_meet
          case rel => exact ⟨by first | (rw [hcc.out]; done) | (rw [hcc.out, bne, qc]; rfl), rfl⟩
        · rw [q1] at hk0
          rw [q2] at hk1
          have hcc := Lib.hid (show decide (y.kind = 1 ∧ y.links = 0 ∧ i ≠ 1 ∧ (sp.names i).getD 0 = 0) = false from decide_eq_false (fun h => q4 h.2.2.2))
          have qc : ((i : Int) == 1) = false := by rw [beq_eq_false_iff_ne]; omega
          have qj : ¬ (i : Int) = 1 := by omega
          have qd : ((((sp.names i).getD 0 : Nat) : Int) == 0) = false := by rw [beq_eq_false_iff_ne]; omega
          clear q1  q2  q3  q4
          gi_wp2_with (refine wpListIn_lookup_run _ rfl 66 (.tmp 40) (.tmp 41) false rfl _ hlN ?_)
          gi_meet
          case rel => exact ⟨by first | (rw [hcc.out]; done) | (rw [hcc.out, bne, qc]; rfl), rfl⟩
        · rw [q1] at hk0
          rw [q2] at hk1
          rw [q4] at hlN
          have hcc := Lib.hid (show decide (y.kind = 1 ∧ y.links = 0 ∧ i ≠ 1 ∧ (sp.names i).getD 0 = 0) = true from decide_eq_true ⟨q1, q2, q3, q4⟩)
          have qc : ((i : Int) == 1) = false := by rw [beq_eq_false_iff_ne]; omega
          have qj : ¬ (i : Int) = 1 := by omega
          clear q1  q2  q3  q4
          gi_wp2_with (refine wpListIn_lookup_run _ rfl 66 (.tmp 40) (.tmp 41) false rfl _ hlN ?_)
          gi_meet
          case rel => exact ⟨by first | (rw [hcc.out]; done) | (rw [hcc.out, bne, qc]; rfl), rfl⟩
      obtain ⟨rfl, rfl⟩ := hcut
      clear hlN hk0 hk1
      by_cases c1 : y.kind = 1 ∧ y.links = 0 ∧ i ≠ 1 ∧ (sp.names i).getD 0 = 0
      · have he5 := Lib.hid (show endA sp (i, y) = sp.tell (fnd 18 i 0) by unfold endA; rw [if_pos c1])
        have HT := tell_any hS (by omega) (fnd 18 i 0)
        rw [decide_eq_true c1]
        clear hS hlS hsm hcl5 hno5 c1
        gi_wp2_with fail
        refine ⟨trivial, (CallsIn.inRound l (callsIn_wide.2 HT)).mono ?_⟩
        clear HT
        rintro e V5 ⟨rfl, G5, hS5, hT5⟩
        gi_wp2_with fail
        gi_meet
        case rel => exact ⟨G5, by rw [he5.out]; exact hS5, hT5⟩
      · rw [decide_eq_false c1]
        by_cases c2 : (sp.seen i).getD 0 = 0
        · have he5 := Lib.hid (show endA sp (i, y) = sp.tell (fnd 14 i 0) by unfold endA; rw [if_neg c1, if_pos c2])
          have HT := tell_any hS (by omega) (fnd 14 i 0)
          rw [c2] at hlS
          clear hS hsm hcl5 hno5 c2 c1
          gi_wp2_with (refine wpListIn_lookup_run _ rfl 66 (.tmp 53) (.tmp 54) false rfl _ hlS ?_)
          refine ⟨trivial, (CallsIn.inRound l (callsIn_wide.2 HT)).mono ?_⟩
          clear HT
          rintro e V5 ⟨rfl, G5, hS5, hT5⟩
          gi_wp2_with fail
          gi_meet
          case rel => exact ⟨G5, by rw [he5.out]; exact hS5, hT5⟩
        · have he5 := Lib.hid (show endA sp (i, y) = sp by unfold endA; rw [if_neg c1, if_neg c2])
          have c2i : ((((sp.seen i).getD 0 : Nat) : Int) == 0) = false := by rw [beq_eq_false_iff_ne]; omega
          have hSb2 := Lib.hid hS
          generalize (sp.seen i).getD 0 = sni at *
          clear hS hsm hcl5 hno5 c2 c1
          gi_wp2_with (refine wpListIn_lookup_run _ rfl 66 (.tmp 53) (.tmp 54) false rfl _ hlS ?_)
          gi_meet
          case rel => exact ⟨G1, by rw [he5.out]; exact hSb2.out.mono (Nat.le_succ _), Stp.refl _ _⟩
    obtain ⟨G5, hS5, hT5⟩ := hcut
    have hbx5 := hbx'.out.same (hT5.block _ hbx'.out.lt hbw1)
    have b5 := hbx5.cell 0
    have hX5 := hX'.out.same (hT5.block _ hX'.out.lt hXw)
    have y1 := hX5.cell 1
    rw [hk1'] at y1
    have HL := links_any (hS5.drew) hno5 y i hiN hcl5 (Nat.le_trans (hS5.lenC i) (by omega))
    have hle : N + 1 + 2 * pre.length + 2 ≤ N + 1 + 2 * (pre ++ [(i, y)]).length := by simp; omega
    obtain ⟨c0, c1, c2, c3, c4, c5, c6, c7, c8, c9, c10, c11, c12, c13, c14, hCC⟩ := rec_cells y (hno _ _ hn).dir
    obtain ⟨y0, -, y2, y3, y4, y5, y6, y7, y8, y9, y10, y11, y12, y13, y14⟩ := cells15 hX5 hCC
    have hy1 : c1 = .int .i64 y.links := by
      have := hk1'
      rw [hCC] at this
      simpa using this
    subst hy1
    rw [hCC] at HL
    obtain ⟨lk, hlk⟩ : ∃ lk, linksS (endA sp (i, y)) i y = lk := ⟨_, rfl⟩
    rw [hlk] at HL
    have hbb : b < wc.heap.size := hX5.lt
    obtain ⟨hT, hC⟩ := hTC.out
    have hkp := Lib.hid (fun V6 G6 N6 s6 (hT6 : Stp V G1 V6 G6) (hS6 : Sim N6 V6 A G6 s6) (hN6 : N6 ≤ N + 1 + 2 * pre.length + 2) (hs6 : s6 = ends1 sp (i, y)) => show KeepsFrom wz.heap.size V V6 ∧ InL wz G2 A (N + 1 + 2 * (pre ++ [(i, y)]).length) ((pre ++ [(i, y)]).foldl ends1 (ends0 s)) V6 from
      ⟨keeps_of hC hT6, InL.go hT hC (by rw [hf1.out, ← hs6]; exact hS6.mono (Nat.le_trans hN6 hle)) hT6⟩)
    have hNb : N + 1 + 2 * pre.length + 1 ≤ 1000000000000 := by omega
    have hS5' := Lib.hid hS5
    have hT5' := Lib.hid hT5
    have hbx5' := Lib.hid hbx5
    have hnl := Lib.hid hlk
    have hlr := hS5.low
    clear hS5 hT5 hbx5 hX5 hS hlN hlS m7 m8 m9 m10 m11 m12 m13 b0 hk0 hk1 hsm hcl5 hno5 hlk hT hC hTC hbx' hX' hSb hCC hf1 hk0' hk1' hle hlr hno hcl hbV hxz hvI hn hp h1 hc hpl hN h hsp hbw1 hXw hT2 hw2 hbox2 hS2 hw0s hbw hcn hiN
    obtain ⟨t, ht⟩ : ∃ t : Bool, ((y.links : Int) == (lk : Int)) = t := ⟨_, rfl⟩
    have hlt := Lib.hid hbb
    have htt := Lib.hid (show t = decide (y.links = lk) by rw [← ht, Bool.eq_iff_iff]; simp; omega)
    obtain ⟨yl, hyl⟩ : ∃ yl, yl = y.links := ⟨_, rfl⟩
    rw [← hyl] at ht y1 HL
    replace hyl := Lib.hid hyl
    gi_wp2_with fail
    gi_cut [67] from 23 (fun v wx => v = .bool (!t) ∧ Below wc.heap.size wc wx)
    case first =>
      rename_i J K2 hJ hK2
      clear hkp hS5' hT5' hbx5' hnl htt hyl hbb
      have hdr : Hid (∀ V6, Below wc.drew.heap.size wc.drew V6 → Below wc.heap.size wc V6) := Lib.hid (fun V6 hb => (Below.refl wc.heap.size wc).drew.trans hb)
      gi_region_with (refine ⟨trivial, (CallsIn.inRound l (callsIn_wide.2 HL)).mono ?_⟩; rintro e V6 ⟨rfl, hb6⟩; have x61 := (World.cell?_of_block (a := ⟨b, 1, none⟩) (hb6.block b hlt.out)).trans y1)
      all_goals
        change K2 _ _
        refine hK2 _ _ (Met.intro (hJ _ _ ?_))
        refine ⟨_, _, _, _, _, _, _, _, _, _, _, _, _, _, _, _, _, _, _, _, _, _, _, _, _, _, _, _, _, _, _, _, _, _, _, _, _, _, _, _, _, _, _, _, _, _, _, _, _, ⟨?_, hdr.out _ hb6⟩, rfl⟩
        rw [bne, ht]
    obtain ⟨rfl, hb6⟩ := hcut
    obtain ⟨wy, hwy⟩ : ∃ wy, wy = wc := ⟨_, rfl⟩
    subst hwy
    have hbx6 := hbx5'.out.same (hb6.block _ hbx5'.out.lt)
    have b6 := hbx6.cell 0
    have hT6 := hT5'.out.trans (Stp.of_below (G := G5) hb6)
    have hS6 := hS5'.out.below hb6
    clear y0 y1 y2 y3 y4 y5 y6 y7 y8 y9 y10 y11 y12 y13 y14 HL ht
    by_cases hl : y.links = lk
    · have htv : t = true := by rw [htt.out]; exact decide_eq_true hl
      have hend := Lib.hid (hkp.out _ G5 _ _ hT6 hS6 (by omega) (show endA sp (i, y) = ends1 sp (i, y) by unfold ends1; rw [hnl.out, if_neg (by simp [hl])]))
      subst htv
      clear hkp hS5' hT5' hbx5' hnl htt hyl hbb hl hT6 hS6 hbx6 hb6
      gi_wp2_with fail
      exact ⟨rfl, hend.out⟩
    · have htv : t = false := by rw [htt.out]; exact decide_eq_false hl
      have HT := tell_any hS6 hNb (fnd 15 i 0)
      have hT6' := Lib.hid hT6
      have hf2 := Lib.hid (show (endA sp (i, y)).tell (fnd 15 i 0) = ends1 sp (i, y) by unfold ends1; rw [hnl.out, if_pos (by simpa using hl)])
      subst htv
      clear hS5' hT5' hbx5' hnl htt hyl hbb hl hT6 hS6 hbx6 hb6
      gi_wp2_with fail
      refine ⟨trivial, (CallsIn.inRound l (callsIn_wide.2 HT)).mono ?_⟩
      clear HT
      rintro e V7 ⟨rfl, G7, k1, k2⟩
      have hend := Lib.hid (hkp.out _ G7 _ _ (hT6'.out.trans k2) k1 (by omega) hf2.out)
      clear hkp hf2 k1 k2
      gi_wp2_with fail
      exact ⟨rfl, hend.out⟩
  · rintro D V hD hI hdef
    have hg := grownBy_putObj' V D (.deferred none)
    obtain ⟨G1, hS, hT, _⟩ := hI.grown hg (fun r e => by cases e; exact ⟨hD, _, hdef, rfl⟩) hS2.base
    simp only [Exit.inBlock]
    refine ⟨by simp, .inl ⟨_, _, rfl, run_takeDeferred hdef, ?_⟩⟩
    refine ⟨.tuple #[], ?_, ⟨_, rfl⟩, G1, ?_, hT2.trans hT⟩
    · simp [results, Tryz.f36, go_sem]
    · have hlen := eachTo_len s.nodes (countN A.n)
      exact hS.mono (by omega)
end
end Ck
end Go.Proofs.YtegplehbcdeeoaaGreatDoor
