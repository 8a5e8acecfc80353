/- The checker looks at directories and symbolic links. -/
import Derived.Test.YtegplehbcdeeoaaGreatDoorChkB20
import Derived.Test.YtegplehbcdeeoaaGreatDoorChkB23
import Derived.Test.YtegplehbcdeeoaaGreatDoorChkB24
import Derived.Test.YtegplehbcdeeoaaGreatDoorChkB19
namespace Go.Proofs.YtegplehbcdeeoaaGreatDoor
open Go.RowKit Go.Maps

attribute [local go_sem] Oper.semAt_some
namespace Ck
open Pk Pw
section
variable {F : Fence} {n : Nat} {P : Program}
/-- A map is made, fenced. -/
theorem wpListIn_makeMap (w : World) {ops : Array Oper} {rest : List Oper} {o : Oper} {a : Act} {Q : Exit → Act → World → Prop}
    (hw : o.guard = none) (t : TypeId) (hop : o.op = Op.makeMap t none) (hK : wpListIn F n P ops Q rest (a.put o.dst (.map (some w.heap.size))) (w.alloc (.map #[] 0))) : wpListIn F n P ops Q (o :: rest) a w := by
  refine wpListIn_plain hw fun K' hK' => ?_
  unfold Oper.wpIn
  refine ⟨by simp [Oper.about, hop], ?_⟩
  rw [Oper.semAt_plain F _ _ (by rw [hop]; intro c hc'; cases hc')]
  simp [execOp, hop, Instr.makeMap, go_sem, Result.andThen]
  exact hK' _ _ hK
end
section
variable {W W' w0 : World} {A : Adr} {G G' G0 : Gh} {s : St} {N N' tB pB : Nat} {d : Dt}
theorem dirB_nodes (l : B) (nd : Nat) (d : Dt) (k : Nat) : (dirB l nd d k).1.s.nodes = d.s.nodes := by
  unfold dirB
  split
  · rfl
  · split
    · rfl
    · exact (fold_keeps _ _ _).1
theorem dirGo_nodes (l : B) (nd : Nat) : ∀ (ks : List Nat) (d : Dt), (dirGo l nd ks d).s.nodes = d.s.nodes
  | [], _ => rfl
  | k :: r, d => by
    unfold dirGo
    split
    · exact dirB_nodes l nd d k
    · exact (dirGo_nodes l nd r _).trans (dirB_nodes l nd d k)
theorem dirS_nodes (l : B) (nd size : Nat) (d : Dt) : (dirS l nd size d).s.nodes = d.s.nodes := dirGo_nodes _ _ _ _
def thing1 (l : B) (d : Dt) (x : Nat × Rc) : Dt :=
  if x.2.kind = 2 then dirS l x.1 x.2.size d
  else if x.2.kind = 3 then (match Fs.textP (textS l d.s x.1 x.2.size) with | .ok _ => d | .error _ => { d with s := d.s.tell (fnd 17 x.1 0) })
  else d
def thingsS (n : Nat) (l : B) (s : St) : St := ((eachTo s.nodes (countN n)).foldl (thing1 l) ⟨s, fun _ => none, fun _ => none⟩).s
/-- The checker's data and the two maps, since the loop began. -/
def InD (w0 : World) (G0 : Gh) (A : Adr) (tB pB N : Nat) (d : Dt) (W : World) : Prop := ∃ G, SimD N W A G tB pB d ∧ StpD tB pB w0 G0 W G ∧ Cw w0.heap.size W G
theorem StpD.cw' (t : StpD tB pB W G W' G') : ∀ B, Cw B W G → Cw B W' G' := t.cw
theorem InD.grown (h : InD w0 G0 A tB pB N d W) {row : Option Nat} (hg : W.grownBy W' row) (hr : ∀ r, row = some r → w0.heap.size ≤ r ∧ ∃ o : Obj, W.heap[r]? = some o ∧ o.isCells = false) (hb0 : A.base ≤ w0.heap.size) (ht : tB < w0.heap.size) (hp : pB < w0.heap.size) : InD w0 G0 A tB pB N d W' := by
  obtain ⟨G, hS, hT, hC⟩ := h
  cases row with
  | none =>
    have hb : Below W.heap.size W W' := ⟨hg.os, hg.tape, hg.output, hg.size, fun k hk => hg.block k hk (fun e => by cases e)⟩
    exact ⟨G, hS.below hb, hT.trans (Stp.of_below hb).toD, (Stp.of_below (G := G) hb).cw _ hC⟩
  | some r =>
    obtain ⟨hB, o, ho, hn⟩ := hr r rfl
    have hw := cw_other hC hB ho hn
    have hk : ∀ b, b < W.heap.size → b ≠ r → W'.heap[b]? = W.heap[b]? := fun b hb hne => hg.block b hb (fun e => hne (by cases e; rfl))
    have hcw : ∀ B, Cw B W G → Cw B W' G := fun B c b hB' hw' => by
      obtain ⟨cs, t, fr, e⟩ := c b hB' hw'
      have hne : b ≠ r := fun e2 => by subst e2; exact hw' hw
      exact ⟨cs, t, fr, (hk b (lt_of_block e) hne).trans e⟩
    refine ⟨G, ⟨hS.sim.beside hg.size hg.os hg.tape hg.output (Nat.le_trans hb0 hB) hw hk, hS.there.same (hk _ hS.there.lt (by omega)), hS.parents.same (hk _ hS.parents.lt (by omega)), hS.wT, hS.wP, hS.ne, hS.bT, hS.bP⟩, ?_, hcw _ hC⟩
    exact ⟨hg.os.trans hT.os, hg.tape.trans hT.tape, hg.output.trans hT.output, Nat.le_trans hT.size hg.size, hT.who, fun b hb e e1 e2 => (hk b (Nat.lt_of_lt_of_le hb hT.size) (by omega)).trans (hT.block b hb e e1 e2), fun B c => hcw B (hT.cw B c)⟩
theorem inD_own {α : Type} (Nf : List α → Nat) (f : List α → Dt) (hb0 : A.base ≤ w0.heap.size) (ht : tB < w0.heap.size) (hp : pB < w0.heap.size) : OwnFrom w0.heap.size (fun (pre : List α) W => InD w0 G0 A tB pB (Nf pre) (f pre) W) :=
  fun _ _ _ _ h hg hr => h.grown hg hr hb0 ht hp
theorem keepsD_of (hc : Cw w0.heap.size W G) (t : StpD tB pB W G W' G') (ht : tB < w0.heap.size) (hp : pB < w0.heap.size) : KeepsFrom w0.heap.size W W' :=
  ⟨t.size, fun k _ hk ho hn => (t.block k (Array.getElem?_eq_some_iff.1 ho).1 (cw_other hc hk ho hn) (by omega) (by omega)).trans ho⟩
theorem InD.go {d' : Dt} (hT : StpD tB pB w0 G0 W G) (hC : Cw w0.heap.size W G) (h2 : SimD N' W' A G' tB pB d') (t : StpD tB pB W G W' G') : InD w0 G0 A tB pB N' d' W' := ⟨G', h2, hT.trans t, t.cw _ hC⟩
/-- The two maps are the call's own: what is done to them is nobody's. -/
theorem StpD.own (t : StpD tB pB W G W' G') (ht : W.heap.size ≤ tB) (hp : W.heap.size ≤ pB) : Stp W G W' G' :=
  ⟨t.os, t.tape, t.output, t.size, t.who, fun b h1 h2 => t.block b h1 h2 (by omega) (by omega), t.cw⟩
theorem StpD.stp_trans {W0 : World} {G00 : Gh} (h : Stp W0 G00 W G) (t : StpD tB pB W G W' G') (ht : W0.heap.size ≤ tB) (hp : W0.heap.size ≤ pB) : Stp W0 G00 W' G' :=
  StpD.own (h.toD.trans t) ht hp
theorem thing1_nodes (l : B) (d : Dt) (x : Nat × Rc) : (thing1 l d x).s.nodes = d.s.nodes := by
  unfold thing1
  split
  · exact dirS_nodes _ _ _ _
  · split
    · split <;> rfl
    · rfl
theorem things_nodes (l : B) : ∀ (xs : List (Nat × Rc)) (d : Dt), (xs.foldl (thing1 l) d).s.nodes = d.s.nodes
  | [], _ => rfl
  | x :: xs, d => (things_nodes l xs _).trans (thing1_nodes l d x)
def thingsD (l : B) (s : St) (pre : List (Nat × Rc)) : Dt := pre.foldl (thing1 l) ⟨s, fun _ => none, fun _ => none⟩
/-- What a round keeps. -/
def ThingI (w0 : World) (G0 : Gh) (A : Adr) (tB pB : Nat) (s : St) (N : Nat) (pre : List (Nat × Rc)) (V : World) : Prop :=
  InD w0 G0 A tB pB (N + 2000001 * pre.length) (thingsD A.bytes s pre) V ∧ BlocksOk A.n (thingsD A.bytes s pre).s ∧ NamesOk (N + 2000001 * pre.length) (thingsD A.bytes s pre).s
theorem thingI_own (s : St) (hb0 : A.base ≤ w0.heap.size) (ht : tB < w0.heap.size) (hp : pB < w0.heap.size) : OwnFrom w0.heap.size (ThingI w0 G0 A tB pB s N) :=
  fun _ _ _ _ h hg hr => ⟨h.1.grown hg hr hb0 ht hp, h.2⟩
theorem MapF.made {κ κ' ν : Type} [DecidableEq κ'] [Fs.Key κ'] {P : Program} {k : TypeId} {ev : ν → Value} {en : κ → κ'} {V : κ → Prop} {W : World} (N : Nat) : MapF P k ev en V (W.alloc (.map #[] 0)) W.heap.size N (fun _ => none) :=
  ⟨[], ⟨World.ownsMap_made _ _ _ _, Fs.Rising.nil⟩, by simp, fun _ _ => rfl⟩
theorem MapF.alloc {κ κ' ν : Type} [DecidableEq κ'] [Fs.Key κ'] {P : Program} {b : Nat} {k : TypeId} {ev : ν → Value} {en : κ → κ'} {V : κ → Prop} {f : κ → Option ν} (h : MapF P k ev en V W b N f) (o : Obj) : MapF P k ev en V (W.alloc o) b N f := h.same (((Below.refl _ _).alloc (Nat.le_refl _) _).block _ h.lt)
theorem eachTo_mem {nodes : Nat → Option Rc} {k : Nat} {x : Nat × Rc} (h : x ∈ eachTo nodes k) : nodes x.1 = some x.2 ∧ 1 ≤ x.1 ∧ x.1 < k := by
  unfold eachTo at h
  rw [List.mem_filterMap] at h
  obtain ⟨j, hj, e⟩ := h
  rw [List.mem_range'_1] at hj
  cases hn : nodes j with
  | none => rw [hn] at e; cases e
  | some y => rw [hn] at e; cases e; exact ⟨hn, by dsimp only; omega, by dsimp only; omega⟩
set_option maxRecDepth 100000 in
set_option maxHeartbeats 4000000 in
theorem things_any (h : Sim N W A G s) (hno : NodesOk s) (hmay : ∀ i x, s.nodes i = some x → x.kind = 2 ∨ x.kind = 3 → x.size ≤ 8459264) (hbo : BlocksOk A.n s) (hnm : NamesOk N s) (hN : N ≤ 100000000000) : Calls Tryz.prog 33 #[.pointer (some ⟨A.c, 0, none⟩)] W
    fun e W' => (∃ v, e = .returned v) ∧ ∃ G', Sim (N + 2000001 * 2048) W' A G' (thingsS A.n A.bytes s) ∧ Stp W G W' G' := by
  refine (callsIn_wide (n := 4)).1 ?_
  refine callsIn_of_wp_marks Tryz.func33 rfl trivial ?_ rfl
  simp only [Tryz.ntmps33, List.size_toArray, List.length_cons, List.length_nil, Nat.reduceAdd, Nat.reduceSub, Array.replicate_succ, Array.replicate_zero, List.push_toArray, List.append_toArray, List.nil_append, List.cons_append]
  gi_wp2_with (refine wpListIn_makeMap _ rfl _ rfl ?_)
  have hb0 := (Below.refl W.heap.size W).alloc (Nat.le_refl _) (.cells #[.pointer (some ⟨A.c, 0, none⟩)] 64)
  have hb1 := hb0.alloc hb0.size (.map #[] 0)
  have hb2 := hb1.alloc hb1.size (.map #[] 0)
  have hb3 := hb2.alloc hb2.size (.cells #[.map (some (W.heap.size + 1))] 110)
  have hb4 := hb3.alloc hb3.size (.cells #[.map (some (W.heap.size + 2))] 66)
  have hmT : MapN (W.alloc (.cells #[.pointer (some ⟨A.c, 0, none⟩)] 64) |>.alloc (.map #[] 0)) (W.heap.size + 1) N (fun _ => none) := by
    have := MapF.made (P := Tryz.prog) (k := 173) (ev := fun n : Nat => Value.int .i64 n) (en := enN) (V := vN) (W := W.alloc (.cells #[.pointer (some ⟨A.c, 0, none⟩)] 64)) N
    rwa [alloc_size] at this
  have hmP : MapI iv (W.alloc (.cells #[.pointer (some ⟨A.c, 0, none⟩)] 64) |>.alloc (.map #[] 0) |>.alloc (.map #[] 0)) (W.heap.size + 2) N (fun _ => none) := by
    have := MapF.made (P := Tryz.prog) (k := 3) (ev := iv) (en := enI) (V := vI) (W := W.alloc (.cells #[.pointer (some ⟨A.c, 0, none⟩)] 64) |>.alloc (.map #[] 0)) N
    rwa [alloc_size, alloc_size] at this
  have hbx0 := (((((Blk.new W #[.pointer (some ⟨A.c, 0, none⟩)] 64).alloc (.map #[] 0)).alloc (.map #[] 0)).alloc (.cells #[.map (some (W.heap.size + 1))] 110)).alloc (.cells #[.map (some (W.heap.size + 2))] 66))
  have hbx3 := (Blk.newAt (W := W.alloc (.cells #[.pointer (some ⟨A.c, 0, none⟩)] 64) |>.alloc (.map #[] 0) |>.alloc (.map #[] 0)) (b := W.heap.size + 3) #[.map (some (W.heap.size + 1))] 110 (by simp)).alloc (.cells #[.map (some (W.heap.size + 2))] 66)
  have hbx4 := (Blk.newAt (W := W.alloc (.cells #[.pointer (some ⟨A.c, 0, none⟩)] 64) |>.alloc (.map #[] 0) |>.alloc (.map #[] 0) |>.alloc (.cells #[.map (some (W.heap.size + 1))] 110)) (b := W.heap.size + 4) #[.map (some (W.heap.size + 2))] 66 (by simp))
  have hS0 : SimD N _ A G (W.heap.size + 1) (W.heap.size + 2) ⟨s, fun _ => none, fun _ => none⟩ := ⟨h.below hb4, (((hmT.alloc (.map #[] 0)).alloc (.cells #[.map (some (W.heap.size + 1))] 110)).alloc (.cells #[.map (some (W.heap.size + 2))] 66)), ((hmP.alloc (.cells #[.map (some (W.heap.size + 1))] 110)).alloc (.cells #[.map (some (W.heap.size + 2))] 66)), h.other_of (.inl (by omega)), h.other_of (.inl (by omega)), by omega, by have := h.base; omega, by have := h.base; omega⟩
  have hT0 := Stp.of_below (G := G) hb4
  have hw0 : G.who W.heap.size = .other := h.other_of (.inl (Nat.le_refl _))
  have hw3 : G.who (W.heap.size + 3) = .other := h.other_of (.inl (by omega))
  have hw4 : G.who (W.heap.size + 4) = .other := h.other_of (.inl (by omega))
  have hsz : W.heap.size + 4 < (((((W.alloc (.cells #[.pointer (some ⟨A.c, 0, none⟩)] 64)).alloc (.map #[] 0)).alloc (.map #[] 0)).alloc (.cells #[.map (some (W.heap.size + 1))] 110)).alloc (.cells #[.map (some (W.heap.size + 2))] 66)).heap.size := by simp
  have hcn : countN A.n ≤ 2048 := by have := h.n2; unfold countN; omega
  clear hb0 hb1 hb2 hb3 hmT hmP
  generalize ((((W.alloc (.cells #[.pointer (some ⟨A.c, 0, none⟩)] 64)).alloc (.map #[] 0)).alloc (.map #[] 0)).alloc (.cells #[.map (some (W.heap.size + 1))] 110)).alloc (.cells #[.map (some (W.heap.size + 2))] 66) = w0 at *
  refine wpIn_range_boxed (F := Fence.wide) (α := Nat × Rc) rfl (by omega) (gf := 30) (rv := .pointer (some ⟨A.c, 0, none⟩)) rfl trivial (enters_of Tryz.func30 (by kernel_rfl) rfl)
    (fun x => #[.int .i64 x.1, .agg (recC x.2)]) (fun _ => rfl) (eachTo s.nodes (countN A.n)) (fun pre x => pre = eachTo s.nodes x.1 ∧ s.nodes x.1 = some x.2 ∧ 1 ≤ x.1 ∧ x.1 < countN A.n)
    (fun pre V => ThingI w0 G A (W.heap.size + 1) (W.heap.size + 2) s N pre V) (thingI_own _ hS0.sim.base (by omega) (by omega)) ⟨⟨G, by simpa [thingsD] using hS0, StpD.refl _ _ _ _, Cw.start hS0.sim⟩, hbo, by simpa [thingsD] using hnm⟩ ?_
    (fun x => .cells (recC x.2) 74)
    (fun x b => { tmps := #[.pointer (some ⟨A.c, 0, none⟩), .pointer (some ⟨W.heap.size, 0, none⟩), .pointer (some ⟨W.heap.size + 3, 0, none⟩), .pointer (some ⟨W.heap.size + 4, 0, none⟩), .int .i64 x.1, .pointer (some ⟨b, 0, none⟩), undef, undef, undef, .map (some (W.heap.size + 1)), .map (some (W.heap.size + 2)), .pointer (some ⟨A.c, 0, none⟩), .func (.func 30) #[.pointer (some ⟨A.c, 0, none⟩)] #[], .int .i64 x.1, .agg (recC x.2), undef, undef, undef, undef, undef, undef, undef, undef, undef, undef, undef, undef, undef, undef, undef, undef, undef, undef, undef, undef, undef, undef, undef, undef, undef, undef, undef], defers := [] }) ?_ ?_ ?_
  · intro l J V hJI hJb hY hJ0
    exact each_in Fence.wide 3 trivial rfl (by omega) l s.nodes hno J (fun pre V' hj => by
      obtain ⟨⟨G1, k1, _⟩, _⟩ := hJI pre V' hj
      exact ⟨_, G1, _, k1.sim, (things_nodes _ pre ⟨s, fun _ => none, fun _ => none⟩)⟩) hJb (fun pre x W1 hj hp hn h1 hc => hY pre x W1 hj ⟨hp, hn, h1, hc⟩) V hJ0
  · rintro l pre x V K ⟨_, hnx, _, _⟩ hK
    have hxz := (hno _ _ hnx).csize
    have hst := store_new V 74 (Array.replicate 15 (.int .i64 0)) (recC x.2) (by rw [hxz]; kernel_rfl) (by rw [hxz]; rfl) (natC_one _)
    generalize recC x.2 = C at *
    clear hxz
    gi_wp2_with (refine wpListIn_store_run _ rfl (.tmp 5) (.tmp 14) 74 rfl _ hst ?_)
    exact hK
  · rintro l pre x b V ⟨⟨G1, hS, hT, hC⟩, hbo1, hnm1⟩ ⟨hp, hn, h1, hc⟩ hbb hbV
    obtain ⟨i, y⟩ := x
    dsimp only at hp hn h1 hc hbV
    have hpl : pre.length ≤ 2048 := by rw [hp]; exact Nat.le_trans (eachTo_len _ _) (by omega)
    replace hp := Lib.hid hp
    have hne0 : W.heap.size ≠ W.heap.size + 1 ∧ W.heap.size ≠ W.heap.size + 2 := ⟨by omega, by omega⟩
    have hbx := hbx0.same (hT.block _ hbx0.lt hw0 (by omega) (by omega))
    have hbxT := hbx3.same (hT.block _ hbx3.lt hw3 (by omega) (by omega))
    have hbxP := hbx4.same (hT.block _ hbx4.lt hw4 (by omega) (by omega))
    have b0 := hbx.cell 0
    have bT := hbxT.cell 0
    have bP := hbxP.cell 0
    have hX : Blk V b (recC y) 74 := hbV
    have hxz := (hno _ _ hn).csize
    have hld := load_str (ty := 74) hX (by exact Tryz.underlying74) (by rw [hxz]; kernel_rfl)
    have hk0 := hX.cell 0
    have hk0' : (recC y)[0]? = some (.int .i64 y.kind) := by unfold recC; rw [natC_get]; rfl
    rw [hk0'] at hk0
    have hf1 := Lib.hid (show thingsD A.bytes s (pre ++ [(i, y)]) = thing1 A.bytes (thingsD A.bytes s pre) (i, y) by unfold thingsD; rw [List.foldl_append]; rfl)
    have hno1 : NodesOk (thingsD A.bytes s pre).s := by
      have := things_nodes A.bytes pre ⟨s, fun _ => none, fun _ => none⟩
      intro j z hj
      unfold thingsD at hj
      rw [this] at hj
      exact hno j z hj
    have hiN : i ≤ 1000000000 := by omega
    have hmy := hmay i y hn
    generalize hD1 : thingsD A.bytes s pre = d1 at *
    have hHI := Lib.hid (And.intro hT (And.intro hC hbo1))
    have hk0n : Hid (∀ V' : World, True) := Lib.hid (fun _ => trivial)
    by_cases h2 : y.kind = 2
    · rw [h2] at hk0
      have HD := dirI_any hS (by omega) hno1 hbo1 hnm1 y (hmy (.inl h2)) i hiN
      have hdd : thing1 A.bytes d1 (i, y) = dirS A.bytes i y.size d1 := by unfold thing1; rw [if_pos h2]
      rw [hdd] at hf1
      generalize dirS A.bytes i y.size d1 = d2 at *
      generalize recC y = C at *
      clear hS hT hC hbx hbxT hbxP hX hk0' hxz
      gi_wp2_with (refine wpListIn_load_when _ rfl (.tmp 5) 74 rfl _ hld ?_)
      refine ⟨trivial, (CallsIn.inRound l (callsIn_wide.2 HD)).mono ?_⟩
      clear HD
      rintro e w5 ⟨rfl, G5, k1, k2, k3, k4, k5⟩
      obtain ⟨hT, hC, hbo1⟩ := hHI.out
      have hE := Lib.hid (show KeepsFrom w0.heap.size V w5 ∧ ThingI w0 G A (W.heap.size + 1) (W.heap.size + 2) s N (pre ++ [(i, y)]) w5 from by
        refine ⟨keepsD_of hC k2 (by omega) (by omega), ?_⟩
        unfold ThingI
        rw [hf1.out]
        have hle : N + 2000001 * pre.length + 2000000 ≤ N + 2000001 * (pre ++ [(i, y)]).length := by simp; omega
        exact ⟨InD.go hT hC (k1.mono hle) k2, k4, fun a v hv => Nat.le_trans (k5 a v hv) hle⟩)
      clear k1 k2 k3 k4 k5 hT hC hbo1
      gi_wp2
      exact ⟨rfl, hE.out⟩
    · have h2i : ¬ (y.kind : Int) = 2 := by omega
      by_cases h3 : y.kind = 3
      · have HX := textI_any hS.sim hbo1 y (hmy (.inr h3)) i hiN
        have htl : (textS A.bytes d1.s i y.size).length ≤ 140737488355328 := by
          unfold textS
          have := List.length_take_le y.size (textTo A.bytes d1.s i ((y.size + 511) / 512))
          have := hmy (.inr h3)
          omega
        have hdd : thing1 A.bytes d1 (i, y) = (match Fs.textP (textS A.bytes d1.s i y.size) with | .ok _ => d1 | .error _ => { d1 with s := d1.s.tell (fnd 17 i 0) }) := by unfold thing1; rw [if_neg h2, if_pos h3]
        rw [hdd] at hf1
        rw [h3] at hk0
        have HP := fun w' => text_st (textS A.bytes d1.s i y.size) htl w'
        generalize textS A.bytes d1.s i y.size = tx at *
        have hSb := Lib.hid (And.intro hS hnm1)
        have hbx' := Lib.hid hbx
        generalize recC y = C at *
        clear hS hT hC hbx hbxT hbxP hX hk0' hxz hno1 htl hdd
        gi_wp2_with (refine wpListIn_load_when _ rfl (.tmp 5) 74 rfl _ hld ?_)
        refine ⟨trivial, (CallsIn.inRound l (callsIn_wide.2 HX)).mono ?_⟩
        clear HX
        rintro e w5 ⟨rfl, hb5⟩
        have HP5 := HP w5
        gi_wp2
        refine ⟨trivial, (CallsIn.inRound l (callsIn_wide.2 HP5)).mono ?_⟩
        clear HP5 HP
        rintro e w6 ⟨hb6, hres⟩
        have hb56 := hb5.trans (hb6.mono hb5.size)
        cases htx : Fs.textP tx with
        | ok p =>
          obtain ⟨parts, top⟩ := p
          rw [htx] at hres hf1
          obtain ⟨v, rfl, _⟩ := hres
          obtain ⟨hT, hC, hbo1⟩ := hHI.out
          have hE := Lib.hid (show KeepsFrom w0.heap.size V w6 ∧ ThingI w0 G A (W.heap.size + 1) (W.heap.size + 2) s N (pre ++ [(i, y)]) w6 from by
            have k2 := (Stp.of_below (G := G1) hb56).toD (tB := W.heap.size + 1) (pB := W.heap.size + 2)
            refine ⟨keepsD_of hC k2 (by omega) (by omega), ?_⟩
            unfold ThingI
            rw [hf1.out]
            have hle : N + 2000001 * pre.length ≤ N + 2000001 * (pre ++ [(i, y)]).length := by simp; omega
            exact ⟨InD.go hT hC ((hSb.out.1.below hb56).mono hle) k2, hbo1, fun a v hv => Nat.le_trans (hSb.out.2 a v hv) hle⟩)
          clear hb5 hb6 hb56 hT hC hbo1 hf1
          gi_wp2
          exact ⟨rfl, hE.out⟩
        | error z =>
          rw [htx] at hres hf1
          obtain ⟨rfl, hz⟩ := hres
          have hzi : ¬ (z : Int) = 0 := by omega
          have hb6' := hbx'.out.same (hb56.block _ hbx'.out.lt)
          have b06 := hb6'.cell 0
          have HT := tell_any (hSb.out.1.sim.below hb56) (by omega) (fnd 17 i 0)
          have hb56' := Lib.hid hb56
          clear hb5 hb6 hb56 hb6'
          gi_wp2
          refine ⟨trivial, (CallsIn.inRound l (callsIn_wide.2 HT)).mono ?_⟩
          clear HT
          rintro e w7 ⟨rfl, G7, k1, k2⟩
          obtain ⟨hT, hC, hbo1⟩ := hHI.out
          have hE := Lib.hid (show KeepsFrom w0.heap.size V w7 ∧ ThingI w0 G A (W.heap.size + 1) (W.heap.size + 2) s N (pre ++ [(i, y)]) w7 from by
            have k3 := ((Stp.of_below (G := G1) hb56'.out).trans k2).toD (tB := W.heap.size + 1) (pB := W.heap.size + 2)
            refine ⟨keepsD_of hC k3 (by omega) (by omega), ?_⟩
            unfold ThingI
            rw [hf1.out]
            have hle : N + 2000001 * pre.length + 1 ≤ N + 2000001 * (pre ++ [(i, y)]).length := by simp; omega
            exact ⟨InD.go hT hC (((hSb.out.1.below hb56'.out).step k1 k2 (Nat.le_succ _)).mono hle) k3, hbo1, fun a v hv => Nat.le_trans (hSb.out.2 a v hv) (by omega)⟩)
          clear k1 k2 hT hC hbo1 hf1
          gi_wp2
          exact ⟨rfl, hE.out⟩
      · have h3i : ¬ (y.kind : Int) = 3 := by omega
        have hdd : thing1 A.bytes d1 (i, y) = d1 := by unfold thing1; rw [if_neg h2, if_neg h3]
        rw [hdd] at hf1
        have hE := Lib.hid (show KeepsFrom w0.heap.size V V ∧ ThingI w0 G A (W.heap.size + 1) (W.heap.size + 2) s N (pre ++ [(i, y)]) V from by
          refine ⟨KeepsFrom.refl _ _, ?_⟩
          unfold ThingI
          rw [hf1.out]
          have hle : N + 2000001 * pre.length ≤ N + 2000001 * (pre ++ [(i, y)]).length := by simp; omega
          exact ⟨InD.go hT hC (hS.mono hle) (StpD.refl _ _ _ _), hbo1, fun a v hv => Nat.le_trans (hnm1 a v hv) hle⟩)
        generalize recC y = C at *
        clear hS hT hC hbx hbxT hbxP hX hk0' hxz hno1 hdd hf1 hbo1 hnm1
        gi_wp2_with fail
        exact ⟨rfl, hE.out⟩
  · rintro D V hD ⟨hI, hbo1, hnm1⟩ hdef
    have hg := grownBy_putObj' V D (.deferred none)
    obtain ⟨G1, hS, hT, _⟩ := hI.grown hg (fun r e => by cases e; exact ⟨hD, _, hdef, rfl⟩) hS0.sim.base (by omega) (by omega)
    simp only [Exit.inBlock]
    refine ⟨by simp, .inl ⟨_, _, rfl, run_takeDeferred hdef, ?_⟩⟩
    refine ⟨.tuple #[], ?_, ⟨_, rfl⟩, G1, ?_, StpD.stp_trans hT0 hT (by omega) (by omega)⟩
    · simp [results, Tryz.f33, go_sem]
    · have hlen := eachTo_len s.nodes (countN A.n)
      exact hS.sim.mono (by have := Nat.mul_le_mul_left 2000001 (Nat.le_trans hlen hcn); omega)
end
end Ck
end Go.Proofs.YtegplehbcdeeoaaGreatDoor
/- What the look at directories does to their rows: plain. -/
namespace Go.Proofs.YtegplehbcdeeoaaGreatDoor
open Go.RowKit Go.Maps

namespace Ck
open Pk Pw
theorem kindS_cells (nd : Nat) (d : Dt) (s2 : St) (nm : B) (ino : Nat) : (kindS nd d s2 nm ino).cells = s2.cells := by
  unfold kindS
  split
  · rfl
  · split
    · rfl
    · split <;> rfl
theorem entS_cells (nd : Nat) (d : Dt) (e : Ent) : (entS nd d e).s.cells = fun j => if j = nd then d.s.cells nd ++ [e.2] else d.s.cells j := by
  unfold entS
  dsimp only
  rw [kindS_cells]
  split <;> rfl
theorem fold_cells (nd : Nat) : ∀ (r : List Ent) (d : Dt), (r.foldl (entS nd) d).s.cells = fun j => if j = nd then d.s.cells nd ++ r.map (·.2) else d.s.cells j
  | [], d => by
    funext j
    by_cases h : j = nd <;> simp [h]
  | e :: r, d => by
    rw [List.foldl_cons, fold_cells nd r]
    funext j
    rw [entS_cells]
    by_cases h : j = nd <;> simp [h]
/-- A directory's block adds sixteen cells at most, and their inodes are words. -/
theorem dirB_cells (l : B) (nd : Nat) (d : Dt) (k : Nat) : ∃ r : List Cl, r.length ≤ 16 ∧ (∀ c ∈ r, c.2 < 4294967296) ∧ (dirB l nd d k).1.s.cells = fun j => if j = nd then d.s.cells nd ++ r else d.s.cells j := by
  have h0 : d.s.cells = fun j => if j = nd then d.s.cells nd ++ [] else d.s.cells j := by
    funext j
    by_cases h : j = nd <;> simp [h]
  unfold dirB
  split
  · exact ⟨[], by simp, by simp, h0⟩
  · split
    · exact ⟨[], by simp, by simp, h0⟩
    · rename_i r hr
      refine ⟨r.map (·.2), ?_, ?_, fold_cells nd r d⟩
      · rw [List.length_map]
        unfold slotsP at hr
        split at hr
        · cases hr; exact slotTo_len _ _
        · cases hr
      · intro c hc
        obtain ⟨e, he, rfl⟩ := List.mem_map.1 hc
        exact (slot_mem hr he).1
theorem dirGo_cells (l : B) (nd : Nat) : ∀ (ks : List Nat) (d : Dt), ∃ r : List Cl, r.length ≤ 16 * ks.length ∧ (∀ c ∈ r, c.2 < 4294967296) ∧ (dirGo l nd ks d).s.cells = fun j => if j = nd then d.s.cells nd ++ r else d.s.cells j
  | [], d => ⟨[], by simp, by simp, by
    funext j
    unfold dirGo
    by_cases h : j = nd <;> simp [h]⟩
  | k :: ks, d => by
    obtain ⟨r1, a1, b1, c1⟩ := dirB_cells l nd d k
    unfold dirGo
    split
    · exact ⟨r1, by rw [List.length_cons]; omega, b1, c1⟩
    · obtain ⟨r2, a2, b2, c2⟩ := dirGo_cells l nd ks (dirB l nd d k).1
      refine ⟨r1 ++ r2, by rw [List.length_append, List.length_cons]; omega, fun c hc => ?_, ?_⟩
      · rcases List.mem_append.1 hc with h | h
        · exact b1 c h
        · exact b2 c h
      · rw [c2, c1]
        funext j
        by_cases h : j = nd <;> simp [h]
/-- What holds of the rows behind some of the inodes. -/
def RowsOk (seen : Nat → Prop) (s : St) : Prop := (∀ j, (s.cells j).length ≤ 264352) ∧ (∀ j, ∀ c ∈ s.cells j, c.2 < 4294967296) ∧ (∀ j, ¬ seen j → s.cells j = [])
theorem thing1_rows (l : B) (d : Dt) (x : Nat × Rc) (seen : Nat → Prop) (h : RowsOk seen d.s) (hx : ¬ seen x.1) (hs : x.2.kind = 2 → x.2.size ≤ 8459264) : RowsOk (fun j => seen j ∨ j = x.1) (thing1 l d x).s := by
  have hweak : RowsOk (fun j => seen j ∨ j = x.1) d.s := ⟨h.1, h.2.1, fun j hj => h.2.2 j (fun e => hj (.inl e))⟩
  unfold thing1
  split
  · rename_i hk
    obtain ⟨r, a, b, c⟩ := dirGo_cells l x.1 (List.range (x.2.size / 512)) d
    have h0 := h.2.2 x.1 hx
    have hsz := hs hk
    unfold dirS
    rw [List.length_range] at a
    refine ⟨fun j => ?_, fun j e he => ?_, fun j hj => ?_⟩
    · rw [c]; dsimp only
      split
      · rw [h0, List.nil_append]; omega
      · exact h.1 j
    · rw [c] at he; dsimp only at he
      split at he
      · rw [h0, List.nil_append] at he; exact b e he
      · exact h.2.1 j e he
    · rw [c]; dsimp only
      rw [if_neg (fun e => hj (.inr e))]
      exact h.2.2 j (fun e => hj (.inl e))
  · split
    · split
      · exact hweak
      · exact hweak
    · exact hweak
theorem things_rows (l : B) : ∀ (xs : List (Nat × Rc)) (d : Dt) (seen : Nat → Prop), RowsOk seen d.s → (∀ x ∈ xs, ¬ seen x.1) → xs.Pairwise (fun a b => a.1 ≠ b.1) → (∀ x ∈ xs, x.2.kind = 2 → x.2.size ≤ 8459264) → ∃ seen', RowsOk seen' (xs.foldl (thing1 l) d).s
  | [], _, seen, h, _, _, _ => ⟨seen, h⟩
  | x :: xs, d, seen, h, h1, h2, h3 => by
    rw [List.pairwise_cons] at h2
    exact things_rows l xs _ _ (thing1_rows l d x seen h (h1 x (by simp)) (h3 x (by simp)))
      (fun y hy e => e.elim (h1 y (by simp [hy])) (fun e => h2.1 y hy e.symm)) h2.2 (fun y hy => h3 y (by simp [hy]))
theorem eachTo_apart (nodes : Nat → Option Rc) (k : Nat) : (eachTo nodes k).Pairwise (fun a b => a.1 ≠ b.1) := by
  unfold eachTo
  rw [List.pairwise_filterMap]
  refine (List.pairwise_lt_range' (s := 1) (n := k - 1)).imp ?_
  intro a b hab x hx y hy e
  cases ha : nodes a with
  | none => rw [ha] at hx; cases hx
  | some u =>
    cases hb : nodes b with
    | none => rw [hb] at hy; cases hy
    | some v =>
      rw [ha] at hx
      rw [hb] at hy
      cases hx
      cases hy
      dsimp only at e
      omega
/-- Behind the look at all inodes the rows are as short as the later rules want them. -/
theorem thingsS_rows (n : Nat) (l : B) (s : St) (hs : ∀ k, s.cells k = []) (hm : ∀ i x, s.nodes i = some x → x.kind = 2 → x.size ≤ 8459264) : (∀ j, ((thingsS n l s).cells j).length ≤ 264352) ∧ ∀ j, ∀ c ∈ (thingsS n l s).cells j, c.2 < 4294967296 := by
  have h0 : RowsOk (fun _ => False) s := ⟨fun j => by rw [hs]; simp, fun j c hc => (by rw [hs] at hc; cases hc), fun j _ => hs j⟩
  obtain ⟨seen', h⟩ := things_rows l (eachTo s.nodes (countN n)) ⟨s, fun _ => none, fun _ => none⟩ (fun _ => False) h0 (fun _ _ h => h) (eachTo_apart _ _) (fun x hx => hm x.1 x.2 (eachTo_mem hx).1)
  exact ⟨h.1, h.2.1⟩
end Ck
end Go.Proofs.YtegplehbcdeeoaaGreatDoor
/- The bitmap is held against what is had. -/
namespace Go.Proofs.YtegplehbcdeeoaaGreatDoor
open Go.RowKit Go.Maps

namespace Ck
open Pk Pw
section
variable {W : World} {A : Adr} {G : Gh} {s : St} {N : Nat}
/-- A block's bit is held against what is had. -/
def takeS (n : Nat) (l : B) (s : St) (i : Nat) : St :=
  if 0 < (s.had i).getD 0 then (if bitAt (mapB n l) i then s else s.tell (fnd 8 0 i)) else (if bitAt (mapB n l) i then s.tell (fnd 7 0 i) else s)
def takenS (n : Nat) (l : B) (s : St) (k : Nat) : St := (List.range k).foldl (fun s j => takeS n l s (dataN n + j)) s
theorem takenS_succ (n : Nat) (l : B) (s : St) (k : Nat) : takenS n l s (k + 1) = takeS n l (takenS n l s k) (dataN n + k) := by
  unfold takenS
  rw [List.range_succ, List.foldl_append]
  rfl
theorem data_le {n : Nat} (h : 128 ≤ n) : dataN n ≤ n := by unfold dataN; omega
set_option maxRecDepth 100000 in
set_option maxHeartbeats 2000000 in
theorem taken_any (h : Sim N W A G s) (hN : N ≤ 900000000000) : Calls Tryz.prog 32 #[.pointer (some ⟨A.c, 0, none⟩)] W
    fun e W' => e = .returned (.tuple #[]) ∧ ∃ G', Sim (N + 16384) W' A G' (takenS A.n A.bytes s (A.n - dataN A.n)) ∧ Stp W G W' G' := by
  have hn := h.n2
  have hdn := data_le h.n1
  obtain ⟨q0, q1, q2, q3, q4, q5, q6⟩ := chk_cells h
  have h' := Lib.hid h
  obtain ⟨d, hd⟩ : ∃ d, dataN A.n = d := ⟨_, rfl⟩
  rw [hd] at hdn q4 ⊢
  replace hd := Lib.hid hd
  clear h q0 q2 q3 q5 q6
  go_enter Tryz.func32, Tryz.ntmps32
  go_wp2_with fail
  go_loopw [2] (fun iv wr => ∃ j : Nat, iv = .int .i64 (d + j : Nat) ∧ d + j ≤ A.n ∧ Hid (∃ G3, Sim (N + j) wr A G3 (takenS A.n A.bytes s j) ∧ Stp W G wr G3)) (fun iv _ => A.n - (intOf iv).toNat)
  case atStart => exact ⟨0, rfl, by omega, Lib.hid ⟨_, h'.out, Stp.refl _ _⟩⟩
  case round =>
    obtain ⟨j, rfl, hj, hG⟩ := hrel
    obtain ⟨G3, hS, hT⟩ := hG.out
    obtain ⟨i, hi⟩ : ∃ i, d + j = i := ⟨_, rfl⟩
    rw [hi] at hj ⊢
    obtain ⟨p0, p1, p2, p3, p4, p5, p6⟩ := chk_cells hS
    by_cases c : i < A.n
    · have hci : (i : Int) < (A.n : Int) := by omega
      have HO := on_any hS i (by omega)
      have hvI : vI i := by unfold vI; omega
      have hm : (((takenS A.n A.bytes s j).had i).map iv).getD (.int .i64 0) = iv (((takenS A.n A.bytes s j).had i).getD 0) := by cases (takenS A.n A.bytes s j).had i <;> rfl
      have hlk := fun W' (hb : Below wr.heap.size wr W') => ((hS.below hb).had (by decide)).look Fs.kI (t := 66) Tryz.underlying66 (zvI W') (x := i) hvI (kyI hvI)
      have hcl := fun W' (hb : Below wr.heap.size wr W') => (chk_maps (hS.below hb)).2.1
      have htl := fun W' (hb : Below wr.heap.size wr W') k => tell_any (hS.below hb) (by omega) (fnd k 0 i)
      simp only [hm] at hlk
      have hsu := Lib.hid (show takenS A.n A.bytes s (j + 1) = takeS A.n A.bytes (takenS A.n A.bytes s j) i by rw [takenS_succ, hd.out, hi])
      have hts : takeS A.n A.bytes (takenS A.n A.bytes s j) i = takeS A.n A.bytes (takenS A.n A.bytes s j) i := rfl
      conv at hts => rhs; unfold takeS
      generalize takenS A.n A.bytes s j = sj at *
      have hSb := Lib.hid (fun W' (hb : Below wr.heap.size wr W') => hS.below hb)
      have hT' := Lib.hid hT
      have hi' := Lib.hid hi
      clear hm hS hG hT hi p0 p2 p3 p4 p5 p6
      generalize bitAt (mapB A.n A.bytes) i = b at *
      generalize (sj.had i).getD 0 = hv at *
      go_wp2_with fail
      refine HO.mono ?_
      clear HO
      rintro e w2 ⟨rfl, hb2⟩
      have hlk2 := hlk w2 hb2
      have hcl2 := hcl w2 hb2
      have htl2 := htl w2 hb2
      have hS2 := Lib.hid (hSb.out w2 hb2)
      have hT2 := Lib.hid (hT'.out.trans (Stp.of_below (G := G3) hb2))
      clear hlk hcl htl hb2 hSb hT'
      have hend : ∀ w4 G4 s4, Sim (N + j + 1) w4 A G4 s4 → Stp w2 G3 w4 G4 → takenS A.n A.bytes s (j + 1) = s4 → ∃ j' : Nat, (Value.int .i64 ((i : Int) + 1)) = .int .i64 (d + j' : Nat) ∧ d + j' ≤ A.n ∧ Hid (∃ G3, Sim (N + j') w4 A G3 (takenS A.n A.bytes s j') ∧ Stp W G w4 G3) := by
        intro w4 G4 s4 a1 a2 a3
        refine ⟨j + 1, ?_, ?_, Lib.hid ⟨G4, by rw [a3]; exact a1, hT2.out.trans a2⟩⟩
        · have := hi'.out; congr 1; omega
        · have := hi'.out; omega
      replace hend := Lib.hid hend
      by_cases ch : 0 < hv
      · have ch1 : (0 : Int) < hv := by omega
        have ch2 : ¬ (hv : Int) = 0 := by omega
        rw [if_pos ch] at hts
        cases b
        · have HT := htl2 8
          replace hts := Lib.hid (show takeS A.n A.bytes sj i = sj.tell (fnd 8 0 i) from hts)
          clear htl2 ch ch2
          go_wp2_with (first | (refine wpList_lookup_run _ rfl 66 (.tmp 25) (.tmp 26) false rfl _ hlk2 ?_) | (go_at_call 60; refine HT.mono ?_; clear HT; rintro e w4 ⟨rfl, hG4⟩))
          obtain ⟨G4, k1, k2⟩ := hG4
          refine ⟨hend.out _ _ _ k1 k2 (by rw [hsu.out, hts.out]; rfl), ?_⟩
          simp only [intOf]; omega
        · replace hts := Lib.hid (show takeS A.n A.bytes sj i = sj from hts)
          clear htl2 ch
          go_wp2_with (first | (refine wpList_lookup_run _ rfl 66 (.tmp 25) (.tmp 26) false rfl _ hlk2 ?_) | (refine wpList_lookup_run _ rfl 66 (.tmp 41) (.tmp 42) false rfl _ hlk2 ?_))
          refine ⟨hend.out _ _ _ (hS2.out.mono (Nat.le_succ _)) (Stp.refl _ _) (by rw [hsu.out, hts.out]), ?_⟩
          simp only [intOf]; omega
      · obtain rfl : hv = 0 := by omega
        rw [if_neg ch] at hts
        clear ch
        cases b
        · replace hts := Lib.hid (show takeS A.n A.bytes sj i = sj from hts)
          clear htl2
          go_wp2_with (first | (refine wpList_lookup_run _ rfl 66 (.tmp 25) (.tmp 26) false rfl _ hlk2 ?_) | (refine wpList_lookup_run _ rfl 66 (.tmp 41) (.tmp 42) false rfl _ hlk2 ?_))
          refine ⟨hend.out _ _ _ (hS2.out.mono (Nat.le_succ _)) (Stp.refl _ _) (by rw [hsu.out, hts.out]), ?_⟩
          simp only [intOf]; omega
        · have HT := htl2 7
          replace hts := Lib.hid (show takeS A.n A.bytes sj i = sj.tell (fnd 7 0 i) from hts)
          clear htl2
          go_wp2_with (first | (refine wpList_lookup_run _ rfl 66 (.tmp 25) (.tmp 26) false rfl _ hlk2 ?_) | (refine wpList_lookup_run _ rfl 66 (.tmp 41) (.tmp 42) false rfl _ hlk2 ?_) | (go_at_call 60; refine HT.mono ?_; clear HT; rintro e w4 ⟨rfl, hG4⟩))
          obtain ⟨G4, k1, k2⟩ := hG4
          refine ⟨hend.out _ _ _ k1 k2 (by rw [hsu.out, hts.out]; rfl), ?_⟩
          simp only [intOf]; omega
    · have hci : ¬ (i : Int) < (A.n : Int) := by omega
      have hj' := Lib.hid (show A.n - d = j by omega)
      clear hi
      go_wp2_with fail
      go_end0
      exact ⟨rfl, G3, by rw [hj'.out]; exact hS.mono (by have := hj'.out; omega), hT⟩
end
end Ck
end Go.Proofs.YtegplehbcdeeoaaGreatDoor
