/- What is reached, level by level: the walk. -/
import Derived.Test.YtegplehbcdeeoaaGreatDoorChkB21
import Derived.Deep.RegionHeld3
import Derived.Deep.DeepCutAuto
namespace Go.Proofs.YtegplehbcdeeoaaGreatDoor
open Go.RowKit Go.Maps

namespace Ck
open Pk Pw
/-- An entry that is met. -/
theorem wpList_entry_run {P : Program} (w : World) {ops : Array Oper} {rest : List Oper} {o : Oper} {a : Act} {Q : Exit → Act → World → Prop}
    (hg : o.guard = none) (t : TypeId) (m k : Operand) (hop : o.op = Op.mapEntry t m k) (v : Value) (w' : World) (hrun : (Instr.mapEntry t (a.eval m) (a.eval k)).run P w = .ok v w') (hK : wpList P ops Q rest (a.put o.dst v) w') : wpList P ops Q (o :: rest) a w := by
  refine wpList_plain hg fun K' hK' => ?_
  unfold Oper.wp
  simp [execOp, hop, hrun, Result.andThen]
  exact hK' _ _ hK
theorem wpList_entryStore_run {P : Program} (w : World) {ops : Array Oper} {rest : List Oper} {o : Oper} {a : Act} {Q : Exit → Act → World → Prop}
    (hg : o.guard = none) (t : TypeId) (m k x : Operand) (hop : o.op = Op.entryStore t m k x) (w' : World) (hrun : (Instr.entryStore t (a.eval m) (a.eval k) (a.eval x)).run P w = .ok () w') (hK : wpList P ops Q rest (a.put o.dst undef) w') : wpList P ops Q (o :: rest) a w := by
  refine wpList_plain hg fun K' hK' => ?_
  unfold Oper.wp
  simp [execOp, hop, hrun, Result.andThen]
  exact hK' _ _ hK
section
variable {W W' w0 : World} {A : Adr} {G G' G0 : Gh} {s : St} {N N' : Nat}
theorem Stp.beside {X w w' : World} {G1 G2 : Gh} {row : Option Nat} (hT : Stp X G1 w G2) (hg : w.grownBy w' row) (hr : ∀ g, row = some g → X.heap.size ≤ g ∧ G2.who g = .other) : Stp X G1 w' G2 := by
  have hk : ∀ b, b < w.heap.size → (∀ g, row = some g → b ≠ g) → w'.heap[b]? = w.heap[b]? := fun b hb hne => hg.block b hb (fun e => hne b e.symm rfl)
  exact ⟨hg.os.trans hT.os, hg.tape.trans hT.tape, hg.output.trans hT.output, Nat.le_trans hT.size hg.size, hT.who, fun b hb e => (hk b (Nat.lt_of_lt_of_le hb hT.size) (fun g eg h => by have := (hr g eg).1; omega)).trans (hT.block b hb e), fun B c b hB' hw' => by
    obtain ⟨cs, t, fr, e⟩ := hT.cw B c b hB' hw'
    exact ⟨cs, t, fr, (hk b (lt_of_block e) (fun g eg h => by rw [h] at hw'; exact hw' (hr g eg).2)).trans e⟩⟩
theorem Sim.besideRow {w w' : World} {row : Option Nat} (h : Sim N w A G s) (hg : w.grownBy w' row) (hr : ∀ g, row = some g → A.base ≤ g ∧ G.who g = .other) : Sim N w' A G s := by
  cases row with
  | none => exact h.below ⟨hg.os, hg.tape, hg.output, hg.size, fun k hk => hg.block k hk (fun e => by cases e)⟩
  | some r => exact h.beside hg.size hg.os hg.tape hg.output (hr r rfl).1 (hr r rfl).2 fun b hb hne => hg.block b hb (fun e => hne (by cases e; rfl))
theorem own_pos {w : World} {base : Nat} {e : TypeId} {size : Nat} {v : Value} {n : Nat} {xs : List Value} (h : w.ownsRow base e size v n xs) (hn : 0 < n) : ∃ g cap, v = .slice (some ⟨g, 0, none⟩) n cap := by
  rcases h.2 with ⟨rfl, h0⟩ | ⟨g, cap, cur, rfl, _⟩
  · omega
  · exact ⟨g, cap, rfl⟩
theorem getD_iv2 (o : Option Nat) : (o.map iv).getD (.int .i64 0) = .int .i64 (o.getD 0 : Nat) := by cases o <;> rfl
def natsV (l : List Nat) : List Value := l.map fun n : Nat => Value.int .i64 n
def Oth (G : Gh) (v : Value) : Prop := ∀ g, v.ownBlock = some g → G.who g = .other
def reachN (N : Nat) (s : St) : Nat := N + 2 + 2 * (2048 - unseen s)
/-- What a level's walk keeps, and the next level so far. -/
structure NextI (X : World) (G : Gh) (A : Adr) (N : Nat) (s1 : St) (lv : List Nat) (k : Nat) (p : St × List Nat) (v : Value) (w : World) : Prop where
  sim : Sim (reachN N p.1) w A G p.1
  stp : Stp X G w G
  own : w.ownsRow X.heap.size 3 1 v p.2.length (natsV p.2)
  oth : Oth G v
  lp : Lp s1 lv k p
theorem NextI.below {X w w' : World} {s1 : St} {lv : List Nat} {k : Nat} {p : St × List Nat} {v : Value} (h : NextI X G A N s1 lv k p v w) (hb : Below w.heap.size w w') : NextI X G A N s1 lv k p v w' :=
  ⟨h.sim.below hb, h.stp.trans (Stp.of_below hb), own_same h.own fun g hg => hb.block g (own_lt h.own hg).2, h.oth, h.lp⟩
theorem NextI.put {X w w' : World} {s1 s' : St} {lv : List Nat} {k : Nat} {p : St × List Nat} {v : Value} (h : NextI X G A N s1 lv k p v w) (hS : Sim (reachN N s') w' A G s') (hT : Stp w G w' G) (hl : Lp s1 lv k (s', p.2)) : NextI X G A N s1 lv k (s', p.2) v w' :=
  ⟨hS, h.stp.trans hT, own_same h.own fun g hg => hT.block g (own_lt h.own hg).2 (h.oth g hg), h.oth, hl⟩
theorem cell_lt {w : World} {b j : Nat} {v : Value} (h : w.cell? ⟨b, j, none⟩ = some v) : b < w.heap.size := by
  apply Classical.byContradiction
  intro c
  simp [World.cell?, Array.getElem?_eq_none (Nat.le_of_not_lt c)] at h
/-- A level, as the loop has it. -/
structure Lev (W : World) (G : Gh) (A : Adr) (N : Nat) (s sf : St) (gk : Nat) (lv : List Nat) (v : Value) (s1 : St) (wr : World) : Prop where
  sim : Sim (reachN N s1) wr A G s1
  stp : Stp W G wr G
  own : wr.ownsRow W.heap.size 3 1 v lv.length (natsV lv)
  oth : Oth G v
  ri : RI s1
  nodes : s1.nodes = s.nodes
  cells : s1.cells = s.cells
  kk : gk ≤ 34
  dep : ∀ d ∈ lv, s1.depth d = some (34 - gk) ∧ d < 2048
  len : lv.length ≤ 2048
  fin : lv ≠ [] → 2 ≤ gk
  go : reachGo gk s1 lv = sf
set_option maxRecDepth 100000 in
set_option maxHeartbeats 4000000 in
theorem reach_any (h : Sim N W A G s) (hno : NodesOk s) (hri : RI s) (hcl : ∀ k, ∀ c ∈ s.cells k, c.2 < 4294967296) (hN : N ≤ 100000000000) : Calls Tryz.prog 34 #[.pointer (some ⟨A.c, 0, none⟩)] W
    fun e W' => e = .returned (.tuple #[]) ∧ ∃ G', Sim (N + 4098) W' A G' (reachS s) ∧ Stp W G W' G' := by
  obtain ⟨m7, m8, m9, m10, m11, m12, m13⟩ := chk_maps h
  have hv1 : vI 1 := by unfold vI; omega
  have hlk := (h.nodes (by decide)).look Fs.kI (t := 65) Tryz.underlying65 (zvR W) (x := 1) hv1 (kyI hv1)
  obtain ⟨q1, q2, q3, q4, q5, q6, q7, q8, q9, q10, q11, q12, q13, q14, hq⟩ := look_int hno 1
  rw [hq] at hlk
  replace hlk : (Instr.lookup 65 (.map (some A.nodes)) (.int .i64 1) false).run Tryz.prog W = _ := hlk
  have hfk := field_kind W (.int .i64 q1) (.int .i64 q2) (.int .i64 q3) (.int .i64 q4) (.int .i64 q5) (.int .i64 q6) (.int .i64 q7) (.int .i64 q8) (.int .i64 q9) (.int .i64 q10) (.int .i64 q11) (.int .i64 q12) (.int .i64 q13) (.int .i64 q14) (.int .i64 (((s.nodes 1).map (·.kind)).getD 0 : Nat))
  by_cases hd : ((s.nodes 1).map (·.kind)).getD 0 = 2
  · rw [hd] at hlk
    have hrs : reachS s = reachGo 34 (depS (seeS s 1) 1 0) [1] := by unfold reachS isDirS; rw [if_pos (by simpa using hd)]
    obtain ⟨sf, hsf⟩ : ∃ sf, reachGo 34 (depS (seeS s 1) 1 0) [1] = sf := ⟨_, rfl⟩
    rw [hrs, hsf]
    replace hsf := Lib.hid hsf
    replace hfk := field_kind W (.int .i64 q1) (.int .i64 q2) (.int .i64 q3) (.int .i64 q4) (.int .i64 q5) (.int .i64 q6) (.int .i64 q7) (.int .i64 q8) (.int .i64 q9) (.int .i64 q10) (.int .i64 q11) (.int .i64 q12) (.int .i64 q13) (.int .i64 q14) (.int .i64 2)
    go_enter Tryz.func34, Tryz.ntmps34
    go_wp2_with (refine wpList_lookup_run _ rfl 65 (.tmp 13) (.const (.int .i64 1)) false rfl _ hlk ?_)
    have hv : vI 1 := hv1
    obtain ⟨v0, st, w1, w2, e1, e2, e3, hm2, hg2⟩ := ((h.drew).seen (by decide)).entry Fs.kI (t := 66) Tryz.underlying66 zvI (by unfold maxLen; omega) (kyI hv1) (injI hv1) (v := 1) (val := .int .i64 1) rfl
    obtain ⟨hS2, hT2⟩ := (h.drew).putSeen hm2 hg2
    obtain ⟨v3, st3, w3, w4, e4, e5, e6, hm4, hg4⟩ := (hS2.depth (by decide)).entry Fs.kI (t := 66) Tryz.underlying66 zvI (by unfold maxLen; omega) (kyI hv1) (injI hv1) (v := 0) (val := .int .i64 0) rfl
    obtain ⟨hS4, hT4⟩ := hS2.putDepth hm4 hg4
    have hT4' := ((Stp.of_below (G := G) (Below.refl W.heap.size W).drew).trans hT2).trans hT4
    have hbA := (Below.refl w4.heap.size w4).alloc (Nat.le_refl _) (.cells #[.int .i64 1] 3)
    have hL0 : Lev W G A N s sf 34 [1] (.slice (some ⟨w4.heap.size, 0, none⟩) 1 1) (depS (seeS s 1) 1 0) (w4.alloc (.cells #[.int .i64 1] 3)) := by
      refine ⟨(hS4.below hbA).mono (by unfold reachN; omega), hT4'.trans (Stp.of_below hbA), ?_, ?_, (hri.see 1).dep 1 0 (see_self s 1), rfl, rfl, Nat.le_refl _, ?_, by decide, fun _ => by decide, hsf.out⟩
      · exact ⟨by simp [natsV], .inr ⟨w4.heap.size, 1, #[.int .i64 1], rfl, hT4'.size, Blk.new w4 _ _, Nat.le_refl _, by (first | omega | (unfold maxLen; omega) | decide), by simp, by simp [natsV]⟩⟩
      · intro g hg
        cases hg
        exact hS4.other_of (.inl (Nat.le_refl _))
      · intro d hm
        simp at hm
        subst hm
        exact ⟨by unfold depS; dsimp only; rw [if_pos rfl], by decide⟩
    replace hL0 := Lib.hid hL0
    replace e1 : (Instr.mapEntry 66 (.map (some A.seen)) (.int .i64 1)).run Tryz.prog W.drew = .ok (.tuple #[v0, .int .i64 st]) w1 := e1
    replace e2 : (Instr.entryStore 66 (.map (some A.seen)) (.int .i64 st) (.int .i64 1)).run Tryz.prog w1 = .ok () w2 := e2
    replace e4 : (Instr.mapEntry 66 (.map (some A.depth)) (.int .i64 1)).run Tryz.prog w2 = .ok (.tuple #[v3, .int .i64 st3]) w3 := e4
    replace e5 : (Instr.entryStore 66 (.map (some A.depth)) (.int .i64 st3) (.int .i64 0)).run Tryz.prog w3 = .ok () w4 := e5
    clear hS2 hT2 hS4 hT4 hm2 hm4 hg2 hg4 e3 e6 hfk hT4' hbA hrs
    go_still_tail 8, (by kernel_rfl)
    change wpList _ _ _ _ _ W.drew
    go_wp2_with (first | (refine wpList_entry_run _ rfl 66 (.tmp 20) (.const (.int .i64 1)) rfl _ _ e1 ?_) | (refine wpList_entryStore_run _ rfl 66 (.tmp 20) (.tmp 26) (.const (.int .i64 1)) rfl _ e2 ?_) | (refine wpList_entry_run _ rfl 66 (.tmp 24) (.const (.int .i64 1)) rfl _ _ e4 ?_) | (refine wpList_entryStore_run _ rfl 66 (.tmp 24) (.tmp 28) (.const (.int .i64 0)) rfl _ e5 ?_))
    go_loopg [2] 34 (fun gk lvV wr => ∃ (lv : List Nat) (s1 : St), Hid (Lev W G A N s sf gk lv lvV s1 wr))
    case atStart => exact ⟨[1], _, hL0⟩
    case round =>
      obtain ⟨lv, s1, hH⟩ := hrel
      obtain ⟨X, hX⟩ : ∃ X, X = wr := ⟨_, rfl⟩
      subst hX
      obtain ⟨ao, cap, rfl⟩ := own_slice_of hH.out.own
      by_cases hlv : lv = []
      · have hll : ((lv.length : Nat) : Int) = 0 := by rw [hlv]; rfl
        have hHL := hH.out
        have hfin := Lib.hid (show Sim (N + 4098) X A G sf ∧ Stp W G X G by
          have h1 := hHL.go
          refine ⟨?_, hHL.stp⟩
          have : s1 = sf := by
            rw [← h1, hlv]
            cases gk <;> simp [reachGo]
          rw [← this]
          exact hHL.sim.mono (by unfold reachN; omega))
        clear hHL
        go_wp2_with fail
        refine bodyPost_end (results_none rfl _ _ _) rfl ⟨rfl, G, hfin.out⟩
      · have hll : 0 < ((lv.length : Nat) : Int) := by have := List.length_pos_iff.2 hlv; omega
        obtain ⟨gl, cl, hv⟩ := own_pos hH.out.own (List.length_pos_iff.2 hlv)
        cases hv
        have hlvl := hH.out.len
        have hgl := own_lt hH.out.own (g := gl) rfl
        have hglw := hH.out.oth gl rfl
        have hp0 : Lp s1 lv (34 - gk) (s1, []) := ⟨rfl, rfl, rfl, rfl, hH.out.ri, hH.out.dep, fun d hd => (by cases hd), by simp; exact unseenTo_le _ _, fun _ => rfl⟩
        have hN0 := Lib.hid (show NextI X G A N s1 lv (34 - gk) ((lv.take 0).foldl reachD (s1, [])) (.slice none 0 0) X from ⟨hH.out.sim, Stp.refl _ _, World.ownsRow_nil _ _ _ _, fun g hg => (by cases hg), hp0⟩)
        have hcell0 := Lib.hid (fun (g : Nat) {w : World} (e : w.heap[g]? = X.heap[g]?) (hg : g = gl) (j d : Nat) (hd : lv[j]? = some d) => show w.cell? ⟨gl, j, none⟩ = some (.int .i64 d) from by
          subst hg
          obtain ⟨g2, cap2, e2, _, _, _, _, h2, _⟩ := own_at hH.out.own (List.length_pos_iff.2 hlv)
          cases e2
          rw [World.cell?_of_block (a := ⟨g, j, none⟩) e, h2 j (by have := (List.getElem?_eq_some_iff.1 hd).1; omega)]
          simp [natsV, hd])
        replace hp0 := Lib.hid hp0
        generalize hlln : lv.length = ll at *
        have hll2 : 0 < ll := by omega
        go_wp2_with fail
        go_loopw [35, 3] (fun iv nv wx => ∃ j : Nat, iv = .int .i64 j ∧ j ≤ ll ∧ Hid (NextI X G A N s1 lv (34 - gk) ((lv.take j).foldl reachD (s1, [])) nv wx)) (fun iv _ _ => ll - (intOf iv).toNat)
        case atStart => exact ⟨0, rfl, Nat.zero_le _, hN0⟩
        case round =>
          obtain ⟨j, rfl, hj, hNj⟩ := hrel
          by_cases cj : j < ll
          · have cji : (j : Int) < (ll : Int) := by omega
            obtain ⟨d, hd⟩ : ∃ d, lv[j]? = some d := ⟨_, List.getElem?_eq_getElem (by omega)⟩
            have hmem : d ∈ lv := List.mem_of_getElem? hd
            have hNN := hNj.out
            have hpd := hNN.lp.old d hmem
            have hgl1 : wr.heap[gl]? = X.heap[gl]? := hNN.stp.block gl hgl.2 hglw
            have y0 := hcell0.out gl hgl1 rfl j d hd
            have hdt := Lib.hid (dirs_take lv (s1, []) j d hd)
            generalize hpp : (lv.take j).foldl reachD (s1, []) = p at *
            obtain ⟨m7, m8, m9, m10, m11, m12, m13⟩ := chk_maps hNN.sim
            have hvd : vI d := by unfold vI; omega
            have hlkD := (hNN.sim.depth (by decide)).look Fs.kI (t := 66) Tryz.underlying66 (zvI wr) (x := d) hvd (kyI hvd)
            rw [hpd.1] at hlkD
            replace hlkD : (Instr.lookup 66 (.map (some A.depth)) (.int .i64 d) false).run Tryz.prog wr = .ok (.int .i64 (34 - gk : Nat)) wr := hlkD
            have hdt2 : reachD p d = if 32 ≤ 34 - gk then p else (p.1.cells d).foldl (reachC d) p := by unfold reachD; rw [hpd.1]; rfl
            by_cases h32 : 32 ≤ 34 - gk
            · have h32i : (32 : Int) ≤ ((34 - gk : Nat) : Int) := by omega
              rw [if_pos h32] at hdt2
              rw [hdt2] at hdt
              generalize 34 - gk = kq at *
              have hN2 := Lib.hid hNN
              clear hNN hpd h32 hgl1 hd hmem
              go_wp2_with (refine wpList_lookup_run _ rfl 66 (.tmp 42) (.tmp 43) false rfl _ hlkD ?_)
              go_roundw
              case rel => exact ⟨j + 1, by go_num, by omega, Lib.hid (by rw [hdt.out]; exact hN2.out)⟩
              case measure => simp only [intOf]; omega
            · have h32i : ¬ (32 : Int) ≤ ((34 - gk : Nat) : Int) := by omega
              rw [if_neg h32] at hdt2
              rw [hdt2] at hdt
              have hlC := (hNN.sim.cells (by decide)).look Fs.kI (t := 68) Tryz.underlying68 (zvS wr) (x := d) hvd (kyI hvd)
              obtain ⟨ao, capc, hrow, hcells⟩ := row_of hNN.sim d
              rw [hrow] at hlC
              have hcld : ∀ c ∈ p.1.cells d, c.2 < 4294967296 := by rw [hNN.lp.cells, hH.out.cells]; exact hcl d
              have hcls := Lib.hid (show ∀ q : St × List Nat, Lp s1 lv (34 - gk) q → q.1.cells d = p.1.cells d from fun q hq => by rw [hq.cells, hNN.lp.cells])
              have hclb : (p.1.cells d).length ≤ 1000000000000 := Nat.le_trans (hNN.sim.lenC d) (by unfold reachN; omega)
              generalize hkq : 34 - gk = kq at *
              have hk32 := Lib.hid (show kq < 32 by omega)
              generalize p.1.cells d = cl at *
              have hN2 := Lib.hid hNN
              have hwho := Lib.hid hrow
              clear hNN hpd hgl1 hd hrow
              go_wp2_with (first | (refine wpList_lookup_run _ rfl 66 (.tmp 42) (.tmp 43) false rfl _ hlkD ?_) | (refine wpList_lookup_run _ rfl 68 (.tmp 49) (.tmp 50) false rfl _ hlC ?_))
              go_loopw [53, 3] (fun cv nv wx => ∃ c : Nat, cv = .int .i64 c ∧ c ≤ cl.length ∧ Hid (NextI X G A N s1 lv kq ((cl.take c).foldl (reachC d) p) nv wx)) (fun cv _ _ => cl.length - (intOf cv).toNat)
              case atStart => exact ⟨0, rfl, Nat.zero_le _, Lib.hid (by simpa using hN2.out)⟩
              case round =>
                obtain ⟨c, rfl, hc, hNc⟩ := hrel
                by_cases cc : c < cl.length
                · have cci : (c : Int) < (cl.length : Int) := by omega
                  obtain ⟨e, he⟩ : ∃ e, cl[c]? = some e := ⟨_, List.getElem?_eq_getElem cc⟩
                  have hct := Lib.hid (cells_take d cl p c e he)
                  have hN3 := hNc.out
                  generalize hqq : (cl.take c).foldl (reachC d) p = q at *
                  obtain ⟨ao3, cap3, hrow3, hcells3⟩ := row_of hN3.sim d
                  rw [hcls.out q hN3.lp] at hrow3 hcells3
                  rw [hwho.out] at hrow3
                  cases hrow3
                  obtain ⟨g, rfl, hg, hgw, e1, e2⟩ := hcells3 c e he
                  have hino := hcld e (List.mem_of_getElem? he)
                  obtain ⟨nm, ino⟩ := e
                  dsimp only at e1 e2 hct hino
                  have hstn := store_new wr 118 #[.string (mk []), .int .i64 0] #[.string (mk nm), .int .i64 ino] (by kernel_rfl) rfl (by simp [Value.oneCell'])
                  have hb6 := (Below.refl wr.heap.size wr).alloc (Nat.le_refl _) (.cells #[.string (mk nm), .int .i64 ino] 118)
                  have hE := Blk.new wr #[.string (mk nm), .int .i64 ino] 118
                  have hEw : G.who wr.heap.size = .other := hN3.sim.other_of (.inl (Nat.le_refl _))
                  obtain ⟨aon, capn, rfl⟩ := own_slice_of hN3.own
                  have hN6 := hN3.below hb6
                  have hN6' := Lib.hid hN6
                  have hXw : X.heap.size ≤ wr.heap.size := hN3.stp.size
                  clear hN3 hcells3 hqq hgw hg
                  go_wp2_with (refine wpList_store_run _ rfl (.tmp 7) (.tmp 56) 118 rfl _ hstn ?_)
                  generalize hW6 : wr.alloc (.cells #[.string (mk nm), .int .i64 ino] 118) = w6 at *
                  obtain ⟨m7, m8, m9, m10, m11, m12, m13⟩ := chk_maps hN6.sim
                  have hvO : vI ino := by unfold vI; omega
                  have hnoq : NodesOk q.1 := by unfold NodesOk; rw [hN6.lp.nodes, hH.out.nodes]; exact hno
                  obtain ⟨r1, r2, r3, r4, r5, r6, r7, r8, r9, r10, r11, r12, r13, r14, hR15⟩ := look_int hnoq ino
                  generalize hkd : ((q.1.nodes ino).map (·.kind)).getD 0 = kd at *
                  generalize hok : (q.1.nodes ino).isSome = ok at *
                  have hlkO := fun V (hb : Below w6.heap.size w6 V) => ((hN6.sim.below hb).nodes (by decide)).look_ok Fs.kI (t := 65) Tryz.underlying65 (zvR V) (x := ino) hvO (kyI hvO)
                  have hlkO1 := hlkO w6.drew (Below.refl _ _).drew
                  have hlkO2 := hlkO (w6.alloc (.cells (Array.replicate 15 (.int .i64 0)) 74)).drew ((Below.refl _ _).alloc (Nat.le_refl _) _).drew
                  rw [hR15, hok] at hlkO1 hlkO2
                  replace hlkO1 : (Instr.lookup 65 (.map (some A.nodes)) (.int .i64 ino) true).run Tryz.prog w6.drew = .ok (.tuple #[.agg #[.int .i64 kd, .int .i64 (r1 : Nat), .int .i64 (r2 : Nat), .int .i64 (r3 : Nat), .int .i64 (r4 : Nat), .int .i64 (r5 : Nat), .int .i64 (r6 : Nat), .int .i64 (r7 : Nat), .int .i64 (r8 : Nat), .int .i64 (r9 : Nat), .int .i64 (r10 : Nat), .int .i64 (r11 : Nat), .int .i64 (r12 : Nat), .int .i64 (r13 : Nat), .int .i64 (r14 : Nat)], .bool ok]) w6.drew := hlkO1.trans (by rw [← hok, ← hR15])
                  replace hlkO2 : (Instr.lookup 65 (.map (some A.nodes)) (.int .i64 ino) true).run Tryz.prog (w6.alloc (.cells #[.int .i64 0, .int .i64 0, .int .i64 0, .int .i64 0, .int .i64 0, .int .i64 0, .int .i64 0, .int .i64 0, .int .i64 0, .int .i64 0, .int .i64 0, .int .i64 0, .int .i64 0, .int .i64 0, .int .i64 0] 74)).drew = .ok (.tuple #[.agg #[.int .i64 kd, .int .i64 (r1 : Nat), .int .i64 (r2 : Nat), .int .i64 (r3 : Nat), .int .i64 (r4 : Nat), .int .i64 (r5 : Nat), .int .i64 (r6 : Nat), .int .i64 (r7 : Nat), .int .i64 (r8 : Nat), .int .i64 (r9 : Nat), .int .i64 (r10 : Nat), .int .i64 (r11 : Nat), .int .i64 (r12 : Nat), .int .i64 (r13 : Nat), .int .i64 (r14 : Nat)], .bool ok]) (w6.alloc (.cells #[.int .i64 0, .int .i64 0, .int .i64 0, .int .i64 0, .int .i64 0, .int .i64 0, .int .i64 0, .int .i64 0, .int .i64 0, .int .i64 0, .int .i64 0, .int .i64 0, .int .i64 0, .int .i64 0, .int .i64 0] 74)).drew := hlkO2.trans (by rw [← hok, ← hR15]; rfl)
                  have z1 := hE.cell 1
                  have heb : wr.heap.size < w6.heap.size := hE.lt
                  have hAc : A.c < w6.heap.size := (hN6.sim.low _ (by rw [hN6.sim.wC]; decide)).2
                  have hE' := Lib.hid hE
                  clear hlkO hR15 hN6 hE hstn hb6 e1 e2 hlC hlkD
                  simp only [Act.put]
                  go_cut [8, 9] (fun s8 s9 wx => s8 = .pointer (some ⟨w6.heap.size, 0, none⟩) ∧ s9 = .bool ok ∧ wx.cell? ⟨w6.heap.size, 0, none⟩ = some (.int .i64 kd) ∧ Hid (Below w6.heap.size w6 wx))
                  case first =>
                    go_region_held3 (fun w' => w'.cell? ⟨A.c, 7, none⟩ = some (.map (some A.nodes)) ∧ w'.cell? ⟨wr.heap.size, 1, none⟩ = some (.int .i64 ino)) (go_keep) (fail)
                    all_goals
                      go_wp2_with fail
                      go_meet
                      case rel => exact ⟨rfl, rfl, (Blk.new w6 _ _).cell 0, Lib.hid ((Below.refl _ _).alloc (Nat.le_refl _) _).drew⟩
                  obtain ⟨rfl, rfl, hk0, hb12⟩ := hcut
                  have hN12 := hN6'.out.below hb12.out
                  have hE12 := hE'.out.same (hb12.out.block _ hE'.out.lt)
                  obtain ⟨m7, m8, m9, m10, m11, m12, m13⟩ := chk_maps hN12.sim
                  have hlS := (hN12.sim.drew.seen (by decide)).look Fs.kI (t := 66) Tryz.underlying66 (zvI wc.drew) (x := ino) hvO (kyI hvO)
                  replace hlS : (Instr.lookup 66 (.map (some A.seen)) (.int .i64 ino) false).run Tryz.prog wc.drew = .ok (.int .i64 ((q.1.seen ino).getD 0 : Nat)) wc.drew := hlS.trans (by rw [getD_iv2])
                  have z12 := hE12.cell 1
                  have hNb := Lib.hid (hN12.below (Below.refl wc.heap.size wc).drew)
                  have hEb := Lib.hid hE12
                  have hcn : c + 1 ≤ cl.length := cc
                  cases hnn : q.1.nodes ino with
                  | none =>
                    rw [hnn] at hok
                    have hok2 : ok = false := hok.symm
                    subst hok2
                    have hrc := Lib.hid (show NextI X G A N s1 lv kq ((cl.take (c + 1)).foldl (reachC d) p) (.slice aon q.2.length capn) wc.drew by rw [hct.out]; unfold reachC; dsimp only; rw [hnn]; exact hNb.out)
                    generalize (q.1.seen ino).getD 0 = sni at *
                    clear hN12 hE12 hnn
                    go_wp2_with fail
                    go_region
                    all_goals
                      go_wp2_with fail
                      go_roundw
                      case rel => exact ⟨c + 1, by go_num, hcn, hrc⟩
                      case measure => simp only [intOf]; omega
                  | some x =>
                    rw [hnn] at hok hkd
                    have hok2 : ok = true := hok.symm
                    have hkd2 : kd = x.kind := hkd.symm
                    subst hok2
                    by_cases hsn : 0 < (q.1.seen ino).getD 0
                    · have hrc := Lib.hid (show NextI X G A N s1 lv kq ((cl.take (c + 1)).foldl (reachC d) p) (.slice aon q.2.length capn) wc.drew by rw [hct.out]; unfold reachC; dsimp only; rw [hnn]; dsimp only; rw [if_pos hsn]; exact hNb.out)
                      generalize (q.1.seen ino).getD 0 = sni at *
                      have hsi : (0 : Int) < (sni : Int) := by omega
                      clear hN12 hE12 hnn hkd hkd2
                      go_wp2_with fail
                      go_region
                      all_goals
                        go_wp2_with fail
                        go_roundw
                        case rel => exact ⟨c + 1, by go_num, hcn, hrc⟩
                        case measure => simp only [intOf]; omega
                    · have hs0 : (q.1.seen ino).getD 0 = 0 := by omega
                      rw [hs0] at hlS
                      have hR : reachC d q (nm, ino) = if x.kind = 2 then (depS (seeS q.1 ino) ino (kq + 1), q.2 ++ [ino]) else (seeS q.1 ino, q.2) := by
                        unfold reachC
                        dsimp only
                        rw [hnn]
                        dsimp only
                        rw [if_neg hsn, (hNb.out.lp.old d hmem).1]
                        rfl
                      have hNd := hNb.out.below (Below.refl wc.drew.heap.size wc.drew).drew
                      obtain ⟨w9, u1, u2, u9⟩ := (hNd.sim.seen (by decide)).update Fs.kI (t := 66) Tryz.underlying66 (by unfold reachN maxLen; omega) (kyI hvO) (injI hvO) (v := 1) (val := .int .i64 1) rfl
                      obtain ⟨hS9, hT9⟩ := hNd.sim.putSeen u2 u9
                      have hlpS := hNd.lp.step d hmem hk32.out (nm, ino)
                      rw [hR] at hlpS
                      have hun := unseenTo_put q.1 ino hs0 2048 (hNd.lp.ri.lt _ _ hnn)
                      have hul := unseenTo_le q.1 2048
                      have hrN : reachN N q.1 + 2 = reachN N (seeS q.1 ino) := by unfold reachN unseen; omega
                      have hwb : G.who w6.heap.size = .other := hN6'.out.sim.other_of (.inl (Nat.le_refl _))
                      have hw6 := cell_lt hk0
                      have hk9 := (World.cell?_of_block (a := ⟨w6.heap.size, 0, none⟩) (hT9.block w6.heap.size hw6 hwb)).trans hk0
                      have hE9 := hE12.same (hT9.block _ hE12.lt hEw)
                      have z9 := hE9.cell 1
                      obtain ⟨n7, n8, n9, n10, n11, n12, n13⟩ := chk_maps hS9
                      have hNd' := Lib.hid hNd
                      have hST9 := Lib.hid (And.intro hS9 hT9)
                      by_cases hk2 : x.kind = 2
                      · rw [if_pos hk2] at hR hlpS
                        have hkd3 : kd = 2 := by rw [hkd2]; exact hk2
                        subst hkd3
                        have hk32i := hk32.out
                        obtain ⟨i0, hi, hz0, hz1, hz2⟩ := info_parts info_int
                        have hlD9 := ((hS9.drew).depth (by decide)).look Fs.kI (t := 66) Tryz.underlying66 (zvI w9.drew) (x := d) hvd (kyI hvd)
                        replace hlD9 : (Instr.lookup 66 (.map (some A.depth)) (.int .i64 d) false).run Tryz.prog w9.drew = .ok (.int .i64 kq) w9.drew := hlD9.trans (by show Result.ok (((q.1.depth d).map iv).getD (.int .i64 0)) _ = _; rw [(hNd.lp.old d hmem).1]; rfl)
                        obtain ⟨w10, v1, v2, v9⟩ := ((hS9.drew).depth (by decide)).update Fs.kI (t := 66) Tryz.underlying66 (by unfold reachN maxLen; omega) (kyI hvO) (injI hvO) (v := kq + 1) (val := .int .i64 ((kq : Int) + 1)) rfl
                        obtain ⟨hS10, hT10⟩ := (hS9.drew).putDepth v2 v9
                        have hTd := hT9.trans ((Stp.of_below (G := G) (Below.refl w9.heap.size w9).drew).trans hT10)
                        have hE10 := hE12.same (hTd.block _ hE12.lt hEw)
                        have z10 := hE10.cell 1
                        have own10 := own_same hNd.own (fun g hg => hTd.block g (own_lt hNd.own hg).2 (hNd.oth g hg))
                        have hal := (Below.refl w10.heap.size w10).alloc (Nat.le_refl _) (.cells #[.int .i64 ino] 3)
                        have hlen := hNd.lp.len
                        have hsz10 : X.heap.size ≤ w10.heap.size := Nat.le_trans hNd.stp.size hTd.size
                        have hqlen : q.2.length ≤ 2048 := by omega
                        have hfin := Lib.hid (fun v11 w11 (ho11 : World.ownsRow w11 X.heap.size 3 1 v11 (q.2.length + 1) (natsV q.2 ++ [.int .i64 ino])) (hg11 : (w10.alloc (.cells #[.int .i64 ino] 3)).grownBy w11 (Value.slice aon q.2.length capn).ownBlock) (hat : v11.ownBlock = (Value.slice aon q.2.length capn).ownBlock ∨ v11.ownBlock = some (w10.alloc (.cells #[.int .i64 ino] 3)).heap.size) => show NextI X G A N s1 lv kq ((cl.take (c + 1)).foldl (reachC d) p) v11 w11 from by
                          rw [hct.out, hR]
                          refine ⟨?_, ?_, ?_, ?_, hlpS⟩
                          · have hS11 := (hS10.below hal).besideRow hg11 (fun g hg => ⟨by have := (own_lt hNd.own hg).1; have := hNd.stp.size; have := hH.out.sim.base; omega, hNd.oth g hg⟩)
                            exact hS11.mono (by show reachN N q.1 + 1 + 1 ≤ reachN N (seeS q.1 ino); omega)
                          · exact ((hNd.stp.trans hTd).trans (Stp.of_below hal)).beside hg11 (fun g hg => ⟨(own_lt hNd.own hg).1, hNd.oth g hg⟩)
                          · have : natsV q.2 ++ [.int .i64 ino] = natsV (q.2 ++ [ino]) := by simp [natsV]
                            rw [this] at ho11
                            simpa using ho11
                          · intro g hg
                            rcases hat with e | e
                            · exact hNd.oth g (by rw [← e]; exact hg)
                            · rw [e] at hg
                              cases hg
                              exact hS10.other_of (.inl (by simp)))
                        clear hNd hS9 hT9 hN12 hE12 hnn hkd hkd2 hR hlpS hun hul hrN u2 u9 hE9 hsn hs0 hk2 v2 v9 hS10 hT10 hTd hE10 hal hlen
                        go_wp2_with fail
                        go_region
                        all_goals
                          go_wp2_with fail
                          go_region
                          all_goals
                            go_wp2_with fail
                            go_region
                            all_goals
                              go_wp2_with (at_builtin; refine wpList_append_own_at _ rfl _ _ 90 rfl X.heap.size 3 i0 (.int .i64 0) 1 8 Tryz.underlying90 hi hz0 hz1 hz2 rfl (by decide) _ q.2.length (natsV q.2) (by rfl) (own10.alloc _) ⟨w10.heap.size, 0, none⟩ 1 1 [.int .i64 ino] (by rfl) rfl (news_new w10 [.int .i64 ino] 3) (by simp [Value.oneCell']) (by unfold maxLen; omega) (by omega) (by simp; omega) ?_; intro v11 w11 ho11 hg11 _ hat11)
                              go_roundw
                              case rel => exact ⟨c + 1, by go_num, hcn, Lib.hid (hfin.out _ _ ho11 hg11 hat11)⟩
                              case measure => simp only [intOf]; omega
                      · rw [if_neg hk2] at hR hlpS
                        have hki : ¬ (kd : Int) = 2 := by omega
                        have hfin := Lib.hid (show NextI X G A N s1 lv kq ((cl.take (c + 1)).foldl (reachC d) p) (.slice aon q.2.length capn) w9 by
                          rw [hct.out, hR]
                          exact hNd.put (by rw [← hrN]; exact hS9.mono (by omega)) hT9 hlpS)
                        clear hNd hS9 hT9 hN12 hE12 hnn hkd hkd2 hR hlpS hun hul hrN u2 u9 hE9 hsn hs0 hk2
                        go_wp2_with fail
                        go_region
                        all_goals
                          go_wp2_with fail
                          go_region
                          all_goals
                            go_wp2_with fail
                            go_roundw
                            case rel => exact ⟨c + 1, by go_num, hcn, hfin⟩
                            case measure => simp only [intOf]; omega
                · have cci : ¬ (c : Int) < (cl.length : Int) := by omega
                  obtain rfl : c = cl.length := by omega
                  rw [List.take_length] at hNc
                  have hN4 := Lib.hid (show NextI X G A N s1 lv kq ((lv.take (j + 1)).foldl reachD (s1, [])) u3 wr by rw [hdt.out]; exact hNc.out)
                  go_wp2_with fail
                  go_roundw
                  case rel => exact ⟨j + 1, by go_num, by omega, hN4⟩
                  case measure => simp only [intOf]; omega
          · have cji : ¬ (j : Int) < (ll : Int) := by omega
            obtain rfl : j = ll := by omega
            rw [show lv.take j = lv by rw [← hlln]; exact List.take_length] at hNj
            have hgo := hH.out.go
            have hfin := hH.out.fin hlv
            have hkk := hH.out.kk
            obtain ⟨g', rfl⟩ : ∃ g', gk = g' + 1 := ⟨gk - 1, by omega⟩
            have hgo2 : reachGo g' (lv.foldl reachD (s1, [])).1 (lv.foldl reachD (s1, [])).2 = sf := by
              unfold reachGo at hgo
              rw [if_neg hlv] at hgo
              exact hgo
            have hNN := hNj.out
            have hnew : Hid (Lev W G A N s sf g' (lv.foldl reachD (s1, [])).2 u3 (lv.foldl reachD (s1, [])).1 wr) := Lib.hid ⟨hNN.sim, hH.out.stp.trans hNN.stp, Go.Joins.ownsRow_le hNN.own hH.out.stp.size, hNN.oth, hNN.lp.ri, hNN.lp.nodes.trans hH.out.nodes, hNN.lp.cells.trans hH.out.cells, by omega,
              fun d hd => by have := hNN.lp.new d hd; rw [show 34 - g' = 34 - (g' + 1) + 1 by omega]; exact this, by have := hNN.lp.len; omega, fun hne => by
                apply Classical.byContradiction
                intro hc
                exact hne (hNN.lp.last (by omega)), hgo2⟩
            clear hNN hgo2
            go_wp2_with fail
            go_roundg g'
            case measure => omega
            case rel => exact ⟨_, _, hnew⟩
  · have hdi : (((((s.nodes 1).map (·.kind)).getD 0 : Nat) : Int) == 2) = false := by rw [beq_eq_false_iff_ne]; omega
    have hrs : reachS s = s := by unfold reachS isDirS; rw [if_neg (by simpa using hd)]
    rw [hrs]
    generalize ((s.nodes 1).map (·.kind)).getD 0 = kd at *
    have hh := Lib.hid h
    clear h
    go_enter Tryz.func34, Tryz.ntmps34
    go_wp2_with (refine wpList_lookup_run _ rfl 65 (.tmp 13) (.const (.int .i64 1)) false rfl _ hlk ?_)
    exact bodyPost_ret (results_none rfl _ _ _) rfl ⟨rfl, G, hh.out.mono (by omega), Stp.refl _ _⟩
end
end Ck
end Go.Proofs.YtegplehbcdeeoaaGreatDoor
