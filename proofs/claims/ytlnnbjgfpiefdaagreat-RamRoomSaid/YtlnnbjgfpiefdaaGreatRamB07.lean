/- A name is put into a directory, which may grow: noted. -/
import Derived.Test.YtlnnbjgfpiefdaaGreatRamB06
import Derived.IntWalk
import Derived.StillTailTactics
import Derived.Test.YtlnnbjgfpiefdaaGreatChecked
import Derived.Test.YtlnnbjgfpiefdaaGreatRamB01
import Derived.WalkKit
import Derived.Maps.AppendAt
import Derived.Lib.Hide
namespace Go.Proofs.YtlnnbjgfpiefdaaGreat
open Go.RowKit Go.Maps Go.Shelf

namespace Fs
section
variable {W : World} {L : Lay} {fb : Nat} {n : Int} {nb : Nat} {uv : Value} {vals : List Value} {L0 : Lay} {s : Tree}
theorem St.boxed (h : St W L fb n nb uv vals L0 s) {W' : World} {L' : Lay} (hs : Sim W' L' fb n nb uv vals) (hL : Boxed L L') : St W' L' fb n nb uv vals L0 s := by
  obtain ⟨k1, k2, _⟩ := hL.wf h.wf
  exact ⟨hs, h.ch.ex hL.ex, k1, k2.trans h.st⟩
theorem St.drew (h : St W L fb n nb uv vals L0 s) : St W.drew L fb n nb uv vals L0 s := ⟨h.sim.drew, h.ch, h.wf, h.st⟩
/-- What a directory is. -/
theorem St.dir (h : St W L fb n nb uv vals L0 s) {i : Int} {d : Nat} (ha : Adr L nb i d) (hk : kindOf s i = 2) : ∃ hd q m, L d = some (.node hd) ∧ hd.nm = some q ∧ L q = some (.names m) ∧ m = namesOf s i ∧ ndAtB L d = ndOf L hd ∧ hd.kind = 2 ∧
    (get s i).map (·.blocks) = some hd.blocks ∧ MapAt Tryz.prog 9 evI W q m ∧ W.cell? ⟨d, 4, none⟩ = some (.map (some q)) := by
  obtain ⟨hd, q, m, hb, hq, hm, hme, hnd, hkd⟩ := h.wf.dirAt ha (by rw [h.st]; exact hk)
  rw [h.st] at hme
  obtain ⟨_, _, _, _, c4, _⟩ := node_cells (h.sim.is d _ hb).2
  exact ⟨hd, q, m, hb, hq, hm, hme, hnd, hkd, by rw [← h.st, ha.st, hnd]; rfl, (h.sim.is q _ hm).2, by rw [c4, hq]⟩

set_option maxRecDepth 100000 in
set_option maxHeartbeats 2000000 in
/-- Behind the growth: the name is laid. -/
theorem put_same (h : St W L fb n nb uv vals L0 s) (hlen : vals.length ≤ 1000000000000) {i : Int} {d : Nat} (ha : Adr L nb i d) (h1 : 0 ≤ i) (h2 : i ≤ 1000000) (hk : kindOf s i = 2) (nm : Tx) (hnm : nm.length ≤ 1000000) (hj : get (namesOf s i) nm = none) (hml : (namesOf s i).length ≤ 1000000) (v : Int)
    (hbl : ∀ z, (get s i).map (·.blocks) = some z → 0 ≤ z ∧ z ≤ 1000000 ∧ ((namesOf s i).length : Int) ≠ z * 16) :
    Calls Tryz.prog 61 #[.pointer (some ⟨fb, 0, none⟩), .int .i64 i, .string (mk nm), .int .i64 v] W fun e W' => e = .returned (.tuple #[]) ∧ After W L uv fb n nb L0 (vals.length + 1) (Adr L nb) (replN s i nm v) W' := by
  obtain ⟨s1, t1⟩ := h.sim.newBox 9 (.string (mk nm)) (cs := #[.string (mk nm)]) rfl
  obtain ⟨s2, t2⟩ := s1.newBox 61 (evP d) (cs := #[.pointer (some ⟨d, 0, none⟩)]) rfl
  simp only [World.size_alloc] at s2 t2
  have x1 : L W.heap.size = none := h.sim.none_of_ge (Nat.le_refl _)
  have x2 : L (W.heap.size + 1) = none := h.sim.none_of_ge (by omega)
  have hL1 := (Boxed.refl L).box _ _ W.heap.size 9 (.string (mk nm)) x1
  have hL2 := hL1.box _ _ (W.heap.size + 1) 61 (evP d) (by rw [upd_other _ _ (by omega)]; exact x2)
  have m1 : upd (upd L W.heap.size (.box 9 (.string (mk nm)))) (W.heap.size + 1) (.box 61 (evP d)) W.heap.size = some (.box 9 (.string (mk nm))) := by rw [upd_other _ _ (by omega), upd_same]
  have m2 : upd (upd L W.heap.size (.box 9 (.string (mk nm)))) (W.heap.size + 1) (.box 61 (evP d)) (W.heap.size + 1) = some (.box 61 (evP d)) := upd_same _ _ _
  generalize upd (upd L W.heap.size (.box 9 (.string (mk nm)))) (W.heap.size + 1) (.box 61 (evP d)) = L2 at *
  generalize upd L W.heap.size (.box 9 (.string (mk nm))) = L1 at *
  obtain ⟨k1, k2, k3⟩ := hL1.wf h.wf
  have ha1 : Adr L1 nb i d := by unfold Adr; rw [k3]; exact ha
  have H2 := h.boxed s2 hL2
  have ha2 : Adr L2 nb i d := by unfold Adr; rw [(hL2.wf h.wf).2.2]; exact ha
  obtain ⟨hd, q, m, hb, hq, hm, hme, hnd, hkd, hblk, hMA, c4⟩ := H2.dir ha2 hk
  obtain ⟨z1, z2, z3⟩ := hbl _ hblk
  rw [← hme] at z3 hj hml
  clear hme
  have hz : ((m.length : Int) == hd.blocks * 16) = false := by rw [beq_eq_false_iff_ne]; exact z3
  obtain ⟨_, _, _, _, _, c5, _⟩ := node_cells (s2.is d _ hb).2
  have hdl := (s2.is d _ hb).1
  have hnml : nm.length ≤ maxLen := by unfold maxLen; omega
  have hlenm := fun ty => (hMA.drew).len Tryz.underlying63 ty
  have hqnb : q ≠ nb := by rintro rfl; obtain ⟨y, e, _⟩ := H2.wf.nodes; rw [e] at hm; cases hm
  have hqf : q ≠ fb := by rintro rfl; rw [s2.fs] at hm; cases hm
  obtain ⟨w2, hup, hi2, hg2⟩ := hMA.drew.drew.update kT Tryz.underlying63 (by unfold maxLen; omega) (keyT hnml) (val := .int .i64 v) (v := v) rfl
  obtain ⟨s4, t4⟩ := s2.drew.drew.wrote hm hg2 (r' := .names (put m nm v)) hi2 (.inr (.inl ⟨_, rfl, hqnb⟩)) hqf
  have hne : ∀ x t u, L2 x = some (.box t u) → upd L2 q (.names (put m nm v)) x = some (.box t u) := fun x t u hx => by
    rw [upd_other _ _ (fun e => by rw [e, hm] at hx; cases hx)]; exact hx
  go_enter Tryz.func61, Tryz.ntmps61
  go_wp2_with (go_at_call 40; refine (at_st s1 k1 ha1 h1 h2).mono ?_; rintro e w' ⟨rfl, rfl⟩)
  go_region
  all_goals
    go_wp2_with fail
    go_region
    go_wp2_with (go_at_call 79; refine (back_any s4 hlen _ _).mono ?_; rintro e w' ⟨rfl, uv', s5, t5⟩)
    go_end0
    obtain ⟨j1, j2, j3⟩ := H2.wf.names hb hq hm (put m nm v)
    have hu : upd L2 q (.names (put m nm v)) d = some (.node hd) := by rw [upd_other _ _ (fun e => by rw [e] at hb; rw [hb] at hm; cases hm)]; exact hb
    refine ⟨rfl, _, uv', _, h.note hL2 hm s5 (.put q d hd m _ nm (W.heap.size + 1) W.heap.size (hne _ _ _ m2) (hne _ _ _ m1) hu hq hnml (del_put hMA.2 hj)) j1 ?_, (t1.trans t2).trans ((t4.drew0.drew0).trans t5), by simp, by simp, ?_, boxes_kept hL2 hm (fun _ _ c => by cases c)⟩
    · unfold replN
      rw [← H2.st]
      refine st_of_at H2.wf ha2 _ j2 fun x _ => ?_
      rw [j3]
      have e3 : (ndAtB L2 d).names = m := by
        rw [hnd]
        show namesAt L2 hd.nm = m
        unfold namesAt; rw [hq]; dsimp only; rw [hm]
      split
      · rw [e3]
      · rfl
    · intro j c hc
      unfold Adr; rw [j2, (hL2.wf h.wf).2.2]; exact hc
theorem WF.st_rising (h : WF L nb) : Rising (stOf L nb) := by
  have := h.rising
  unfold stOf Rising at *
  rw [List.pairwise_map]
  exact this
theorem modN_modN (s : Tree) (i : Int) (f g : Nd → Nd) : modN (modN s i f) i g = modN s i fun x => g (f x) := by
  unfold modN
  rw [List.map_map]
  refine List.map_congr_left fun p _ => ?_
  simp only [Function.comp]
  by_cases e : p.1 = i
  · simp [e]
  · simp [e]
theorem modN_congr {s : Tree} (hs : Rising s) {i : Int} {f g : Nd → Nd} (h : ∀ x, get s i = some x → f x = g x) : modN s i f = modN s i g := by
  unfold modN
  refine List.map_congr_left fun p hp => ?_
  by_cases e : p.1 = i
  · rw [if_pos e, if_pos e, h p.2 (hs.get.2 (by rw [← e]; exact hp))]
  · rw [if_neg e, if_neg e]
theorem kindOf_modN (s : Tree) (i j : Int) (f : Nd → Nd) (hf : ∀ x, (f x).kind = x.kind) : kindOf (modN s i f) j = kindOf s j := by
  unfold kindOf
  rw [get_modN]
  split
  · rename_i e; subst e; cases get s j <;> simp [hf]
  · rfl
theorem namesOf_modN (s : Tree) (i j : Int) (f : Nd → Nd) (hf : ∀ x, (f x).names = x.names) : namesOf (modN s i f) j = namesOf s j := by
  unfold namesOf
  rw [get_modN]
  split
  · rename_i e; subst e; cases get s j <;> simp [hf]
  · rfl
set_option maxRecDepth 100000 in
set_option maxHeartbeats 4000000 in
/-- The directory grows. -/
theorem put_grow (h : St W L fb n nb uv vals L0 s) (hlen : vals.length ≤ 100000000000) {i : Int} {d : Nat} (ha : Adr L nb i d) (h1 : 0 ≤ i) (h2 : i ≤ 1000000) (hk : kindOf s i = 2) (nm : Tx) (hnm : nm.length ≤ 1000000) (hj : get (namesOf s i) nm = none) (hml : (namesOf s i).length ≤ 1000000) (v : Int)
    (hbl : ∀ z, (get s i).map (·.blocks) = some z → 0 ≤ z ∧ z ≤ 1000000 ∧ ((namesOf s i).length : Int) = z * 16) :
    Calls Tryz.prog 61 #[.pointer (some ⟨fb, 0, none⟩), .int .i64 i, .string (mk nm), .int .i64 v] W fun e W' => e = .returned (.tuple #[]) ∧ After W L uv fb n nb L0 (vals.length + 3) (Adr L nb) (putN s i nm v) W' := by
  obtain ⟨hd, q, m, hb, hq, hm, hme, hnd, hkd, hblk, hMA, c4⟩ := h.dir ha hk
  obtain ⟨z1, z2, z3⟩ := hbl _ hblk
  have hxs : get s i = some (ndAtB L d) := by rw [← h.st]; exact ha.st
  have hsr : Rising s := by rw [← h.st]; exact h.wf.st_rising
  obtain ⟨_, _, _, _, _, c5, _, g5⟩ := node_cells (h.sim.is d _ hb).2
  have g5 := g5 5
  have hdl := (h.sim.is d _ hb).1
  have hnml : nm.length ≤ maxLen := by unfold maxLen; omega
  obtain ⟨s0, t0⟩ := h.sim.field hb (hd' := { hd with blocks := hd.blocks + 1 }) (j := 5) (v := .int .i64 (hd.blocks + 1)) rfl
  obtain ⟨s1, t1⟩ := s0.newBox 9 (.string (mk nm)) (cs := #[.string (mk nm)]) rfl
  obtain ⟨s2, t2⟩ := s1.newBox 61 (evP d) (cs := #[.pointer (some ⟨d, 0, none⟩)]) rfl
  obtain ⟨u1, v1⟩ := h.sim.newBox 9 (.string (mk nm)) (cs := #[.string (mk nm)]) rfl
  obtain ⟨u2, v2⟩ := u1.newBox 61 (evP d) (cs := #[.pointer (some ⟨d, 0, none⟩)]) rfl
  simp only [World.size_alloc, World.size_setCell] at s1 t1 s2 t2 u2 v2
  have x1 : L W.heap.size = none := h.sim.none_of_ge (Nat.le_refl _)
  have x2 : L (W.heap.size + 1) = none := h.sim.none_of_ge (by omega)
  have hL1 := (Boxed.refl L).box _ _ W.heap.size 9 (.string (mk nm)) x1
  have hL2 := hL1.box _ _ (W.heap.size + 1) 61 (evP d) (by rw [upd_other _ _ (by omega)]; exact x2)
  have m1 : upd (upd L W.heap.size (.box 9 (.string (mk nm)))) (W.heap.size + 1) (.box 61 (evP d)) W.heap.size = some (.box 9 (.string (mk nm))) := by rw [upd_other _ _ (by omega), upd_same]
  have m2 : upd (upd L W.heap.size (.box 9 (.string (mk nm)))) (W.heap.size + 1) (.box 61 (evP d)) (W.heap.size + 1) = some (.box 61 (evP d)) := upd_same _ _ _
  have hlay : upd (upd (upd L d (.node { hd with blocks := hd.blocks + 1 })) W.heap.size (.box 9 (.string (mk nm)))) (W.heap.size + 1) (.box 61 (evP d)) = upd (upd (upd L W.heap.size (.box 9 (.string (mk nm)))) (W.heap.size + 1) (.box 61 (evP d))) d (.node { hd with blocks := hd.blocks + 1 }) := by
    rw [upd_comm L _ _ (by omega), upd_comm _ _ _ (by omega)]
  rw [hlay] at s2 t2
  generalize upd (upd L W.heap.size (.box 9 (.string (mk nm)))) (W.heap.size + 1) (.box 61 (evP d)) = L2 at *
  generalize upd L W.heap.size (.box 9 (.string (mk nm))) = L1 at *
  obtain ⟨k1, k2, k3⟩ := hL1.wf h.wf
  obtain ⟨q1, q2, q3⟩ := hL2.wf h.wf
  have ha1 : Adr L1 nb i d := by unfold Adr; rw [k3]; exact ha
  have ha2 : Adr L2 nb i d := by unfold Adr; rw [q3]; exact ha
  have hb2 := hL2.keep hb
  have hMA2 : MapAt Tryz.prog 9 evI _ q m := (u2.is q _ (hL2.keep hm)).2
  have hlenm := fun ty => (hMA2.drew).len Tryz.underlying63 ty
  have hz : ((m.length : Int) == hd.blocks * 16) = true := by rw [beq_iff_eq, hme]; exact z3
  have s3 := s2.drew
  obtain ⟨j1, j2, j3⟩ := q1.field hb2 (hd' := { hd with blocks := hd.blocks + 1 }) rfl rfl rfl
  have hne : ∀ x t u, L2 x = some (.box t u) → upd L2 d (.node { hd with blocks := hd.blocks + 1 }) x = some (.box t u) := boxes_kept (Boxed.refl _) hb2 (fun _ _ c => by cases c)
  have hs1 : stOf (upd L2 d (.node { hd with blocks := hd.blocks + 1 })) nb = modN s i fun x => { x with blocks := x.blocks + 1 } := by
    rw [← h.st, ← q2]
    refine st_of_at q1 ha2 (fun x => { x with blocks := x.blocks + 1 }) j2 fun x _ => ?_
    rw [j3]
    split
    · rw [ndAtB_of hb2]; rfl
    · rfl
  have hsr1 : Rising (modN s i fun x => { x with blocks := x.blocks + 1 }) := by rw [← hs1]; exact j1.st_rising
  clear hme
  go_enter Tryz.func61, Tryz.ntmps61
  go_wp2_with (go_at_call 40; refine (at_st u1 k1 ha1 h1 h2).mono ?_; rintro e w' ⟨rfl, rfl⟩)
  go_region
  all_goals
    go_wp2_with (go_at_call 79; refine (back_any s3 (by omega) _ _).mono ?_; rintro e w3 ⟨rfl, uv3, s5, t5⟩)
    have S5 := h.note hL2 hb2 s5 (.grow d hd (W.heap.size + 1) (hne _ _ _ m2) z1 (by omega)) j1 hs1
    have ha5 : Adr (upd L2 d (.node { hd with blocks := hd.blocks + 1 })) nb i d := by unfold Adr; rw [j2, q3]; exact ha
    have e1 := s5.box (hne _ _ _ m2) rfl
    obtain ⟨_, _, _, _, _, e2, _⟩ := node_cells (s5.is d _ (upd_same _ _ _)).2
    unfold evP at e1
    dsimp only at e2
    have hw : IntKind.i64.wrap ((hd.blocks + 1) * 512) = (hd.blocks + 1) * 512 := IntWalk.i64_in _ (by omega)
    go_wp2_with fail
    go_still_tail 7, (by kernel_rfl)
    change wpList _ _ _ _ _ w3.drew
    go_wp2_with (go_at_call 89; refine (resize_st S5.drew (by rw [List.length_append]; simp only [List.length_singleton]; omega) ha5 _).mono ?_; rintro e w4 ⟨rfl, L4, uv4, vals4, S6, t6, n6, _, a6, b6⟩)
    clear hw
    obtain ⟨hd4, q4, m4, hb4, hq4, hm4, hme4, hnd4, hkd4, _, hMA4, c8⟩ := S6.dir (a6 _ _ ha5) (by rw [kindOf_modN _ _ _ _ (by intro x; rfl), kindOf_modN _ _ _ _ (by intro x; rfl)]; exact hk)
    rw [namesOf_modN _ _ _ _ (by intro x; rfl), namesOf_modN _ _ _ _ (by intro x; rfl)] at hme4
    have y1 := S6.sim.box (b6 _ _ _ (hne _ _ _ m1)) rfl
    have y2 := S6.sim.box (b6 _ _ _ (hne _ _ _ m2)) rfl
    unfold evP at y2
    have hq4nb : q4 ≠ nb := by rintro rfl; obtain ⟨y, e, _⟩ := S6.wf.nodes; rw [e] at hm4; cases hm4
    have hq4f : q4 ≠ fb := by rintro rfl; rw [S6.sim.fs] at hm4; cases hm4
    have hml4 : m4.length < maxLen := by rw [hme4]; unfold maxLen; omega
    have hj4 : get m4 nm = none := by rw [hme4]; exact hj
    clear hme4
    obtain ⟨w5, hup, hi5, hg5⟩ := hMA4.drew.update kT Tryz.underlying63 hml4 (keyT hnml) (val := .int .i64 v) (v := v) rfl
    obtain ⟨s7, t7⟩ := S6.sim.drew.wrote hm4 hg5 (r' := .names (put m4 nm v)) hi5 (.inr (.inl ⟨_, rfl, hq4nb⟩)) hq4f
    have hne4 : ∀ x t u, L4 x = some (.box t u) → upd L4 q4 (.names (put m4 nm v)) x = some (.box t u) := boxes_kept (Boxed.refl _) hm4 (fun _ _ c => by cases c)
    have n6' : vals4.length ≤ vals.length + 2 := by rw [List.length_append] at n6; exact n6
    go_wp2_with fail
    go_region
    go_wp2_with (go_at_call 79; refine (back_any s7 (by omega) _ _).mono ?_; rintro e w6 ⟨rfl, uv6, s8, t8⟩)
    go_end0
    obtain ⟨g1, g2, g3⟩ := S6.wf.names hb4 hq4 hm4 (put m4 nm v)
    have hu : upd L4 q4 (.names (put m4 nm v)) d = some (.node hd4) := by rw [upd_other _ _ (fun e => by rw [e] at hb4; rw [hb4] at hm4; cases hm4)]; exact hb4
    have T : Step W (Mine L uv) w4 (Mine L4 uv4) := ((((t0.trans t1).trans t2).drew).trans t5).trans (t6.drew0)
    refine ⟨rfl, _, uv6, _, S6.note (Boxed.refl _) hm4 s8 (.put q4 d hd4 m4 _ nm (W.heap.size + 1) W.heap.size (hne4 _ _ _ (b6 _ _ _ (hne _ _ _ m2))) (hne4 _ _ _ (b6 _ _ _ (hne _ _ _ m1))) hu hq4 hnml (del_put hMA4.2 hj4)) g1 ?_, T.trans ((t7.drew0).trans t8), ?_, by simp, ?_, ?_⟩
    · rw [st_of_at S6.wf (a6 _ _ ha5) (fun x => { x with names := put x.names nm v }) g2 (fun x _ => ?_)]
      · rw [S6.st, modN_modN, modN_modN]
        refine modN_congr hsr fun x hx => ?_
        rw [hxs] at hx
        cases hx
        have hx1 : (ndAtB L d).names.length = m.length := by
          rw [hnd]
          show (namesAt L hd.nm).length = _
          unfold namesAt; rw [hq]; dsimp only; rw [hm]
        have hx2 : (ndAtB L d).blocks = hd.blocks := by rw [hnd]; rfl
        rw [beq_iff_eq] at hz
        rw [if_pos (by rw [hx1, hx2]; exact hz), hx2]
      · rw [g3]
        have e3 : (ndAtB L4 d).names = m4 := by
          rw [hnd4]
          show namesAt L4 hd4.nm = m4
          unfold namesAt; rw [hq4]; dsimp only; rw [hm4]
        split
        · rw [e3]
        · rfl
    · rw [List.length_append]; simp only [List.length_singleton]; omega
    · intro j c hc
      have := a6 j c (by unfold Adr; rw [j2, q3]; exact hc)
      unfold Adr at this ⊢; rw [g2]; exact this
    · intro x t u hx
      exact hne4 _ _ _ (b6 _ _ _ (hne _ _ _ (hL2.ex _ _ hx)))
/-- A name is put into a directory. -/
theorem put_st (h : St W L fb n nb uv vals L0 s) (hlen : vals.length ≤ 100000000000) {i : Int} {d : Nat} (ha : Adr L nb i d) (h1 : 0 ≤ i) (h2 : i ≤ 1000000) (hk : kindOf s i = 2) (nm : Tx) (hnm : nm.length ≤ 1000000) (hj : get (namesOf s i) nm = none) (hml : (namesOf s i).length ≤ 1000000) (v : Int)
    (hbl : ∀ x, get s i = some x → 0 ≤ x.blocks ∧ x.blocks ≤ 1000000) :
    Calls Tryz.prog 61 #[.pointer (some ⟨fb, 0, none⟩), .int .i64 i, .string (mk nm), .int .i64 v] W fun e W' => e = .returned (.tuple #[]) ∧ After W L uv fb n nb L0 (vals.length + 3) (Adr L nb) (putN s i nm v) W' := by
  have hxs : get s i = some (ndAtB L d) := by rw [← h.st]; exact ha.st
  have hsr : Rising s := by rw [← h.st]; exact h.wf.st_rising
  have hnm' : namesOf s i = (ndAtB L d).names := by unfold namesOf; rw [hxs]; rfl
  by_cases hz : ((namesOf s i).length : Int) = (ndAtB L d).blocks * 16
  · exact put_grow h hlen ha h1 h2 hk nm hnm hj hml v fun z hz' => by
      rw [hxs] at hz'; cases hz'; exact ⟨(hbl _ hxs).1, (hbl _ hxs).2, hz⟩
  · refine (put_same h (by omega) ha h1 h2 hk nm hnm hj hml v fun z hz' => by
      rw [hxs] at hz'; cases hz'; exact ⟨(hbl _ hxs).1, (hbl _ hxs).2, hz⟩).mono ?_
    rintro e W' ⟨rfl, L', uv', vals', k1, k2, k3, k4, k5, k6⟩
    refine ⟨rfl, L', uv', vals', ?_, k2, by omega, k4, k5, k6⟩
    have : putN s i nm v = replN s i nm v := modN_congr hsr fun x hx => by
      rw [hxs] at hx
      cases hx
      rw [if_neg (by rw [← hnm']; exact hz)]
    rw [this]
    exact k1
end
end Fs
end Go.Proofs.YtlnnbjgfpiefdaaGreat
/- An inode is added; a name of one is taken off. -/
namespace Go.Proofs.YtlnnbjgfpiefdaaGreat
open Go.RowKit Go.Maps Go.Shelf

namespace Fs
section
variable {W : World} {L : Lay} {fb : Nat} {n : Int} {nb : Nat} {uv : Value} {vals : List Value} {L0 : Lay} {s : Tree}
/-- A block that lies there is a box of it. -/
theorem Sim.adopt (h : Sim W L fb n nb uv vals) {x : Nat} {t : TypeId} {v : Value} (hx : Blk W x v.cells t) (hm : ¬ Mine L uv x) : Sim W (upd L x (.box t v)) fb n nb uv vals := by
  have hl : L x = none := by cases e : L x with
    | none => rfl
    | some r => exact absurd (.inl (by rw [e]; simp)) hm
  have hu : uv.ownBlock ≠ some x := fun e => hm (.inr e)
  refine h.turn (Nat.le_refl _) (fun _ _ _ => rfl) hx.lt hx ?_ ?_ hu
  · rintro rfl; rw [h.fs] at hl; cases hl
  · rintro rfl; obtain ⟨m, e⟩ := h.nodes; rw [e] at hl; cases hl
theorem put_none {κ ν : Type} [DecidableEq κ] [Key κ] {l : Al κ ν} (h : Rising l) {k : κ} {v : ν} (hn : get l k = none) : del (put l k v) k = l := del_put h hn

set_option maxRecDepth 100000 in
set_option maxHeartbeats 4000000 in
theorem add_st (h : St W L fb n nb uv vals L0 s) (hlen : vals.length ≤ 100000000000) (hn1 : 128 ≤ n) (hn2 : n ≤ 16384) {b : Nat} {hd : Hd} (hb : L b = some (.node hd)) (hbn : ∀ i, ¬ Adr L nb i b) (hml : s.length ≤ 1000000) :
    Calls Tryz.prog 67 #[.pointer (some ⟨fb, 0, none⟩), .pointer (some ⟨b, 0, none⟩)] W fun e W' =>
      (∃ i, freeN n s = some i ∧ e = .returned (.tuple #[.int .i64 i, .int .i64 0]) ∧ 1 ≤ i ∧ i ≤ 10000 ∧ After W L uv fb n nb L0 (vals.length + 1) (fun j c => Adr L nb j c ∨ (j = i ∧ c = b)) (put s i (ndAtB L b)) W') ∨
      (freeN n s = none ∧ e = .returned (.tuple #[.int .i64 0, .int .i64 90]) ∧ Below W.heap.size W W') := by
  have hcn : countOf n ≤ 2048 := by unfold countOf; omega
  have hc0 : 8 ≤ countOf n := by unfold countOf; omega
  have hbl := (h.sim.is b _ hb).1
  have hsz : s.length = (nodesOf L nb).length := by rw [← h.st]; unfold stOf; simp
  go_enter Tryz.func67, Tryz.ntmps67
  go_wp2
  obtain ⟨W2, hW2⟩ : ∃ x, x = W.alloc (.cells #[.pointer (some ⟨fb, 0, none⟩)] 23) := ⟨_, rfl⟩
  have hB2 : Below W.heap.size W W2 := by rw [hW2]; exact (Below.refl _ _).alloc (Nat.le_refl _) _
  have hbf : Blk W2 W.heap.size #[evP fb] 23 := by rw [hW2]; exact Blk.new W _ _
  have hs2 : W2.heap.size = W.heap.size + 1 := by rw [hW2]; simp
  rw [← hW2]
  go_loopw [6] (fun p wr => ∃ (i : Int) (Bi : Nat), p = .pointer (some ⟨Bi, 0, none⟩) ∧ Blk wr Bi #[.int .i64 i] 3 ∧ W2.heap.size ≤ Bi ∧ 1 ≤ i ∧ i ≤ countOf n ∧ freeFrom s (countOf n - i).toNat i = freeN n s ∧ Below W2.heap.size W2 wr) (fun p wr => (countOf n - (match p with | .pointer (some a) => (match wr.cell? a with | some v => intOf v | none => 0) | _ => 0)).toNat)
  case atStart =>
    refine ⟨1, W2.heap.size, by rw [hs2], Blk.new W2 _ _, Nat.le_refl _, by omega, by omega, rfl, (Below.refl _ _).alloc (Nat.le_refl _) _⟩
  case round =>
    obtain ⟨i, Bi, rfl, hbi, hBi, hi1, hi2, hfree, hBw⟩ := hrel
    have hr : Sim wr L fb n nb uv vals := (h.sim.below hB2).below hBw
    have hBilt := hbi.lt
    have c1 := hbi.cell 0
    have f1 := hbi.free 0
    have hbf' := hbf.same (hBw.block _ (by omega))
    have cf := hbf'.cell 0
    obtain ⟨_, _, c4, c5, _⟩ := fs_cells hr.blk
    have hlook := (hr.drew.drew.nodesAt h.wf).look_ok kI Tryz.underlying57 (zP _) (keyI (i := i) (wfI (by omega) (by omega)))
    have hfl := hr.blk.lt
    unfold evP at cf
    by_cases hlt : i < n / 64 * 8
    · cases hg : get (nodesOf L nb) i with
      | some c =>
        rw [hg] at hlook
        simp only [Option.map_some, Option.getD_some, evP, Option.isSome_some] at hlook
        go_wp2_with fail
        go_region
        go_wp2_with fail
        go_region
        go_wp2
        go_roundw
        case rel =>
          refine ⟨i + 1, wr.heap.size, rfl, Blk.new wr _ _, hBw.size, by omega, by unfold countOf; omega, ?_, (hBw.alloc hBw.size _).drew.drew⟩
          rw [← hfree]
          have e1 : (countOf n - i).toNat = (countOf n - (i + 1)).toNat + 1 := by unfold countOf; omega
          rw [e1, freeFrom, if_neg]
          rw [← h.st, Adr.none, hg]; simp
        case measure =>
          have e2 : (wr.alloc (.cells #[.int .i64 (i + 1)] 3)).drew.drew.cell? ⟨wr.heap.size, 0, none⟩ = some (.int .i64 (i + 1)) := (Blk.new wr #[.int .i64 (i + 1)] 3).cell 0
          dsimp only
          rw [c1, e2]
          show (countOf n - (i + 1)).toNat < (countOf n - i).toNat
          unfold countOf
          omega
      | none =>
        rw [hg] at hlook
        simp only [Option.map_none, Option.getD_none, Option.isSome_none] at hlook
        have hfr : freeN n s = some i := by
          rw [← hfree]
          have e1 : (countOf n - i).toNat = (countOf n - (i + 1)).toNat + 1 := by unfold countOf; omega
          rw [e1, freeFrom, if_pos]
          rw [← h.st, Adr.none]; exact hg
        have nm1 := h.sim.not_mine (b := W.heap.size) (Nat.le_refl _)
        have nm2 := h.sim.not_mine (b := Bi) (by omega)
        have hLb : L W.heap.size = none := h.sim.none_of_ge (Nat.le_refl _)
        have hLB : L Bi = none := h.sim.none_of_ge (by omega)
        have r1 := hr.adopt (t := 23) (v := evP fb) hbf' nm1
        have r2 := r1.adopt (x := Bi) (t := 3) (v := .int .i64 i) hbi (by
          rintro (e | e)
          · rw [upd_other _ _ (by omega)] at e; exact nm2 (.inl e)
          · exact nm2 (.inr e))
        have hL2 : Boxed L (upd (upd L W.heap.size (.box 23 (evP fb))) Bi (.box 3 (.int .i64 i))) := .box _ _ _ _ _ (.box _ _ _ _ _ (.refl _) hLb) (by rw [upd_other _ _ (by omega)]; exact hLB)
        have m1 : upd (upd L W.heap.size (.box 23 (evP fb))) Bi (.box 3 (.int .i64 i)) W.heap.size = some (.box 23 (evP fb)) := by rw [upd_other _ _ (by omega), upd_same]
        have m2 : upd (upd L W.heap.size (.box 23 (evP fb))) Bi (.box 3 (.int .i64 i)) Bi = some (.box 3 (.int .i64 i)) := upd_same _ _ _
        have hst2 : Step W (Mine L uv) wr (Mine (upd (upd L W.heap.size (.box 23 (evP fb))) Bi (.box 3 (.int .i64 i))) uv) := by
          have hB : Below W.heap.size W wr := hB2.trans ⟨hBw.os, hBw.tape, hBw.output, hBw.size, fun k hk => hBw.block k (by omega)⟩
          refine ⟨hB.os, hB.tape, hB.output, hB.size, fun k hk hx => ⟨hB.block k hk, ?_⟩⟩
          rintro (e | e)
          · rw [upd_other _ _ (by omega), upd_other _ _ (by omega)] at e; exact hx (.inl e)
          · exact hx (.inr e)
        generalize upd (upd L W.heap.size (.box 23 (evP fb))) Bi (.box 3 (.int .i64 i)) = L2 at *
        obtain ⟨q1, q2, q3⟩ := hL2.wf h.wf
        obtain ⟨w5, hup, hi5, hg5⟩ := (r2.drew.drew.drew.nodesAt q1).update kI Tryz.underlying57 (by rw [q3, ← hsz]; unfold maxLen; omega) (keyI (i := i) (wfI (by omega) (by omega))) (val := evP b) (v := b) rfl
        have hnf : nb ≠ fb := by rintro e; have := h.sim.fs; obtain ⟨m, hm⟩ := h.sim.nodes; rw [e, this] at hm; cases hm
        obtain ⟨s7, t7⟩ := r2.drew.drew.drew.wrote q1.nodesOf_eq hg5 (r' := .nodes (put (nodesOf L2 nb) i b)) hi5 (.inl ⟨_, rfl, rfl⟩) hnf
        have hne : ∀ x t u, L2 x = some (.box t u) → upd L2 nb (.nodes (put (nodesOf L2 nb) i b)) x = some (.box t u) := boxes_kept (Boxed.refl _) q1.nodesOf_eq (fun _ _ c => by cases c)
        have d1 := s7.box (hne _ _ _ m1) rfl
        have d2 := s7.box (hne _ _ _ m2) rfl
        unfold evP at d1 hup
        go_wp2_with fail
        go_region
        go_wp2_with fail
        go_region
        go_wp2_with fail
        go_region
        go_wp2_with (go_at_call 79; refine (back_any s7 (by omega) _ _).mono ?_; rintro e w6 ⟨rfl, uv6, s8, t8⟩; have d3 := s8.box (hne _ _ _ m2) rfl)
        go_ret2
        refine .inl ⟨i, hfr, rfl, hi1, by omega, ?_⟩
        obtain ⟨j1, j2, j3⟩ := q1.table (put (nodesOf L2 nb) i b) (q1.rising.put i b) (fun p hp => by
            rcases mem_put.1 hp with e | e
            · exact ⟨hd, by rw [e]; exact hL2.keep hb⟩
            · exact q1.node p e.1) (fun p hp q hq e => by
            rcases mem_put.1 hp with e1 | e1 <;> rcases mem_put.1 hq with e2 | e2
            · rw [e1, e2]
            · exfalso
              refine hbn q.1 ?_
              have := q1.rising.get.2 (show (q.1, q.2) ∈ _ from e2.1)
              rw [q3, ← e, e1] at this
              exact this
            · exfalso
              refine hbn p.1 ?_
              have := q1.rising.get.2 (show (p.1, p.2) ∈ _ from e1.1)
              rw [q3, e, e2] at this
              exact this
            · exact q1.inj p e1.1 q e2.1 e)
        refine ⟨_, uv6, _, h.note hL2 q1.nodesOf_eq s8 (.add _ _ i W.heap.size Bi (hne _ _ _ m1) (hne _ _ _ m2) (by omega) (by omega) (del_put q1.rising (by rw [q3]; exact hg))) j1 ?_, hst2.trans ((t7.drew0.drew0.drew0).trans t8), by simp, by simp, ?_, boxes_kept hL2 q1.nodesOf_eq (fun _ _ c => by cases c)⟩
        · rw [st_table j2 j3, ← h.st, ← q2]
          unfold stOf
          rw [← put_map, show ndAtB L b = ndAtB L2 b from ?_]
          rw [ndAtB_of hb, ndAtB_of (hL2.keep hb)]
          unfold ndOf
          have e3 : piecesAt L hd.pm = piecesAt L2 hd.pm := by
            cases hp : hd.pm with
            | none => rfl
            | some p => obtain ⟨y, hy⟩ := h.wf.pm _ _ _ hb hp; unfold piecesAt; dsimp only; rw [hy, hL2.keep hy]
          have e4 : namesAt L hd.nm = namesAt L2 hd.nm := by
            cases hp : hd.nm with
            | none => rfl
            | some p => obtain ⟨y, hy⟩ := h.wf.nm _ _ _ hb hp; unfold namesAt; dsimp only; rw [hy, hL2.keep hy]
          rw [e3, e4]
        · rintro j c (hc | ⟨rfl, rfl⟩)
          · unfold Adr; rw [j2, get_put_other _ q1.rising (fun e => by rw [e] at hc; unfold Adr at hc; rw [hg] at hc; cases hc), q3]; exact hc
          · unfold Adr; rw [j2, get_put_same _ q1.rising]
    · go_wp2_with fail
      go_region
      go_wp2
      go_ret2
      refine .inr ⟨?_, rfl, (hB2.trans ⟨hBw.os, hBw.tape, hBw.output, hBw.size, fun k hk => hBw.block k (by omega)⟩).drew⟩
      rw [← hfree, show (countOf n - i).toNat = 0 from by unfold countOf; omega]; rfl
theorem linksOf_linksN (s : Tree) (i d : Int) (h : (get s i).isSome = true) : linksOf (linksN s i d) i = linksOf s i + d := by
  unfold linksOf linksN
  rw [get_modN, if_pos rfl]
  cases hx : get s i with
  | none => rw [hx] at h; cases h
  | some x => rfl
theorem Adr.some (h : St W L fb n nb uv vals L0 s) {i : Int} {b : Nat} (ha : Adr L nb i b) : (get s i).isSome = true := by rw [← h.st, ha.st]; rfl
/-- A node's cells, by the tree. -/
theorem St.node (h : St W L fb n nb uv vals L0 s) {i : Int} {b : Nat} (ha : Adr L nb i b) : ∃ hd, L b = Option.some (.node hd) ∧ ndAtB L b = ndOf L hd ∧ get s i = Option.some (ndOf L hd) ∧ W.cell? ⟨b, 0, Option.none⟩ = Option.some (.int .i64 (kindOf s i)) ∧ W.cell? ⟨b, 1, Option.none⟩ = Option.some (.int .i64 (linksOf s i)) := by
  obtain ⟨hd, hb⟩ := h.wf.at ha
  have e := ndAtB_of hb
  have hg : get s i = Option.some (ndOf L hd) := by rw [← h.st, ha.st, e]
  obtain ⟨c0, c1, _⟩ := node_cells (h.sim.is b _ hb).2
  refine ⟨hd, hb, e, hg, ?_, ?_⟩
  · rw [c0]; unfold kindOf; rw [hg]; rfl
  · rw [c1]; unfold linksOf; rw [hg]; rfl
set_option maxRecDepth 100000 in
set_option maxHeartbeats 4000000 in
theorem lose_st (h : St W L fb n nb uv vals L0 s) (hlen : vals.length ≤ 100000000000) {i : Int} {b : Nat} (ha : Adr L nb i b) (hi1 : 0 ≤ i) (hi2 : i ≤ 1000000) (hml : s.length ≤ 1000000) (h1 : -1000000 ≤ linksOf s i) (h2 : linksOf s i ≤ 1000000) (hold : Bool) :
    Calls Tryz.prog 51 #[.pointer (some ⟨fb, 0, none⟩), .int .i64 i, .bool hold] W fun e W' => e = .returned (.int .i64 (loseN s i hold).2) ∧ After W L uv fb n nb L0 (vals.length + 2) (fun j c => j ≠ i ∧ Adr L nb j c) (loseN s i hold).1 W' := by
  have hso := Adr.some h ha
  have hk3 : kindOf (linksN s i (-1)) i = kindOf s i := kindOf_modN _ _ _ _ (by intro x; rfl)
  have hl3 : linksOf (linksN s i (-1)) i = linksOf s i - 1 := by rw [linksOf_linksN _ _ _ hso]; omega
  have hlen3 : (linksN s i (-1)).length = s.length := by unfold linksN modN; simp
  by_cases hz : 0 < linksOf s i - 1
  · rw [show loseN s i hold = (linksN s i (-1), 0) from if_pos hz]
    go_enter Tryz.func51, Tryz.ntmps51
    go_wp2_with (first | (go_at_call 40; refine (at_st h.sim h.wf ha hi1 hi2).mono ?_; rintro e w' ⟨rfl, rfl⟩) | (go_at_call 53; refine (links_st h (by omega) ha (-1) h1 h2 (by decide) (by decide)).mono ?_; rintro e w3 ⟨rfl, L3, uv3, vals3, S3, t3, n3, m3, a3, b3⟩; obtain ⟨hd3, _, _, _, c0, c1⟩ := S3.node (a3 _ _ ha); rw [hk3] at c0; rw [hl3] at c1; have hx3 : (nodesOf L3 nb).length = s.length := (by rw [← hlen3, ← S3.st]; unfold stOf; simp)) | (go_at_call 54; refine (drop_st S3 (by omega) (a3 _ _ ha) hi1 hi2 (by rw [hx3]; exact hml)).mono ?_; rintro e w4 ⟨rfl, hA4⟩))
    go_ret
    exact ⟨rfl, L3, uv3, vals3, S3, t3, by omega, m3, fun j c h => a3 j c h.2, b3⟩
  · cases hold with
    | false =>
      rw [show loseN s i false = (del (linksN s i (-1)) i, 0) by unfold loseN; rw [if_neg hz, if_neg (by simp)]]
      go_enter Tryz.func51, Tryz.ntmps51
      go_wp2_with (first | (go_at_call 40; refine (at_st h.sim h.wf ha hi1 hi2).mono ?_; rintro e w' ⟨rfl, rfl⟩) | (go_at_call 53; refine (links_st h (by omega) ha (-1) h1 h2 (by decide) (by decide)).mono ?_; rintro e w3 ⟨rfl, L3, uv3, vals3, S3, t3, n3, m3, a3, b3⟩; obtain ⟨hd3, _, _, _, c0, c1⟩ := S3.node (a3 _ _ ha); rw [hk3] at c0; rw [hl3] at c1; have hx3 : (nodesOf L3 nb).length = s.length := (by rw [← hlen3, ← S3.st]; unfold stOf; simp)) | (go_at_call 54; refine (drop_st S3 (by omega) (a3 _ _ ha) hi1 hi2 (by rw [hx3]; exact hml)).mono ?_; rintro e w4 ⟨rfl, hA4⟩))
      go_ret
      exact ⟨rfl, hA4.trans t3 b3 (fun j c h => ⟨h.1, a3 _ _ h.2⟩) (by omega)⟩
    | true =>
      by_cases hk : kindOf s i = 1
      · rw [show loseN s i true = (linksN s i (-1), i) by unfold loseN; rw [if_neg hz, if_pos ⟨rfl, hk⟩]]
        have hkb : (kindOf s i == 1) = true := by rw [beq_iff_eq]; exact hk
        go_enter Tryz.func51, Tryz.ntmps51
        go_wp2_with (first | (go_at_call 40; refine (at_st h.sim h.wf ha hi1 hi2).mono ?_; rintro e w' ⟨rfl, rfl⟩) | (go_at_call 53; refine (links_st h (by omega) ha (-1) h1 h2 (by decide) (by decide)).mono ?_; rintro e w3 ⟨rfl, L3, uv3, vals3, S3, t3, n3, m3, a3, b3⟩; obtain ⟨hd3, _, _, _, c0, c1⟩ := S3.node (a3 _ _ ha); rw [hk3] at c0; rw [hl3] at c1; have hx3 : (nodesOf L3 nb).length = s.length := (by rw [← hlen3, ← S3.st]; unfold stOf; simp)) | (go_at_call 54; refine (drop_st S3 (by omega) (a3 _ _ ha) hi1 hi2 (by rw [hx3]; exact hml)).mono ?_; rintro e w4 ⟨rfl, hA4⟩))
        go_ret
        exact ⟨rfl, L3, uv3, vals3, S3, t3, by omega, m3, fun j c h => a3 j c h.2, b3⟩
      · rw [show loseN s i true = (del (linksN s i (-1)) i, 0) by unfold loseN; rw [if_neg hz, if_neg (by rintro ⟨_, c⟩; exact hk c)]]
        have hkb : (kindOf s i == 1) = false := by rw [beq_eq_false_iff_ne]; exact hk
        go_enter Tryz.func51, Tryz.ntmps51
        go_wp2_with (first | (go_at_call 40; refine (at_st h.sim h.wf ha hi1 hi2).mono ?_; rintro e w' ⟨rfl, rfl⟩) | (go_at_call 53; refine (links_st h (by omega) ha (-1) h1 h2 (by decide) (by decide)).mono ?_; rintro e w3 ⟨rfl, L3, uv3, vals3, S3, t3, n3, m3, a3, b3⟩; obtain ⟨hd3, _, _, _, c0, c1⟩ := S3.node (a3 _ _ ha); rw [hk3] at c0; rw [hl3] at c1; have hx3 : (nodesOf L3 nb).length = s.length := (by rw [← hlen3, ← S3.st]; unfold stOf; simp)) | (go_at_call 54; refine (drop_st S3 (by omega) (a3 _ _ ha) hi1 hi2 (by rw [hx3]; exact hml)).mono ?_; rintro e w4 ⟨rfl, hA4⟩))
        go_ret
        exact ⟨rfl, hA4.trans t3 b3 (fun j c h => ⟨h.1, a3 _ _ h.2⟩) (by omega)⟩
end
end Fs
end Go.Proofs.YtlnnbjgfpiefdaaGreat
/- Rows of numbers. -/
namespace Go.Proofs.YtlnnbjgfpiefdaaGreat
open Go.RowKit

theorem info_int : (Tryz.prog.info? 3).map (fun i => (i.zero, i.size, i.bytes)) = some (some (.int .i64 0), 1, 8) := by kernel_rfl

namespace Tk
/-- The numbers as cells. -/
def cs (xs : List Int) : List Value := xs.map (Value.int .i64)

theorem cs_len (xs : List Int) : (cs xs).length = xs.length := by simp [cs]
theorem cs_add_new {xs : List Int} {k : Int} (h : k ∉ xs) : add xs k = xs ++ [k] := by simp [add, h]
theorem cs_add_old {xs : List Int} {k : Int} (h : k ∈ xs) : add xs k = xs := by simp [add, h]
theorem cs_get (xs : List Int) (j : Nat) (h : j < xs.length) : (cs xs)[j]? = some (.int .i64 (xs.getD j 0)) := by simp [cs, h]
theorem mem_take_succ {xs : List Int} {k : Int} {j : Nat} (h : k ∉ xs.take j) (hj : j < xs.length) (hk : xs.getD j 0 ≠ k) : k ∉ xs.take (j + 1) := by
  simp only [List.getD_eq_getElem?_getD, List.getElem?_eq_getElem hj, Option.getD_some] at hk
  have e : xs.take (j + 1) = xs.take j ++ [xs[j]] := by rw [List.take_succ_eq_append_getElem hj]
  rw [e, List.mem_append]
  rintro (h' | h')
  · exact h h'
  · simp only [List.mem_cons, List.not_mem_nil, or_false] at h'; exact hk h'.symm
theorem mem_at {xs : List Int} {k : Int} {j : Nat} (hj : j < xs.length) (hk : xs.getD j 0 = k) : k ∈ xs := by
  simp only [List.getD_eq_getElem?_getD, List.getElem?_eq_getElem hj, Option.getD_some] at hk
  rw [← hk]; exact List.getElem_mem hj
end Tk
end Go.Proofs.YtlnnbjgfpiefdaaGreat
