/- Each change of the tree, noted with what takes it back: links, size. -/
import Derived.Test.YtlnnbjgfpiefdaaGreatRamB05
namespace Go.Proofs.YtlnnbjgfpiefdaaGreat
open Go.RowKit Go.Maps Go.Shelf

namespace Fs
/-- A file system under a call: its tree, and the layout to which all leads back. -/
structure St (W : World) (L : Lay) (fb : Nat) (n : Int) (nb : Nat) (uv : Value) (vals : List Value) (L0 : Lay) (s : Tree) : Prop where
  sim : Sim W L fb n nb uv vals
  ch : Chain fb nb L0 L vals
  wf : WF L nb
  st : stOf L nb = s
/-- Behind a change. -/
def After (W : World) (L : Lay) (uv : Value) (fb : Nat) (n : Int) (nb : Nat) (L0 : Lay) (k : Nat) (adr : Int → Nat → Prop) (s' : Tree) (W' : World) : Prop :=
  ∃ L' uv' vals', St W' L' fb n nb uv' vals' L0 s' ∧ Step W (Mine L uv) W' (Mine L' uv') ∧ vals'.length ≤ k ∧ vals' ≠ [] ∧ (∀ i b, adr i b → Adr L' nb i b) ∧ ∀ x t v, L x = some (.box t v) → L' x = some (.box t v)
theorem After.trans {W W1 W' : World} {L L1 : Lay} {uv uv1 : Value} {fb : Nat} {n : Int} {nb : Nat} {L0 : Lay} {k k' : Nat} {adr adr1 : Int → Nat → Prop} {s' : Tree} (hst : Step W (Mine L uv) W1 (Mine L1 uv1)) (hbx : ∀ x t v, L x = some (.box t v) → L1 x = some (.box t v))
    (hadr : ∀ i b, adr i b → adr1 i b) (hk : k ≤ k') (h : After W1 L1 uv1 fb n nb L0 k adr1 s' W') : After W L uv fb n nb L0 k' adr s' W' := by
  obtain ⟨L', uv', vals', h1, h2, h3, h4, h5, h6⟩ := h
  exact ⟨L', uv', vals', h1, hst.trans h2, Nat.le_trans h3 hk, h4, fun i b x => h5 i b (hadr i b x), fun x t v e => h6 x t v (hbx x t v e)⟩
section
variable {W : World} {L : Lay} {fb : Nat} {n : Int} {nb : Nat} {uv : Value} {vals : List Value} {L0 : Lay} {s : Tree}
/-- A box more. -/
theorem Sim.newBox (h : Sim W L fb n nb uv vals) (t : TypeId) (v : Value) {cs : Array Value} (hc : v.cells = cs) : Sim (W.alloc (.cells cs t (0, 0))) (upd L W.heap.size (.box t v)) fb n nb uv vals ∧ Step W (Mine L uv) (W.alloc (.cells cs t (0, 0))) (Mine (upd L W.heap.size (.box t v)) uv) := by
  subst hc
  have hx : L W.heap.size = none := h.none_of_ge (Nat.le_refl _)
  have hk : ∀ x, x < W.heap.size → (W.alloc (.cells v.cells t (0, 0))).heap[x]? = W.heap[x]? := ((Below.refl W.heap.size W).alloc (Nat.le_refl _) _).block
  refine ⟨h.turn (by simp) (fun x hne hm => hk x (h.mine_lt hm)) (by simp) (Blk.new W _ _) ?_ ?_ ?_, rfl, rfl, rfl, by simp, fun x hx' hn => ⟨hk x hx', ?_⟩⟩
  · intro e; have := h.fs; rw [← e, hx] at this; cases this
  · intro e; obtain ⟨m, hm⟩ := h.nodes; rw [← e, hx] at hm; cases hm
  · intro e; have := h.own_lt e; omega
  · rintro (e | e)
    · unfold upd at e; rw [if_neg (by omega)] at e; exact hn (.inl e)
    · exact hn (.inr e)
theorem ndAtB_of {b : Nat} {hd : Hd} (h : L b = some (.node hd)) : ndAtB L b = ndOf L hd := by unfold ndAtB; rw [h]
theorem boxes_kept {L1 : Lay} (hL : Boxed L L1) {b : Nat} {r r' : Ro} (hb : L1 b = some r) (hr : ∀ t v, r ≠ .box t v) : ∀ x t v, L x = some (.box t v) → upd L1 b r' x = some (.box t v) := fun x t v hx => by
  rw [upd_other _ _ (fun e => by rw [e] at hx; rw [hL.ex _ _ hx] at hb; cases hb; exact hr _ _ rfl)]; exact hL.ex _ _ hx
/-- What was changed and noted. -/
theorem St.note (h : St W L fb n nb uv vals L0 s) {W' : World} {L1 : Lay} {v uv' : Value} {b : Nat} {r r' : Ro} (hL : Boxed L L1) (hb : L1 b = some r) (hs : Sim W' (upd L1 b r') fb n nb uv' (vals ++ [v])) (hu : Und fb nb (upd L1 b r') v b r r') (hw : WF (upd L1 b r') nb) {s' : Tree} (hst : stOf (upd L1 b r') nb = s') :
    St W' (upd L1 b r') fb n nb uv' (vals ++ [v]) L0 s' := ⟨hs, .snoc L L1 _ vals v b r r' h.ch hL.ex hb hu (Ex.refl _), hw, hst⟩

set_option maxRecDepth 100000 in
set_option maxHeartbeats 1000000 in
theorem links_st (h : St W L fb n nb uv vals L0 s) (hlen : vals.length ≤ 1000000000000) {i : Int} {b : Nat} (ha : Adr L nb i b) (d : Int) (h1 : -1000000 ≤ linksOf s i) (h2 : linksOf s i ≤ 1000000) (h3 : -10 ≤ d) (h4 : d ≤ 10) :
    Calls Tryz.prog 53 #[.pointer (some ⟨fb, 0, none⟩), .pointer (some ⟨b, 0, none⟩), .int .i64 d] W fun e W' => e = .returned (.tuple #[]) ∧ After W L uv fb n nb L0 (vals.length + 1) (Adr L nb) (linksN s i d) W' := by
  obtain ⟨hd, hb⟩ := h.wf.at ha
  have hx : linksOf s i = hd.links := by unfold linksOf; rw [← h.st, ha.st, ndAtB_of hb]; rfl
  rw [hx] at h1 h2
  have hib := h.sim.is b _ hb
  obtain ⟨_, c1, _, _, _, _, _, g⟩ := node_cells hib.2
  have g1 := g 1
  clear g
  have hbl := hib.1
  obtain ⟨s1, t1⟩ := h.sim.field hb (hd' := { hd with links := hd.links + d }) (j := 1) (v := .int .i64 (hd.links + d)) rfl
  obtain ⟨s2, t2⟩ := s1.newBox 61 (evP b) (cs := #[.pointer (some ⟨b, 0, none⟩)]) rfl
  obtain ⟨s3, t3⟩ := s2.newBox 3 (.int .i64 d) (cs := #[.int .i64 d]) rfl
  rw [World.size_setCell] at s2 t2 s3 t3
  rw [World.size_alloc, World.size_setCell] at s3 t3
  have s4 := s3.drew
  have hL : Boxed L (upd (upd L W.heap.size (.box 61 (evP b))) (W.heap.size + 1) (.box 3 (.int .i64 d))) :=
    .box _ _ _ _ _ (.box _ _ _ _ _ (.refl _) (h.sim.none_of_ge (Nat.le_refl _))) (by rw [upd_other _ _ (by omega)]; exact h.sim.none_of_ge (by omega))
  have hlay : upd (upd (upd L b (.node { hd with links := hd.links + d })) W.heap.size (.box 61 (evP b))) (W.heap.size + 1) (.box 3 (.int .i64 d)) =
      upd (upd (upd L W.heap.size (.box 61 (evP b))) (W.heap.size + 1) (.box 3 (.int .i64 d))) b (.node { hd with links := hd.links + d }) := by
    rw [upd_comm L _ _ (by omega), upd_comm _ _ _ (by omega)]
  rw [hlay] at s4 t3
  have l1 : upd (upd L W.heap.size (.box 61 (evP b))) (W.heap.size + 1) (.box 3 (.int .i64 d)) W.heap.size = some (.box 61 (evP b)) := by rw [upd_other _ _ (by omega), upd_same]
  have l2 : upd (upd L W.heap.size (.box 61 (evP b))) (W.heap.size + 1) (.box 3 (.int .i64 d)) (W.heap.size + 1) = some (.box 3 (.int .i64 d)) := upd_same _ _ _
  have l3 : upd (upd L W.heap.size (.box 61 (evP b))) (W.heap.size + 1) (.box 3 (.int .i64 d)) b = some (.node hd) := by rw [upd_other _ _ (by omega), upd_other _ _ (by omega)]; exact hb
  generalize upd (upd L W.heap.size (.box 61 (evP b))) (W.heap.size + 1) (.box 3 (.int .i64 d)) = L1 at *
  go_enter Tryz.func53, Tryz.ntmps53
  go_wp2_with fail
  go_region
  go_wp2_with (go_at_call 79; refine (back_any s4 hlen _ _).mono ?_; rintro e w' ⟨rfl, uv', s5, t5⟩)
  go_end0
  obtain ⟨k1, k2, k3⟩ := hL.wf h.wf
  obtain ⟨j1, j2, j3⟩ := k1.field l3 (hd' := { hd with links := hd.links + d }) rfl rfl rfl
  have ha1 : Adr L1 nb i b := by unfold Adr; rw [k3]; exact ha
  refine ⟨rfl, _, uv', _, h.note hL l3 s5 (.links b hd d W.heap.size (W.heap.size + 1) (by rw [upd_other _ _ (by omega)]; exact l1) (by rw [upd_other _ _ (by omega)]; exact l2) (by omega) (by omega) h3 h4) j1 ?_, ((t1.trans t2).trans t3).drew.trans t5, by simp, by simp, ?_, boxes_kept hL l3 (fun _ _ c => by cases c)⟩
  · unfold linksN
    rw [← h.st, ← k2]
    refine st_of_at k1 ha1 (fun x => { x with links := x.links + d }) j2 fun x _ => ?_
    rw [j3]
    split
    · rw [ndAtB_of l3]; rfl
    · rfl
  · intro j c hc
    unfold Adr; rw [j2, k3]; exact hc
set_option maxRecDepth 100000 in
set_option maxHeartbeats 1000000 in
theorem resize_st (h : St W L fb n nb uv vals L0 s) (hlen : vals.length ≤ 1000000000000) {i : Int} {b : Nat} (ha : Adr L nb i b) (z : Int) :
    Calls Tryz.prog 89 #[.pointer (some ⟨fb, 0, none⟩), .pointer (some ⟨b, 0, none⟩), .int .i64 z] W fun e W' => e = .returned (.tuple #[]) ∧ After W L uv fb n nb L0 (vals.length + 1) (Adr L nb) (modN s i fun x => { x with size := z }) W' := by
  obtain ⟨hd, hb⟩ := h.wf.at ha
  have hib := h.sim.is b _ hb
  obtain ⟨_, _, c1, _, _, _, _, g⟩ := node_cells hib.2
  have g1 := g 2
  clear g
  have hbl := hib.1
  obtain ⟨s1, t1⟩ := h.sim.field hb (hd' := { hd with size := z }) (j := 2) (v := .int .i64 z) rfl
  obtain ⟨s2, t2⟩ := s1.newBox 61 (evP b) (cs := #[.pointer (some ⟨b, 0, none⟩)]) rfl
  obtain ⟨s3, t3⟩ := s2.newBox 3 (.int .i64 hd.size) (cs := #[.int .i64 hd.size]) rfl
  rw [World.size_setCell] at s2 t2 s3 t3
  rw [World.size_alloc, World.size_setCell] at s3 t3
  have hL : Boxed L (upd (upd L W.heap.size (.box 61 (evP b))) (W.heap.size + 1) (.box 3 (.int .i64 hd.size))) :=
    .box _ _ _ _ _ (.box _ _ _ _ _ (.refl _) (h.sim.none_of_ge (Nat.le_refl _))) (by rw [upd_other _ _ (by omega)]; exact h.sim.none_of_ge (by omega))
  have hlay : upd (upd (upd L b (.node { hd with size := z })) W.heap.size (.box 61 (evP b))) (W.heap.size + 1) (.box 3 (.int .i64 hd.size)) =
      upd (upd (upd L W.heap.size (.box 61 (evP b))) (W.heap.size + 1) (.box 3 (.int .i64 hd.size))) b (.node { hd with size := z }) := by
    rw [upd_comm L _ _ (by omega), upd_comm _ _ _ (by omega)]
  rw [hlay] at s3 t3
  have l1 : upd (upd L W.heap.size (.box 61 (evP b))) (W.heap.size + 1) (.box 3 (.int .i64 hd.size)) W.heap.size = some (.box 61 (evP b)) := by rw [upd_other _ _ (by omega), upd_same]
  have l2 : upd (upd L W.heap.size (.box 61 (evP b))) (W.heap.size + 1) (.box 3 (.int .i64 hd.size)) (W.heap.size + 1) = some (.box 3 (.int .i64 hd.size)) := upd_same _ _ _
  have l3 : upd (upd L W.heap.size (.box 61 (evP b))) (W.heap.size + 1) (.box 3 (.int .i64 hd.size)) b = some (.node hd) := by rw [upd_other _ _ (by omega), upd_other _ _ (by omega)]; exact hb
  generalize upd (upd L W.heap.size (.box 61 (evP b))) (W.heap.size + 1) (.box 3 (.int .i64 hd.size)) = L1 at *
  go_enter Tryz.func89, Tryz.ntmps89
  go_wp2_with (go_at_call 79; refine (back_any s3 hlen _ _).mono ?_; rintro e w' ⟨rfl, uv', s5, t5⟩)
  go_end0
  obtain ⟨k1, k2, k3⟩ := hL.wf h.wf
  obtain ⟨j1, j2, j3⟩ := k1.field l3 (hd' := { hd with size := z }) rfl rfl rfl
  have ha1 : Adr L1 nb i b := by unfold Adr; rw [k3]; exact ha
  refine ⟨rfl, _, uv', _, h.note hL l3 s5 (.size b hd z (W.heap.size + 1) W.heap.size (by rw [upd_other _ _ (by omega)]; exact l2) (by rw [upd_other _ _ (by omega)]; exact l1)) j1 ?_, ((t1.trans t2).trans t3).trans t5, by simp, by simp, ?_, boxes_kept hL l3 (fun _ _ c => by cases c)⟩
  · rw [← h.st, ← k2]
    refine st_of_at k1 ha1 (fun x => { x with size := z }) j2 fun x _ => ?_
    rw [j3]
    split
    · rw [ndAtB_of l3]; rfl
    · rfl
  · intro j c hc
    unfold Adr; rw [j2, k3]; exact hc

/-- 'at': where an inode lies. -/
theorem Sim.nodesAt (h : Sim W L fb n nb uv vals) (hw : WF L nb) : MapAt Tryz.prog 3 evP W nb (nodesOf L nb) := (h.is nb _ hw.nodesOf_eq).2
set_option maxRecDepth 100000 in
theorem at_any (h : Sim W L fb n nb uv vals) (hw : WF L nb) (i : Int) (h1 : 0 ≤ i) (h2 : i ≤ 1000000) :
    Calls Tryz.prog 40 #[.pointer (some ⟨fb, 0, none⟩), .int .i64 i] W fun e W' => e = .returned (((get (nodesOf L nb) i).map evP).getD (.pointer none)) ∧ W = W' := by
  have hrun := (h.nodesAt hw).look kI Tryz.underlying57 (zP W) (keyI (i := i) (wfI (by omega) (by omega)))
  obtain ⟨_, _, _, c3, _⟩ := fs_cells h.blk
  generalize ((get (nodesOf L nb) i).map evP).getD (.pointer none) = r at *
  go_enter Tryz.func40, Tryz.ntmps40
  go_wp2
  go_ret
  exact ⟨rfl, rfl⟩
theorem at_st (h : Sim W L fb n nb uv vals) (hw : WF L nb) {i : Int} {b : Nat} (ha : Adr L nb i b) (h1 : 0 ≤ i) (h2 : i ≤ 1000000) :
    Calls Tryz.prog 40 #[.pointer (some ⟨fb, 0, none⟩), .int .i64 i] W fun e W' => e = .returned (.pointer (some ⟨b, 0, none⟩)) ∧ W = W' := by
  refine (at_any h hw i h1 h2).mono ?_
  rw [ha]
  exact fun e w' h => h
set_option maxRecDepth 100000 in
set_option maxHeartbeats 1000000 in
theorem drop_st (h : St W L fb n nb uv vals L0 s) (hlen : vals.length ≤ 1000000000000) {i : Int} {b : Nat} (ha : Adr L nb i b) (h1 : 0 ≤ i) (h2 : i ≤ 1000000) (hm : (nodesOf L nb).length ≤ 1000000) :
    Calls Tryz.prog 54 #[.pointer (some ⟨fb, 0, none⟩), .int .i64 i] W fun e W' => e = .returned (.tuple #[]) ∧ After W L uv fb n nb L0 (vals.length + 1) (fun j c => j ≠ i ∧ Adr L nb j c) (del s i) W' := by
  obtain ⟨s1, t1⟩ := h.sim.newBox 23 (evP fb) (cs := #[.pointer (some ⟨fb, 0, none⟩)]) rfl
  obtain ⟨s2, t2⟩ := s1.newBox 3 (.int .i64 i) (cs := #[.int .i64 i]) rfl
  rw [World.size_alloc] at s2 t2
  have hL2 : Boxed L (upd (upd L W.heap.size (.box 23 (evP fb))) (W.heap.size + 1) (.box 3 (.int .i64 i))) :=
    .box _ _ _ _ _ (.box _ _ _ _ _ (.refl _) (h.sim.none_of_ge (Nat.le_refl _))) (by rw [upd_other _ _ (by omega)]; exact h.sim.none_of_ge (by omega))
  have l1 : upd (upd L W.heap.size (.box 23 (evP fb))) (W.heap.size + 1) (.box 3 (.int .i64 i)) W.heap.size = some (.box 23 (evP fb)) := by rw [upd_other _ _ (by omega), upd_same]
  have l2 : upd (upd L W.heap.size (.box 23 (evP fb))) (W.heap.size + 1) (.box 3 (.int .i64 i)) (W.heap.size + 1) = some (.box 3 (.int .i64 i)) := upd_same _ _ _
  generalize upd (upd L W.heap.size (.box 23 (evP fb))) (W.heap.size + 1) (.box 3 (.int .i64 i)) = L2 at *
  obtain ⟨k1, k2, k3⟩ := hL2.wf h.wf
  have s2' := (s2.alloc (.cells #[.pointer none] 61)).drew
  have hrun := (s2'.nodesAt k1).look kI Tryz.underlying57 (zP _) (keyI (i := i) (wfI (by omega) (by omega)))
  have hrun2 := (s2.drew.nodesAt k1).look kI Tryz.underlying57 (zP _) (keyI (i := i) (wfI (by omega) (by omega)))
  rw [show get (nodesOf L2 nb) i = some b from by rw [k3]; exact ha] at hrun hrun2
  simp only [Option.map_some, Option.getD_some, evP] at hrun hrun2
  obtain ⟨_, _, _, c3, _⟩ := fs_cells h.sim.blk
  obtain ⟨_, _, _, c4, _⟩ := fs_cells s2.blk
  obtain ⟨_, _, _, c5, _⟩ := fs_cells (s2.alloc (.cells #[.pointer none] 61)).blk
  have hfl := h.sim.blk.lt
  obtain ⟨s3, t3⟩ := s2.newBox 61 (evP b) (cs := #[.pointer (some ⟨b, 0, none⟩)]) rfl
  rw [World.size_alloc, World.size_alloc] at s3 t3
  have hx3 : L2 (W.heap.size + 1 + 1) = none := s2.none_of_ge (by simp)
  have hL3 := hL2.box _ _ (W.heap.size + 1 + 1) 61 (evP b) hx3
  have m1 : upd L2 (W.heap.size + 1 + 1) (.box 61 (evP b)) W.heap.size = some (.box 23 (evP fb)) := by rw [upd_other _ _ (by omega)]; exact l1
  have m2 : upd L2 (W.heap.size + 1 + 1) (.box 61 (evP b)) (W.heap.size + 1) = some (.box 3 (.int .i64 i)) := by rw [upd_other _ _ (by omega)]; exact l2
  have m3 : upd L2 (W.heap.size + 1 + 1) (.box 61 (evP b)) (W.heap.size + 1 + 1) = some (.box 61 (evP b)) := upd_same _ _ _
  generalize upd L2 (W.heap.size + 1 + 1) (.box 61 (evP b)) = L3 at *
  obtain ⟨q1, q2, q3⟩ := hL3.wf h.wf
  obtain ⟨w2, hdel, hi2, hg2⟩ := (s3.drew.drew.nodesAt q1).drop kI Tryz.underlying57 (keyI (i := i) (wfI (by omega) (by omega))) 0
  have hnf : nb ≠ fb := by rintro e; have := h.sim.fs; obtain ⟨m, hm⟩ := h.sim.nodes; rw [e, this] at hm; cases hm
  obtain ⟨s4, t4⟩ := s3.drew.drew.wrote q1.nodesOf_eq hg2 (r' := .nodes (del (nodesOf L3 nb) i)) hi2 (.inl ⟨_, rfl, rfl⟩) hnf
  obtain ⟨_, _, _, c6, _⟩ := fs_cells s3.blk
  have hne : ∀ x, L3 x ≠ some (.nodes (nodesOf L3 nb)) → x ≠ nb := fun x hx e => hx (by rw [e]; exact q1.nodesOf_eq)
  have e1 := s4.box (x := W.heap.size) (by rw [upd_other _ _ (hne _ (by rw [m1]; simp))]; exact m1) rfl
  unfold evP at e1
  go_enter Tryz.func54, Tryz.ntmps54
  go_wp2_with fail
  go_region
  all_goals
    go_wp2_with fail
    go_region
    go_wp2_with (go_at_call 79; refine (back_any s4 hlen _ _).mono ?_; rintro e w' ⟨rfl, uv', s5, t5⟩)
    go_end0
    obtain ⟨j1, j2, j3⟩ := q1.table (del (nodesOf L3 nb) i) (q1.rising.del i) (fun p hp => q1.node p (mem_del.1 hp).1) (fun p hp q hq e => q1.inj p (mem_del.1 hp).1 q (mem_del.1 hq).1 e)
    refine ⟨rfl, _, uv', _, h.note hL3 q1.nodesOf_eq s5 (.drop _ _ i b (W.heap.size + 1 + 1) W.heap.size (W.heap.size + 1) (by rw [upd_other _ _ (hne _ (by rw [m3]; simp))]; exact m3) (by rw [upd_other _ _ (hne _ (by rw [m1]; simp))]; exact m1) (by rw [upd_other _ _ (hne _ (by rw [m2]; simp))]; exact m2) h1 h2 ?_ ?_) j1 ?_, ((t1.trans t2).trans t3).trans ((t4.drew0.drew0).trans t5), by simp, by simp, ?_, boxes_kept hL3 q1.nodesOf_eq (fun _ _ c => by cases c)⟩
    · have := List.length_filter_le (fun p => !decide (p.1 = i)) (nodesOf L3 nb)
      rw [q3] at this
      unfold maxLen del; rw [q3]; omega
    · exact put_del q1.rising (by rw [q3]; exact ha)
    · rw [st_table j2 j3, ← h.st, ← q2]
      unfold stOf
      rw [del_map]
    · rintro j c ⟨hj, hc⟩
      unfold Adr; rw [j2, get_del _ q1.rising, if_neg hj, q3]; exact hc
end
end Fs
end Go.Proofs.YtlnnbjgfpiefdaaGreat
/- A name is taken out of a directory, or replaced: noted. -/
namespace Go.Proofs.YtlnnbjgfpiefdaaGreat
open Go.RowKit Go.Maps Go.Shelf

namespace Fs
section
variable {W : World} {L : Lay} {fb : Nat} {n : Int} {nb : Nat} {uv : Value} {vals : List Value} {L0 : Lay} {s : Tree}
/-- A directory: its names' block. -/
theorem WF.dirAt (h : WF L nb) {i : Int} {d : Nat} (ha : Adr L nb i d) (hk : kindOf (stOf L nb) i = 2) : ∃ hd q m, L d = some (.node hd) ∧ hd.nm = some q ∧ L q = some (.names m) ∧ m = namesOf (stOf L nb) i ∧ ndAtB L d = ndOf L hd ∧ hd.kind = 2 := by
  obtain ⟨hd, hb⟩ := h.at ha
  have e := ndAtB_of hb
  have hk2 : hd.kind = 2 := by unfold kindOf at hk; rw [ha.st, e] at hk; exact hk
  obtain ⟨q, hq⟩ := h.dir d hd hb hk2
  obtain ⟨m, hm⟩ := h.nm d hd q hb hq
  refine ⟨hd, q, m, hb, hq, hm, ?_, e, hk2⟩
  unfold namesOf
  rw [ha.st, e]
  show m = namesAt L hd.nm
  unfold namesAt
  rw [hq]
  dsimp only
  rw [hm]
theorem Boxed.keep {L' : Lay} (h : Boxed L L') {b : Nat} {r : Ro} (hb : L b = some r) : L' b = some r := h.ex b r hb
set_option maxRecDepth 100000 in
set_option maxHeartbeats 2000000 in
theorem take_st (h : St W L fb n nb uv vals L0 s) (hlen : vals.length ≤ 1000000000000) {i : Int} {d : Nat} (ha : Adr L nb i d) (h1 : 0 ≤ i) (h2 : i ≤ 1000000) (hk : kindOf s i = 2) (nm : Tx) (hnm : nm.length ≤ 1000000) {j : Int} (hj : get (namesOf s i) nm = some j) (hml : (namesOf s i).length ≤ 1000000) :
    Calls Tryz.prog 49 #[.pointer (some ⟨fb, 0, none⟩), .int .i64 i, .string (mk nm)] W fun e W' => e = .returned (.tuple #[]) ∧ After W L uv fb n nb L0 (vals.length + 1) (Adr L nb) (takeN s i nm) W' := by
  obtain ⟨hd, q, m, hb, hq, hm, hme, hnd, hkd⟩ := h.wf.dirAt ha (by rw [h.st]; exact hk)
  rw [h.st] at hme
  have hdl := (h.sim.is d _ hb).1
  have hql := (h.sim.is q _ hm).1
  have hnml : nm.length ≤ maxLen := by unfold maxLen; omega
  have hmr : Rising m := (show MapAt _ _ _ _ _ _ from (h.sim.is q _ hm).2).2
  have hdnb := h.wf.node_ne hb
  obtain ⟨s1, t1⟩ := h.sim.newBox 9 (.string (mk nm)) (cs := #[.string (mk nm)]) rfl
  obtain ⟨s2, t2⟩ := s1.newBox 61 (evP d) (cs := #[.pointer (some ⟨d, 0, none⟩)]) rfl
  obtain ⟨s3, t3⟩ := s2.newBox 3 (.int .i64 j) (cs := #[.int .i64 j]) rfl
  simp only [World.size_alloc] at s2 t2 s3 t3
  have x1 : L W.heap.size = none := h.sim.none_of_ge (Nat.le_refl _)
  have x2 : L (W.heap.size + 1) = none := h.sim.none_of_ge (by omega)
  have x3 : L (W.heap.size + 1 + 1) = none := h.sim.none_of_ge (by omega)
  have hL1 := (Boxed.refl L).box _ _ W.heap.size 9 (.string (mk nm)) x1
  have hL2 := hL1.box _ _ (W.heap.size + 1) 61 (evP d) (by rw [upd_other _ _ (by omega)]; exact x2)
  have hL3 := hL2.box _ _ (W.heap.size + 1 + 1) 3 (.int .i64 j) (by rw [upd_other _ _ (by omega), upd_other _ _ (by omega)]; exact x3)
  have m1 : upd (upd (upd L W.heap.size (.box 9 (.string (mk nm)))) (W.heap.size + 1) (.box 61 (evP d))) (W.heap.size + 1 + 1) (.box 3 (.int .i64 j)) W.heap.size = some (.box 9 (.string (mk nm))) := by rw [upd_other _ _ (by omega), upd_other _ _ (by omega), upd_same]
  have m2 : upd (upd (upd L W.heap.size (.box 9 (.string (mk nm)))) (W.heap.size + 1) (.box 61 (evP d))) (W.heap.size + 1 + 1) (.box 3 (.int .i64 j)) (W.heap.size + 1) = some (.box 61 (evP d)) := by rw [upd_other _ _ (by omega), upd_same]
  have m3 : upd (upd (upd L W.heap.size (.box 9 (.string (mk nm)))) (W.heap.size + 1) (.box 61 (evP d))) (W.heap.size + 1 + 1) (.box 3 (.int .i64 j)) (W.heap.size + 1 + 1) = some (.box 3 (.int .i64 j)) := upd_same _ _ _
  generalize upd (upd (upd L W.heap.size (.box 9 (.string (mk nm)))) (W.heap.size + 1) (.box 61 (evP d))) (W.heap.size + 1 + 1) (.box 3 (.int .i64 j)) = L3 at *
  generalize upd (upd L W.heap.size (.box 9 (.string (mk nm)))) (W.heap.size + 1) (.box 61 (evP d)) = L2 at *
  generalize upd L W.heap.size (.box 9 (.string (mk nm))) = L1 at *
  obtain ⟨k1, k2, k3⟩ := hL1.wf h.wf
  obtain ⟨q1, q2, q3⟩ := hL3.wf h.wf
  have ha1 : Adr L1 nb i d := by unfold Adr; rw [k3]; exact ha
  have ha3 : Adr L3 nb i d := by unfold Adr; rw [q3]; exact ha
  have s2' := (s2.alloc (.cells #[.int .i64 0] 3)).drew
  have hgm : get m nm = some j := by rw [hme]; exact hj
  have hrun := (show MapAt Tryz.prog 9 evI _ q m from (s2'.is q _ (hL2.keep hm)).2).look kT Tryz.underlying63 (zI _) (keyT hnml)
  have hrun2 := (show MapAt Tryz.prog 9 evI _ q m from (s2.drew.is q _ (hL2.keep hm)).2).look kT Tryz.underlying63 (zI _) (keyT hnml)
  rw [hgm] at hrun hrun2
  simp only [Option.map_some, Option.getD_some, evI] at hrun hrun2
  obtain ⟨_, _, _, _, c3, _⟩ := node_cells (h.sim.is d _ hb).2
  obtain ⟨_, _, _, _, c4, _⟩ := node_cells (s2.is d _ (hL2.keep hb)).2
  obtain ⟨_, _, _, _, c5, _⟩ := node_cells ((s2.alloc (.cells #[.int .i64 0] 3)).is d _ (hL2.keep hb)).2
  obtain ⟨_, _, _, _, c6, _⟩ := node_cells (s3.is d _ (hL3.keep hb)).2
  rw [hq] at c3 c4 c5 c6
  have hqnb : q ≠ nb := by rintro rfl; obtain ⟨y, e, _⟩ := h.wf.nodes; rw [e] at hm; cases hm
  have hqf : q ≠ fb := by rintro rfl; rw [h.sim.fs] at hm; cases hm
  obtain ⟨w2, hdel, hi2, hg2⟩ := (show MapAt Tryz.prog 9 evI _ q m from (s3.drew.drew.is q _ (hL3.keep hm)).2).drop kT Tryz.underlying63 (keyT hnml) 0
  obtain ⟨s4, t4⟩ := s3.drew.drew.wrote (hL3.keep hm) hg2 (r' := .names (del m nm)) hi2 (.inr (.inl ⟨_, rfl, hqnb⟩)) hqf
  have hne : ∀ x t u, L3 x = some (.box t u) → upd L3 q (.names (del m nm)) x = some (.box t u) := fun x t u hx => by
    rw [upd_other _ _ (fun e => by rw [e, hL3.keep hm] at hx; cases hx)]; exact hx
  go_enter Tryz.func49, Tryz.ntmps49
  go_wp2_with (go_at_call 40; refine (at_st s1 k1 ha1 h1 h2).mono ?_; rintro e w' ⟨rfl, rfl⟩)
  go_region
  all_goals
    go_wp2_with fail
    go_region
    go_wp2_with (go_at_call 79; refine (back_any s4 hlen _ _).mono ?_; rintro e w' ⟨rfl, uv', s5, t5⟩)
    go_end0
    obtain ⟨j1, j2, j3⟩ := q1.names (hL3.keep hb) hq (hL3.keep hm) (del m nm)
    have hu : upd L3 q (.names (del m nm)) d = some (.node hd) := by rw [upd_other _ _ (fun e => by rw [e] at hb; rw [hb] at hm; cases hm)]; exact hL3.keep hb
    refine ⟨rfl, _, uv', _, h.note hL3 (hL3.keep hm) s5 (.take q d hd m _ nm j (W.heap.size + 1 + 1) (W.heap.size + 1) W.heap.size (hne _ _ _ m3) (hne _ _ _ m2) (hne _ _ _ m1) hu hq hnml ?_ ?_) j1 ?_, ((t1.trans t2).trans t3).trans ((t4.drew0.drew0).trans t5), by simp, by simp, ?_, boxes_kept hL3 (hL3.keep hm) (fun _ _ c => by cases c)⟩
    · have := List.length_filter_le (fun p => !decide (p.1 = nm)) m
      rw [hme] at this
      unfold maxLen del; rw [hme]; omega
    · exact put_del hmr hgm
    · unfold takeN
      rw [← h.st, ← q2]
      refine st_of_at q1 ha3 _ j2 fun x _ => ?_
      rw [j3]
      have e3 : (ndAtB L3 d).names = m := by
        rw [ndAtB_of (hL3.keep hb)]
        show namesAt L3 hd.nm = m
        unfold namesAt; rw [hq]; dsimp only; rw [hL3.keep hm]
      split
      · rw [e3]
      · rfl
    · intro j c hc
      unfold Adr; rw [j2, q3]; exact hc
set_option maxRecDepth 100000 in
set_option maxHeartbeats 2000000 in
theorem replace_st (h : St W L fb n nb uv vals L0 s) (hlen : vals.length ≤ 1000000000000) {i : Int} {d : Nat} (ha : Adr L nb i d) (h1 : 0 ≤ i) (h2 : i ≤ 1000000) (hk : kindOf s i = 2) (nm : Tx) (hnm : nm.length ≤ 1000000) {j : Int} (hj : get (namesOf s i) nm = some j) (hml : (namesOf s i).length ≤ 1000000) (v : Int) :
    Calls Tryz.prog 87 #[.pointer (some ⟨fb, 0, none⟩), .int .i64 i, .string (mk nm), .int .i64 v] W fun e W' => e = .returned (.tuple #[]) ∧ After W L uv fb n nb L0 (vals.length + 1) (Adr L nb) (replN s i nm v) W' := by
  obtain ⟨hd, q, m, hb, hq, hm, hme, hnd, hkd⟩ := h.wf.dirAt ha (by rw [h.st]; exact hk)
  rw [h.st] at hme
  have hdl := (h.sim.is d _ hb).1
  have hql := (h.sim.is q _ hm).1
  have hnml : nm.length ≤ maxLen := by unfold maxLen; omega
  have hmr : Rising m := (show MapAt _ _ _ _ _ _ from (h.sim.is q _ hm).2).2
  have hdnb := h.wf.node_ne hb
  obtain ⟨s1, t1⟩ := h.sim.newBox 9 (.string (mk nm)) (cs := #[.string (mk nm)]) rfl
  obtain ⟨s2, t2⟩ := s1.newBox 61 (evP d) (cs := #[.pointer (some ⟨d, 0, none⟩)]) rfl
  obtain ⟨s3, t3⟩ := s2.newBox 3 (.int .i64 j) (cs := #[.int .i64 j]) rfl
  simp only [World.size_alloc] at s2 t2 s3 t3
  have x1 : L W.heap.size = none := h.sim.none_of_ge (Nat.le_refl _)
  have x2 : L (W.heap.size + 1) = none := h.sim.none_of_ge (by omega)
  have x3 : L (W.heap.size + 1 + 1) = none := h.sim.none_of_ge (by omega)
  have hL1 := (Boxed.refl L).box _ _ W.heap.size 9 (.string (mk nm)) x1
  have hL2 := hL1.box _ _ (W.heap.size + 1) 61 (evP d) (by rw [upd_other _ _ (by omega)]; exact x2)
  have hL3 := hL2.box _ _ (W.heap.size + 1 + 1) 3 (.int .i64 j) (by rw [upd_other _ _ (by omega), upd_other _ _ (by omega)]; exact x3)
  have m1 : upd (upd (upd L W.heap.size (.box 9 (.string (mk nm)))) (W.heap.size + 1) (.box 61 (evP d))) (W.heap.size + 1 + 1) (.box 3 (.int .i64 j)) W.heap.size = some (.box 9 (.string (mk nm))) := by rw [upd_other _ _ (by omega), upd_other _ _ (by omega), upd_same]
  have m2 : upd (upd (upd L W.heap.size (.box 9 (.string (mk nm)))) (W.heap.size + 1) (.box 61 (evP d))) (W.heap.size + 1 + 1) (.box 3 (.int .i64 j)) (W.heap.size + 1) = some (.box 61 (evP d)) := by rw [upd_other _ _ (by omega), upd_same]
  have m3 : upd (upd (upd L W.heap.size (.box 9 (.string (mk nm)))) (W.heap.size + 1) (.box 61 (evP d))) (W.heap.size + 1 + 1) (.box 3 (.int .i64 j)) (W.heap.size + 1 + 1) = some (.box 3 (.int .i64 j)) := upd_same _ _ _
  generalize upd (upd (upd L W.heap.size (.box 9 (.string (mk nm)))) (W.heap.size + 1) (.box 61 (evP d))) (W.heap.size + 1 + 1) (.box 3 (.int .i64 j)) = L3 at *
  generalize upd (upd L W.heap.size (.box 9 (.string (mk nm)))) (W.heap.size + 1) (.box 61 (evP d)) = L2 at *
  generalize upd L W.heap.size (.box 9 (.string (mk nm))) = L1 at *
  obtain ⟨k1, k2, k3⟩ := hL1.wf h.wf
  obtain ⟨q1, q2, q3⟩ := hL3.wf h.wf
  have ha1 : Adr L1 nb i d := by unfold Adr; rw [k3]; exact ha
  have ha3 : Adr L3 nb i d := by unfold Adr; rw [q3]; exact ha
  have s2' := (s2.alloc (.cells #[.int .i64 0] 3)).drew
  have hgm : get m nm = some j := by rw [hme]; exact hj
  have hrun := (show MapAt Tryz.prog 9 evI _ q m from (s2'.is q _ (hL2.keep hm)).2).look kT Tryz.underlying63 (zI _) (keyT hnml)
  have hrun2 := (show MapAt Tryz.prog 9 evI _ q m from (s2.drew.is q _ (hL2.keep hm)).2).look kT Tryz.underlying63 (zI _) (keyT hnml)
  rw [hgm] at hrun hrun2
  simp only [Option.map_some, Option.getD_some, evI] at hrun hrun2
  obtain ⟨_, _, _, _, c3, _⟩ := node_cells (h.sim.is d _ hb).2
  obtain ⟨_, _, _, _, c4, _⟩ := node_cells (s2.is d _ (hL2.keep hb)).2
  obtain ⟨_, _, _, _, c5, _⟩ := node_cells ((s2.alloc (.cells #[.int .i64 0] 3)).is d _ (hL2.keep hb)).2
  obtain ⟨_, _, _, _, c6, _⟩ := node_cells (s3.is d _ (hL3.keep hb)).2
  rw [hq] at c3 c4 c5 c6
  have hqnb : q ≠ nb := by rintro rfl; obtain ⟨y, e, _⟩ := h.wf.nodes; rw [e] at hm; cases hm
  have hqf : q ≠ fb := by rintro rfl; rw [h.sim.fs] at hm; cases hm
  obtain ⟨w2, hdel, hi2, hg2⟩ := (show MapAt Tryz.prog 9 evI _ q m from (s3.drew.drew.is q _ (hL3.keep hm)).2).update kT Tryz.underlying63 (by rw [hme]; unfold maxLen; omega) (keyT hnml) (val := .int .i64 v) (v := v) rfl
  obtain ⟨s4, t4⟩ := s3.drew.drew.wrote (hL3.keep hm) hg2 (r' := .names (put m nm v)) hi2 (.inr (.inl ⟨_, rfl, hqnb⟩)) hqf
  have hne : ∀ x t u, L3 x = some (.box t u) → upd L3 q (.names (put m nm v)) x = some (.box t u) := fun x t u hx => by
    rw [upd_other _ _ (fun e => by rw [e, hL3.keep hm] at hx; cases hx)]; exact hx
  go_enter Tryz.func87, Tryz.ntmps87
  go_wp2_with (go_at_call 40; refine (at_st s1 k1 ha1 h1 h2).mono ?_; rintro e w' ⟨rfl, rfl⟩)
  go_region
  all_goals
    go_wp2_with fail
    go_region
    go_wp2_with (go_at_call 79; refine (back_any s4 hlen _ _).mono ?_; rintro e w' ⟨rfl, uv', s5, t5⟩)
    go_end0
    obtain ⟨j1, j2, j3⟩ := q1.names (hL3.keep hb) hq (hL3.keep hm) (put m nm v)
    have hu : upd L3 q (.names (put m nm v)) d = some (.node hd) := by rw [upd_other _ _ (fun e => by rw [e] at hb; rw [hb] at hm; cases hm)]; exact hL3.keep hb
    refine ⟨rfl, _, uv', _, h.note hL3 (hL3.keep hm) s5 (.replace q d hd m _ nm j (W.heap.size + 1 + 1) (W.heap.size + 1) W.heap.size (hne _ _ _ m3) (hne _ _ _ m2) (hne _ _ _ m1) hu hq hnml ?_ ?_) j1 ?_, ((t1.trans t2).trans t3).trans ((t4.drew0.drew0).trans t5), by simp, by simp, ?_, boxes_kept hL3 (hL3.keep hm) (fun _ _ c => by cases c)⟩
    · have := length_put m hmr nm v
      rw [if_neg (by rw [hgm]; simp), hme] at this
      rw [hme]; unfold maxLen; omega
    · exact put_put hmr hgm
    · unfold replN
      rw [← h.st, ← q2]
      refine st_of_at q1 ha3 _ j2 fun x _ => ?_
      rw [j3]
      have e3 : (ndAtB L3 d).names = m := by
        rw [ndAtB_of (hL3.keep hb)]
        show namesAt L3 hd.nm = m
        unfold namesAt; rw [hq]; dsimp only; rw [hL3.keep hm]
      split
      · rw [e3]
      · rfl
    · intro j c hc
      unfold Adr; rw [j2, q3]; exact hc
end
end Fs
end Go.Proofs.YtlnnbjgfpiefdaaGreat
