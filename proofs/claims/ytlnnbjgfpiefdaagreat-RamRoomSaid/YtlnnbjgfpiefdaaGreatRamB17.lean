/- Files, directories and links are made. -/
import Derived.Test.YtlnnbjgfpiefdaaGreatRamB14
namespace Go.Proofs.YtlnnbjgfpiefdaaGreat
open Go.RowKit Go.Maps Go.Shelf

namespace Fs
section
variable {W : World} {L : Lay} {fb : Nat} {n : Int} {nb : Nat} {uv : Value} {vals : List Value}
theorem Sim.newBlk (h : Sim W L fb n nb uv vals) (o : Obj) (r : Ro) (hr : Is (W.alloc o) W.heap.size r) : Sim (W.alloc o) (upd L W.heap.size r) fb n nb uv vals ∧ Step W (Mine L uv) (W.alloc o) (Mine (upd L W.heap.size r) uv) := by
  have hx : L W.heap.size = none := h.none_of_ge (Nat.le_refl _)
  have hk : ∀ x, x < W.heap.size → (W.alloc o).heap[x]? = W.heap[x]? := ((Below.refl W.heap.size W).alloc (Nat.le_refl _) _).block
  refine ⟨h.turn (by simp) (fun x hne hm => hk x (h.mine_lt hm)) (by simp) hr ?_ ?_ ?_, rfl, rfl, rfl, by simp, fun x hx' hn => ⟨hk x hx', ?_⟩⟩
  · intro e; have := h.fs; rw [← e, hx] at this; cases this
  · intro e; obtain ⟨m, hm⟩ := h.nodes; rw [← e, hx] at hm; cases hm
  · intro e; have := h.own_lt e; omega
  · rintro (e | e)
    · unfold upd at e; rw [if_neg (by omega)] at e; exact hn (.inl e)
    · exact hn (.inr e)
theorem Made.of {W2 W' : World} {L2 : Lay} {uv2 : Value} {r : Tree × Except Int Int} {e : Ending} (hs : Step W (Mine L uv) W2 (Mine L2 uv2)) (h : Made fb n nb W2 L2 uv2 r e W') : Made fb n nb W L uv r e W' := by
  obtain ⟨L', h1, h2, h3, h4, h5⟩ := h
  exact ⟨L', h1, h2, h3, hs.trans h4, h5⟩
/-- A node stands ready, that is in no table. -/
def Ready (W : World) (L : Lay) (fb : Nat) (n : Int) (nb : Nat) (uv : Value) (vals : List Value) (W2 : World) (b : Nat) (x : Nd) : Prop :=
  ∃ L2 hd, Sim W2 L2 fb n nb uv vals ∧ WF L2 nb ∧ stOf L2 nb = stOf L nb ∧ L2 b = some (.node hd) ∧ (∀ i, ¬ Adr L2 nb i b) ∧ ndOf L2 hd = x ∧ Step W (Mine L uv) W2 (Mine L2 uv)
theorem adr_lt (h : Sim W L fb n nb uv vals) (hw : WF L nb) {i : Int} {b : Nat} (ha : Adr L nb i b) : b < W.heap.size := by
  obtain ⟨hd, e⟩ := hw.at ha
  exact (h.is b _ e).1
theorem file_ready (h : Sim W L fb n nb uv vals) (hw : WF L nb) : Ready W L fb n nb uv vals ((W.alloc (.map #[] 0)).alloc (.cells #[.int .i64 1, .int .i64 1, .int .i64 0, .map (some W.heap.size), .map none, .int .i64 0, .string { data := #[] }] 65 (0, 0))) (W.heap.size + 1) newFile := by
  obtain ⟨s1, t1⟩ := h.newBlk (.map #[] 0) (.pieces []) ⟨World.ownsMap_made _ _ _ _, Rising.nil⟩
  obtain ⟨w1, e1, n1⟩ := hw.more (r := .pieces []) (fun _ c => by cases c) (h.none_of_ge (Nat.le_refl W.heap.size))
  obtain ⟨s2, t2⟩ := s1.newBlk (.cells #[.int .i64 1, .int .i64 1, .int .i64 0, .map (some W.heap.size), .map none, .int .i64 0, .string { data := #[] }] 65 (0, 0)) (.node ⟨1, 1, 0, some W.heap.size, none, 0, []⟩) (Blk.new _ _ _)
  rw [World.size_alloc] at s2 t2
  have hx2 : upd L W.heap.size (.pieces []) (W.heap.size + 1) = none := by rw [upd_other _ _ (by omega)]; exact h.none_of_ge (by omega)
  obtain ⟨w2, e2, n2⟩ := w1.node_more (hd := ⟨1, 1, 0, some W.heap.size, none, 0, []⟩) hx2 (fun p hp => by
    cases hp
    refine ⟨⟨[], upd_same _ _ _⟩, fun b y hy hp => ?_⟩
    by_cases c : b = W.heap.size
    · rw [c, upd_same] at hy; cases hy
    · rw [upd_other _ _ c] at hy
      obtain ⟨m, hm⟩ := hw.pm b y _ hy hp
      rw [h.none_of_ge (Nat.le_refl W.heap.size)] at hm; cases hm) (fun p hp => by cases hp) (fun c => by cases c) (fun _ => ⟨_, rfl⟩)
  refine ⟨_, _, s2, w2, e2.trans e1, upd_same _ _ _, fun i ha => ?_, ?_, t1.trans t2⟩
  · have ha' : Adr L nb i (W.heap.size + 1) := by unfold Adr at ha ⊢; rw [n2, n1] at ha; exact ha
    have := adr_lt h hw ha'; omega
  · unfold ndOf newFile
    dsimp only
    have : piecesAt (upd (upd L W.heap.size (.pieces [])) (W.heap.size + 1) (.node ⟨1, 1, 0, some W.heap.size, none, 0, []⟩)) (some W.heap.size) = [] := by
      unfold piecesAt; dsimp only; rw [upd_other _ _ (by omega), upd_same]
    rw [this]; rfl
theorem dir_ready (h : Sim W L fb n nb uv vals) (hw : WF L nb) : Ready W L fb n nb uv vals ((W.alloc (.map #[] 0)).alloc (.cells #[.int .i64 2, .int .i64 2, .int .i64 0, .map none, .map (some W.heap.size), .int .i64 0, .string { data := #[] }] 65 (0, 0))) (W.heap.size + 1) newDir := by
  obtain ⟨s1, t1⟩ := h.newBlk (.map #[] 0) (.names []) ⟨World.ownsMap_made _ _ _ _, Rising.nil⟩
  obtain ⟨w1, e1, n1⟩ := hw.more (r := .names []) (fun _ c => by cases c) (h.none_of_ge (Nat.le_refl W.heap.size))
  obtain ⟨s2, t2⟩ := s1.newBlk (.cells #[.int .i64 2, .int .i64 2, .int .i64 0, .map none, .map (some W.heap.size), .int .i64 0, .string { data := #[] }] 65 (0, 0)) (.node ⟨2, 2, 0, none, some W.heap.size, 0, []⟩) (Blk.new _ _ _)
  rw [World.size_alloc] at s2 t2
  have hx2 : upd L W.heap.size (.names []) (W.heap.size + 1) = none := by rw [upd_other _ _ (by omega)]; exact h.none_of_ge (by omega)
  obtain ⟨w2, e2, n2⟩ := w1.node_more (hd := ⟨2, 2, 0, none, some W.heap.size, 0, []⟩) hx2 (fun p hp => by cases hp) (fun p hp => by
    cases hp
    refine ⟨⟨[], upd_same _ _ _⟩, fun b y hy hp => ?_⟩
    by_cases c : b = W.heap.size
    · rw [c, upd_same] at hy; cases hy
    · rw [upd_other _ _ c] at hy
      obtain ⟨m, hm⟩ := hw.nm b y _ hy hp
      rw [h.none_of_ge (Nat.le_refl W.heap.size)] at hm; cases hm) (fun _ => ⟨_, rfl⟩) (fun c => by cases c)
  refine ⟨_, _, s2, w2, e2.trans e1, upd_same _ _ _, fun i ha => ?_, ?_, t1.trans t2⟩
  · have ha' : Adr L nb i (W.heap.size + 1) := by unfold Adr at ha ⊢; rw [n2, n1] at ha; exact ha
    have := adr_lt h hw ha'; omega
  · unfold ndOf newDir
    dsimp only
    have : namesAt (upd (upd L W.heap.size (.names [])) (W.heap.size + 1) (.node ⟨2, 2, 0, none, some W.heap.size, 0, []⟩)) (some W.heap.size) = [] := by
      unfold namesAt; dsimp only; rw [upd_other _ _ (by omega), upd_same]
    rw [this]; rfl
theorem link_ready (h : Sim W L fb n nb uv vals) (hw : WF L nb) (t : Tx) : Ready W L fb n nb uv vals (W.alloc (.cells #[.int .i64 3, .int .i64 1, .int .i64 t.length, .map none, .map none, .int .i64 0, .string (mk t)] 65 (0, 0))) W.heap.size (newLink t) := by
  obtain ⟨s2, t2⟩ := h.newBlk (.cells #[.int .i64 3, .int .i64 1, .int .i64 t.length, .map none, .map none, .int .i64 0, .string (mk t)] 65 (0, 0)) (.node ⟨3, 1, t.length, none, none, 0, t⟩) (Blk.new _ _ _)
  obtain ⟨w2, e2, n2⟩ := hw.node_more (hd := ⟨3, 1, t.length, none, none, 0, t⟩) (h.none_of_ge (Nat.le_refl W.heap.size)) (fun p hp => by cases hp) (fun p hp => by cases hp) (fun c => by cases c) (fun c => by cases c)
  refine ⟨_, _, s2, w2, e2, upd_same _ _ _, fun i ha => ?_, rfl, t2⟩
  have ha' : Adr L nb i W.heap.size := by unfold Adr at ha ⊢; rw [n2] at ha; exact ha
  have := adr_lt h hw ha'; omega
/-- With a node that stands ready. -/
theorem fresh_ready (hF : Fit (stOf L nb)) (hn1 : 128 ≤ n) (hn2 : n ≤ 16384) (p : Tx) (hp : p.length ≤ 140737488355328) {W2 : World} {b : Nat} {x : Nd} (hr : Ready W L fb n nb uv vals W2 b x)
    (hto : ∀ s' t v, fresh n (stOf L nb) p x = .ok (s', t, v) → TOk s') :
    Calls Tryz.prog 37 #[.pointer (some ⟨fb, 0, none⟩), .string (mk p), .pointer (some ⟨b, 0, none⟩)] W2 fun e W' => Made fb n nb W L uv (fin n (stOf L nb) (fresh n (stOf L nb) p x)) e W' := by
  obtain ⟨L2, hd, h1, h2, h3, h4, h5, h6, h7⟩ := hr
  have := fresh_st h1 h2 (by rw [h3]; exact hF) hn1 hn2 p hp h4 h5 (by rw [h3, h6]; exact hto)
  rw [h3, h6] at this
  exact this.mono fun e W' hm => hm.of h7
set_option maxRecDepth 100000 in
set_option maxHeartbeats 4000000 in
theorem create_st (h : Sim W L fb n nb uv vals) (hw : WF L nb) (hF : Fit (stOf L nb)) (hn1 : 128 ≤ n) (hn2 : n ≤ 16384) (p : Tx) (hp : p.length ≤ 140737488355328)
    (hto : ∀ s' t v, fresh n (stOf L nb) p newFile = .ok (s', t, v) → TOk s') :
    Calls Tryz.prog 23 #[.pointer (some ⟨fb, 0, none⟩), .string (mk p)] W fun e W' => Made fb n nb W L uv (fin n (stOf L nb) (fresh n (stOf L nb) p newFile)) e W' := by
  have HC := fresh_ready hF hn1 hn2 p hp (file_ready h hw) hto
  have hmm := @run_makeMap Tryz.prog
  generalize fin n (stOf L nb) (fresh n (stOf L nb) p newFile) = r at *
  obtain ⟨s', r⟩ := r
  unfold Made at HC ⊢
  dsimp only at HC ⊢
  cases r with
  | error z =>
    go_enter Tryz.func23, Tryz.ntmps23
    go_wp2_with (go_at_call 37; refine HC.mono ?_; rintro e w3 ⟨L3, S3, F3, st3, T3, rfl, hzn⟩)
    go_ret2
    exact ⟨L3, S3, F3, st3, T3, rfl, hzn⟩
  | ok v =>
    go_enter Tryz.func23, Tryz.ntmps23
    go_wp2_with (go_at_call 37; refine HC.mono ?_; rintro e w3 ⟨L3, S3, F3, st3, T3, rfl⟩)
    go_ret2
    exact ⟨L3, S3, F3, st3, T3, rfl⟩
set_option maxRecDepth 100000 in
set_option maxHeartbeats 4000000 in
theorem mkdir_st (h : Sim W L fb n nb uv vals) (hw : WF L nb) (hF : Fit (stOf L nb)) (hn1 : 128 ≤ n) (hn2 : n ≤ 16384) (p : Tx) (hp : p.length ≤ 140737488355328)
    (hto : ∀ s' t v, fresh n (stOf L nb) p newDir = .ok (s', t, v) → TOk s') :
    Calls Tryz.prog 24 #[.pointer (some ⟨fb, 0, none⟩), .string (mk p)] W fun e W' => Made fb n nb W L uv (fin n (stOf L nb) (fresh n (stOf L nb) p newDir)) e W' := by
  have HC := fresh_ready hF hn1 hn2 p hp (dir_ready h hw) hto
  have hmm := @run_makeMap Tryz.prog
  generalize fin n (stOf L nb) (fresh n (stOf L nb) p newDir) = r at *
  obtain ⟨s', r⟩ := r
  unfold Made at HC ⊢
  dsimp only at HC ⊢
  cases r with
  | error z =>
    go_enter Tryz.func24, Tryz.ntmps24
    go_wp2_with (go_at_call 37; refine HC.mono ?_; rintro e w3 ⟨L3, S3, F3, st3, T3, rfl, hzn⟩)
    go_ret2
    exact ⟨L3, S3, F3, st3, T3, rfl, hzn⟩
  | ok v =>
    go_enter Tryz.func24, Tryz.ntmps24
    go_wp2_with (go_at_call 37; refine HC.mono ?_; rintro e w3 ⟨L3, S3, F3, st3, T3, rfl⟩)
    go_ret2
    exact ⟨L3, S3, F3, st3, T3, rfl⟩
/-- What symlink comes to. -/
def symR (n : Int) (s : Tree) (t p : Tx) : Tree × Except Int Int := match textP t with
  | .error e => (s, .error e)
  | .ok _ => fin n s (fresh n s p (newLink t))
end
section
variable {W : World} {L : Lay} {fb : Nat} {n : Int} {nb : Nat}
set_option maxRecDepth 100000 in
set_option maxHeartbeats 4000000 in
theorem symlink_st (h : Sim W L fb n nb (.slice none 0 0) []) (hw : WF L nb) (hF : Fit (stOf L nb)) (hn1 : 128 ≤ n) (hn2 : n ≤ 16384) (t p : Tx) (ht : t.length ≤ 140737488355328) (hp : p.length ≤ 140737488355328)
    (hto : ∀ l, textP t = .ok l → ∀ s' u v, fresh n (stOf L nb) p (newLink t) = .ok (s', u, v) → TOk s') :
    Calls Tryz.prog 25 #[.pointer (some ⟨fb, 0, none⟩), .string (mk t), .string (mk p)] W fun e W' => Made fb n nb W L (.slice none 0 0) (symR n (stOf L nb) t p) e W' := by
  have HT := textC t W ht
  have hlen : (mk t).size = t.length := mk_size t
  unfold symR
  cases htp : textP t with
  | error z =>
    rw [htp] at HT
    unfold Made
    dsimp only at HT ⊢
    go_enter Tryz.func25, Tryz.ntmps25
    go_wp2_with (go_at_call 38; refine HT.mono ?_; rintro e w3 ⟨hb3, rfl, hzn⟩; have hzb := (bne_iff_ne.2 hzn))
    go_ret2
    exact ⟨L, h.below hb3, hw, rfl, Step.of_below hb3, rfl, hzn⟩
  | ok l =>
    obtain ⟨l, top⟩ := l
    rw [htp] at HT
    dsimp only at HT ⊢
    have HC : ∀ w3, Below W.heap.size W w3 → _ := fun w3 h3 => fresh_ready hF hn1 hn2 p hp (link_ready (h.below h3) hw t) (hto _ htp)
    generalize fin n (stOf L nb) (fresh n (stOf L nb) p (newLink t)) = r at *
    obtain ⟨s', r⟩ := r
    unfold Made at HC ⊢
    dsimp only at HC ⊢
    cases r with
    | error z =>
      go_enter Tryz.func25, Tryz.ntmps25
      go_wp2_with (first | (go_at_call 38; refine HT.mono ?_; rintro e w2 ⟨hb2, v2, rfl, hown2⟩; obtain ⟨ao2, c2, rfl, _⟩ := own_shape2 hown2) | (go_at_call 37; refine (HC _ hb2).mono ?_; rintro e w3 ⟨L3, S3, F3, st3, T3, rfl, hzn⟩))
      go_ret2
      exact ⟨L3, S3, F3, st3, (Step.of_below hb2).trans T3, rfl, hzn⟩
    | ok v =>
      go_enter Tryz.func25, Tryz.ntmps25
      go_wp2_with (first | (go_at_call 38; refine HT.mono ?_; rintro e w2 ⟨hb2, v2, rfl, hown2⟩; obtain ⟨ao2, c2, rfl, _⟩ := own_shape2 hown2) | (go_at_call 37; refine (HC _ hb2).mono ?_; rintro e w3 ⟨L3, S3, F3, st3, T3, rfl⟩))
      go_ret2
      exact ⟨L3, S3, F3, st3, (Step.of_below hb2).trans T3, rfl⟩
end
end Fs
end Go.Proofs.YtlnnbjgfpiefdaaGreat
