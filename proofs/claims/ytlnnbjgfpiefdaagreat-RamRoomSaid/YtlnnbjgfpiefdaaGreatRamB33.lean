/- Paths of what is listed: each leads there. No program in sight. -/
import Derived.Test.YtlnnbjgfpiefdaaGreatRamB32
namespace Go.Proofs.YtlnnbjgfpiefdaaGreat
namespace Fs
/-- A path's text. -/
def pathOf (cs : List Tx) : Tx := if cs = [] then [47] else cs.flatMap fun c => 47 :: c
theorem pathOf_snoc (cs : List Tx) (c : Tx) : pathOf (cs ++ [c]) = (if pathOf cs = [47] then [] else pathOf cs) ++ 47 :: c ∨ ∃ x ∈ cs, x = [] := by
  by_cases h : ∃ x ∈ cs, x = []
  · exact .inr h
  · left
    unfold pathOf
    rw [if_neg (by simp), List.flatMap_append]
    by_cases e : cs = []
    · rw [e]; simp
    · rw [if_neg e]
      have : cs.flatMap (fun c => (47 : UInt8) :: c) ≠ [47] := by
        obtain ⟨x, r, rfl⟩ := List.exists_cons_of_ne_nil e
        intro c
        rw [List.flatMap_cons] at c
        simp only [List.cons_append, List.cons.injEq, true_and, List.append_eq_nil_iff] at c
        exact h ⟨x, by simp, c.1⟩
      rw [if_neg this]
      simp
theorem pcs_other {b : UInt8} (hb : b ≠ 47) (r : Tx) : ∃ x xs, Pk.pcs (b :: r) = x :: xs ∧ (∀ h, Pk.cut r = h → True) := by
  obtain ⟨y, ys, h1, h2⟩ := Pk.cut_other hb r
  unfold Pk.pcs
  rw [h2, List.filter_cons_of_pos (by simp)]
  exact ⟨_, _, rfl, fun _ _ => trivial⟩
theorem cut_names : ∀ (cs : List Tx), cs ≠ [] → (∀ c ∈ cs, (47 : UInt8) ∉ c) → Pk.cut (cs.flatMap fun c => 47 :: c) = [] :: cs
  | [], h, _ => absurd rfl h
  | [c], _, hc => by
    simp only [List.flatMap_cons, List.flatMap_nil, List.append_nil]
    rw [Pk.cut_slash, Pk.cut_none c (fun b hb e => hc c (by simp) (e ▸ hb))]
  | c :: c' :: r, _, hc => by
    rw [List.flatMap_cons, List.cons_append, Pk.cut_slash]
    have ih := cut_names (c' :: r) (by simp) (fun x hx => hc x (List.mem_cons_of_mem _ hx))
    rw [List.flatMap_cons, List.cons_append] at ih ⊢
    rw [Pk.cut_slash] at ih
    rw [Pk.cut_append, Pk.cut_none c (fun b hb e => hc c (by simp) (e ▸ hb)), (List.cons.inj ih).2]
    rfl
theorem pcs_path {cs : List Tx} (h : ∀ c ∈ cs, NameOk c) : Pk.pcs (pathOf cs) = cs := by
  unfold pathOf
  by_cases e : cs = []
  · rw [if_pos e, e]; rfl
  · rw [if_neg e]
    unfold Pk.pcs
    rw [cut_names cs e fun c hc => (h c hc).slash]
    rw [List.filter_cons_of_neg (by simp), List.filter_eq_self]
    intro c hc
    exact decide_eq_true (h c hc).ne
theorem path_len {cs : List Tx} (h : ∀ c ∈ cs, NameOk c) : (pathOf cs).length ≤ 1 + 28 * cs.length := by
  unfold pathOf
  split
  · simp
  · rename_i e; clear e
    induction cs with
    | nil => simp
    | cons c r ih =>
      have h1 := ih fun x hx => h x (List.mem_cons_of_mem _ hx)
      have h2 := (h c (by simp)).len
      rw [List.flatMap_cons, List.length_append, List.length_cons, List.length_cons]
      omega
theorem path_zero {cs : List Tx} (h : ∀ c ∈ cs, NameOk c) : (0 : UInt8) ∉ pathOf cs := by
  unfold pathOf
  split
  · simp
  · intro hm
    obtain ⟨c, hc, hm⟩ := List.mem_flatMap.1 hm
    rcases List.mem_cons.1 hm with e | e
    · cases e
    · exact (h c hc).zero e
theorem path_head (cs : List Tx) : (pathOf cs).head? = some 47 ∧ pathOf cs ≠ [] := by
  unfold pathOf
  split
  · exact ⟨rfl, by simp⟩
  · rename_i e
    obtain ⟨x, r, rfl⟩ := List.exists_cons_of_ne_nil e
    exact ⟨rfl, by simp⟩
theorem parse_path {cs : List Tx} (h : ∀ c ∈ cs, NameOk c) (hl : cs.length ≤ 32) : parse (pathOf cs) = .ok cs := by
  unfold parse
  have hw : ¬ wrong (pathOf cs) true = true := by
    unfold wrong
    rw [decide_eq_true_eq]
    rintro (e | e | e)
    · exact (path_head cs).2 e
    · exact path_zero h e
    · exact e.2 (path_head cs).1
  rw [if_neg hw]
  have hd : dotless cs = cs := by
    unfold dotless
    rw [List.filter_eq_self]
    intro c hc
    exact decide_eq_true (h c hc).dot
  unfold comps
  rw [pcs_path h, hd, if_pos ⟨by have := path_len h; omega, fun c hc => (h c hc).len, hl⟩]
/-- Names lead where they lead. -/
theorem goes_way {s : Tree} {follow : Bool} : ∀ {cs : List Tx} {d m : Int} (ch : List Int), Way s d cs m → cs ≠ [] → (∀ c ∈ cs, NameOk c) → ch.getLast?.getD 0 = d →
    (∀ d c x, nmF s d c = some x → kindOf s d = 2 ∧ get s x ≠ none) → (follow = true → kindOf s m ≠ 3) → ∃ q, goes s false follow cs ch 0 = .ok q ∧ q.inode = m
  | [], _, _, _, _, hne, _, _, _, _ => absurd rfl hne
  | [c], d, m, ch, hw, _, hok, hch, hs, hf => by
    cases hw with
    | @cons _ _ x _ _ h1 h2 =>
      cases h2
      rw [goes, if_neg (hok c (by simp)).dots, hch, show get (namesOf s d) c = some m from h1]
      obtain ⟨y, hy⟩ := Option.ne_none_iff_exists'.1 (hs _ _ _ h1).2
      dsimp only
      rw [hy]
      dsimp only
      rw [if_neg (by simp), if_neg ?_, if_neg (by simp)]
      · exact ⟨_, rfl, rfl⟩
      · rintro ⟨e1, e2⟩
        have : follow = true := by
          rcases e2 with e | e | e
          · cases e
          · exact absurd rfl e
          · exact e
        refine hf this ?_
        unfold kindOf; rw [hy]; exact e1
  | c :: c' :: r, d, m, ch, hw, _, hok, hch, hs, hf => by
    cases hw with
    | @cons _ _ x _ _ h1 h2 =>
      rw [goes, if_neg (hok c (by simp)).dots, hch, show get (namesOf s d) c = some x from h1]
      obtain ⟨y, hy⟩ := Option.ne_none_iff_exists'.1 (hs _ _ _ h1).2
      have hx : kindOf s x = 2 := by
        cases h2 with
        | cons h3 _ => exact (hs _ _ _ h3).1
      have hyk : y.kind = 2 := by unfold kindOf at hx; rw [hy] at hx; exact hx
      dsimp only
      rw [hy]
      dsimp only
      rw [if_pos ⟨hyk, .inr (by simp)⟩]
      exact goes_way (ch ++ [x]) h2 (by simp) (fun e he => hok e (List.mem_cons_of_mem _ he)) (by rw [List.getLast?_concat]; rfl) hs hf
theorem Inv.toP_way {n : Int} {k : Nat} {s : Tree} (h : Inv n k s) {cs : List Tx} {m : Int} (hw : Way s 1 cs m) {follow : Bool} (hf : follow = true → kindOf s m ≠ 3) : ∃ q, toP s (pathOf cs) follow = .ok q ∧ q.inode = m := by
  unfold toP
  rw [parse_path (h.way_names hw) (h.way_len hw)]
  dsimp only
  by_cases e : cs = []
  · subst e
    cases hw
    rw [goes]
    exact ⟨_, rfl, rfl⟩
  · exact goes_way [1] hw e (h.way_names hw) rfl (fun d c x hx => ⟨(h.dir_of hx).1, (h.dir_of hx).2.1⟩) hf
theorem fileP_way {n : Int} {k : Nat} {s : Tree} (h : Inv n k s) {cs : List Tx} {m : Int} (hw : Way s 1 cs m) (hk : kindOf s m = 1) : fileP s (pathOf cs) = .ok m := by
  unfold fileP
  obtain ⟨q, h1, h2⟩ := h.toP_way hw (follow := true) (fun _ => by rw [hk]; decide)
  rw [h1]
  dsimp only
  rw [h2, hk, if_neg (by decide)]
end Fs
end Go.Proofs.YtlnnbjgfpiefdaaGreat
/- A row of things; what a walk over the whole tree keeps. -/
namespace Go.Proofs.YtlnnbjgfpiefdaaGreat
open Go.RowKit Go.Maps Go.Shelf

namespace Fs
structure Thing where
  path : Tx
  stat : Stat
  data : Tx
def thC (t : Thing) : List Value := [.string (mk t.path), .int .i64 t.stat.inode, .int .i64 t.stat.kind, .int .i64 t.stat.links, .int .i64 t.stat.size, .int .i64 t.stat.blocks, .string (mk t.data)]
def thsC (l : List Thing) : List Value := l.flatMap thC
theorem thsC_snoc (l : List Thing) (t : Thing) : thsC (l ++ [t]) = thsC l ++ thC t := by unfold thsC; rw [List.flatMap_append]; simp
theorem thsC_len (l : List Thing) : (thsC l).length = l.length * 7 := by
  induction l with
  | nil => rfl
  | cons t r ih =>
    have : thsC (t :: r) = thC t ++ thsC r := rfl
    rw [this, List.length_append, ih, List.length_cons]
    show 7 + _ = _
    omega
theorem thC_one (t : Thing) : ∀ u ∈ thC t, u.oneCell' = true := by simp [thC, Value.oneCell']
/-- All that is told of a file, or of a link. -/
def dataOf (x : Nd) : Tx := if x.kind = 1 then (List.range (min 20 ((x.size.toNat + 16383) / 16384))).flatMap fun j => readN x ((j * 16384 : Nat) : Int) 16384 else if x.kind = 3 then x.text else []
def thing (s : Tree) (e : List Tx × Int) : Thing := ⟨pathOf e.1, statN e.2 (ndAt s e.2), dataOf (ndAt s e.2)⟩
/-- A file system's blocks, and a row's. -/
def XS (L : Lay) (v : Value) (b : Nat) : Prop := Mine L (.slice none 0 0) b ∨ v.ownBlock = some b
/-- A file system of the tree s, and a row of things beside it. -/
structure Bel (fb : Nat) (n : Int) (nb : Nat) (s : Tree) (base : Nat) (W : World) (L : Lay) (v : Value) (l : List Thing) : Prop where
  sim : Sim W L fb n nb (.slice none 0 0) []
  wf : WF L nb
  st : stOf L nb = s
  row : W.ownsRow base 34 7 v l.length (thsC l)
  off : ∀ g, v.ownBlock = some g → ¬ Mine L (.slice none 0 0) g
section
variable {fb : Nat} {n : Int} {nb base : Nat} {s : Tree} {W W' W0 : World} {L L' L0 : Lay} {v v' v0 : Value} {l : List Thing}
theorem Bel.lt (h : Bel fb n nb s base W L v l) {b : Nat} (hb : XS L v b) : b < W.heap.size := by
  rcases hb with e | e
  · exact h.sim.mine_lt e
  · exact (h.row.lt b e).2
theorem Bel.told (h : Bel fb n nb s base W L v l) (hS : Sim W' L' fb n nb (.slice none 0 0) []) (hw : WF L' nb) (hst : stOf L' nb = s) (hT : Step W (Mine L (.slice none 0 0)) W' (Mine L' (.slice none 0 0))) :
    Bel fb n nb s base W' L' v l ∧ Step W (XS L v) W' (XS L' v) :=
  ⟨⟨hS, hw, hst, row_same h.row fun g hg => (hT.block g (h.row.lt g hg).2 (h.off g hg)).1, fun g hg => (hT.block g (h.row.lt g hg).2 (h.off g hg)).2⟩,
    hT.os, hT.tape, hT.output, hT.size, fun k hk hx => ⟨(hT.block k hk (fun e => hx (.inl e))).1, fun e => by
      rcases e with e | e
      · exact (hT.block k hk (fun e => hx (.inl e))).2 e
      · exact hx (.inr e)⟩⟩
theorem Bel.below (h : Bel fb n nb s base W L v l) (hb : Below W.heap.size W W') : Bel fb n nb s base W' L v l :=
  ⟨h.sim.below hb, h.wf, h.st, row_same h.row fun g hg => hb.block g (h.row.lt g hg).2, h.off⟩
/-- Other blocks were written. -/
theorem Bel.beside (h : Bel fb n nb s base W L v l) (hs : W.heap.size ≤ W'.heap.size) (hk : ∀ b, XS L v b → W'.heap[b]? = W.heap[b]?) : Bel fb n nb s base W' L v l :=
  ⟨h.sim.same hs fun b hb => hk b (.inl hb), h.wf, h.st, row_same h.row fun g hg => hk g (.inr hg), h.off⟩
theorem Bel.grown (h : Bel fb n nb s base W L v l) {t : Thing} (hr : W'.ownsRow base 34 7 v' (l.length + 1) (thsC l ++ thC t)) (hg : W.grownBy W' v.ownBlock) (hl : v'.ownBlock = v.ownBlock ∨ v'.ownBlock = some W.heap.size) :
    Bel fb n nb s base W' L v' (l ++ [t]) ∧ Step W (XS L v) W' (XS L v') := by
  have hb : ∀ k, k < W.heap.size → v.ownBlock ≠ some k → W'.heap[k]? = W.heap[k]? := fun k hk hne => hg.block k hk fun e => hne e.symm
  refine ⟨⟨h.sim.same hg.size fun b hm => hb b (h.sim.mine_lt hm) fun e => h.off b e hm, h.wf, h.st, by rw [thsC_snoc, List.length_append]; exact hr, fun g hgv => ?_⟩, hg.os, hg.tape, hg.output, hg.size, fun k hk hx => ⟨hb k hk fun e => hx (.inr e), fun e => ?_⟩⟩
  · rcases hl with e | e
    · exact h.off g (e ▸ hgv)
    · rw [e] at hgv; cases hgv; exact h.sim.not_mine (Nat.le_refl _)
  · rcases e with e | e
    · exact hx (.inl e)
    · rcases hl with e' | e'
      · exact hx (.inr (e' ▸ e))
      · rw [e'] at e; cases e; omega
/-- A block beside both. -/
def OffX (W : World) (L : Lay) (v : Value) (b : Nat) (xs : Array Value) (t : TypeId) : Prop := Blk W b xs t ∧ ¬ XS L v b
theorem OffX.step {b : Nat} {xs : Array Value} {t : TypeId} (h : OffX W L v b xs t) (hs : Step W (XS L v) W' (XS L' v')) : OffX W' L' v' b xs t := ⟨h.1.same (hs.block b h.1.lt h.2).1, (hs.block b h.1.lt h.2).2⟩
theorem OffX.below {b : Nat} {xs : Array Value} {t : TypeId} (h : OffX W L v b xs t) (hb : Below W.heap.size W W') : OffX W' L v b xs t := ⟨h.1.same (hb.block b h.1.lt), h.2⟩
theorem Bel.offX (h : Bel fb n nb s base W L v l) {b : Nat} (hb : W.heap.size ≤ b) : ¬ XS L v b := fun e => by have := h.lt e; omega
/-- A row of texts beside both. -/
def OffS (W : World) (L : Lay) (v : Value) (base : Nat) (r : Value) (ts : List Tx) : Prop := W.ownsRow base 9 1 r ts.length (strsV ts) ∧ ∀ g, r.ownBlock = some g → ¬ XS L v g
theorem OffS.step {b : Nat} {r : Value} {ts : List Tx} (h : OffS W L v b r ts) (hs : Step W (XS L v) W' (XS L' v')) : OffS W' L' v' b r ts :=
  ⟨row_same h.1 fun g hg => (hs.block g (h.1.lt g hg).2 (h.2 g hg)).1, fun g hg => (hs.block g (h.1.lt g hg).2 (h.2 g hg)).2⟩
theorem OffS.below {b : Nat} {r : Value} {ts : List Tx} (h : OffS W L v b r ts) (hb : Below W.heap.size W W') : OffS W' L v b r ts := ⟨row_same h.1 fun g hg => hb.block g (h.1.lt g hg).2, h.2⟩
theorem Step.belowX {P : Nat → Prop} (h : Below W.heap.size W W') : Step W P W' P := Step.of_below h
/-- What a whole walk comes to. -/
def Listed (fb : Nat) (n : Int) (nb : Nat) (s : Tree) (base : Nat) (W : World) (L : Lay) (v : Value) (l : List Thing) (e : Ending) (W' : World) : Prop :=
  ∃ L' v', e = .returned (.tuple #[v', .bool true]) ∧ Bel fb n nb s base W' L' v' l ∧ Step W (XS L v) W' (XS L' v')
theorem info_thing : (Tryz.prog.info? 34).map (fun i => (i.zero, i.size, i.bytes)) = some (some (.agg #[.string (mk []), .int .i64 0, .int .i64 0, .int .i64 0, .int .i64 0, .int .i64 0, .string (mk [])]), 7, 72) := by kernel_rfl
end
end Fs
end Go.Proofs.YtlnnbjgfpiefdaaGreat
/- answer: kinds of calls. -/
namespace Go.Proofs.YtlnnbjgfpiefdaaGreat
open Go.RowKit Go.Maps Go.Shelf

namespace Fs
section
variable {W X w2 w3 : World} {L L2 : Lay} {fb : Nat} {n : Int} {nb : Nat} {uv : Value} {vals : List Value}
set_option maxRecDepth 100000 in
set_option maxHeartbeats 8000000 in
theorem answer1 (h : Sim W L fb n nb (.slice none 0 0) []) (hw : WF L nb) (hR : Asked n (stOf L nb)) (c : Call) (hc : CallOk c) (hk : c.kind = 1) (hto : ∀ s' t v, fresh n (stOf L nb) c.path newFile = .ok (s', t, v) → TOk s') :
    Calls Tryz.prog 18 #[.pointer (some ⟨fb, 0, none⟩), .agg (callC c)] W fun e W' => Answd fb n nb W L (doC n (stOf L nb) c) e W' := by
  obtain ⟨X, hX⟩ : ∃ x, x = (W.alloc (.cells (callC c) 38)).alloc (.cells #[.int .i64 0, .int .i64 0, .string { data := #[] }, .int .i64 0, .int .i64 0, .int .i64 0, .int .i64 0, .int .i64 0, .slice none 0 0, .int .i64 0, .int .i64 0, .int .i64 0, .int .i64 0] 42) := ⟨_, rfl⟩
  have hbX : Below W.heap.size W X := by rw [hX]; exact ((Below.refl _ _).alloc (Nat.le_refl _) _).alloc (by simp) _
  have bc : Blk X W.heap.size (callC c) 38 := by rw [hX]; exact (Blk.newAt _ _ rfl).alloc _
  have ba : Blk X (W.heap.size + 1) #[.int .i64 0, .int .i64 0, .string { data := #[] }, .int .i64 0, .int .i64 0, .int .i64 0, .int .i64 0, .int .i64 0, .slice none 0 0, .int .i64 0, .int .i64 0, .int .i64 0, .int .i64 0] 42 := by rw [hX]; exact Blk.newAt _ _ (by simp)
  have SX := h.below hbX
  have hla := ba.lt
  have hm : ¬ Mine L (.slice none 0 0) (W.heap.size + 1) := h.not_mine (by omega)
  have HC := create_st SX hw hR.snug.toFit hR.n1 hR.n2 c.path hc.path hto
  rw [doC_1 n _ hk]
  unfold callC at *
  rw [hk] at hX bc ⊢
  have Hk := Lib.hid hk
  clear hk
  generalize fin n (stOf L nb) (fresh n (stOf L nb) c.path newFile) = r at *
  obtain ⟨s0, r⟩ := r
  unfold Made at HC
  unfold ansN
  dsimp only at HC ⊢
  cases r with
  | error z =>
    dsimp only at HC ⊢
    go_enter Tryz.func18, Tryz.ntmps18
    go_wp2_with fail
    rw [← hX]
    clear hX
    refine HC.mono ?_
    rintro e w2 ⟨L2, S2, F2, st2, T2, rfl, hzn⟩
    have ba2 := ba.same (T2.block _ hla hm).1
    have z0 := ba2.cell 0
    have f0 := ba2.free 0
    have z1 := ba2.cell 1
    have f1 := ba2.free 1
    have bq : Blk ((w2.setCell ⟨W.heap.size + 1, 1, none⟩ (.int .i64 0)).setCell ⟨W.heap.size + 1, 0, none⟩ (.int .i64 z)) (W.heap.size + 1) #[.int .i64 z, .int .i64 0, .string { data := #[] }, .int .i64 0, .int .i64 0, .int .i64 0, .int .i64 0, .int .i64 0, .slice none 0 0, .int .i64 0, .int .i64 0, .int .i64 0, .int .i64 0] 42 := ((ba2.set 1 (.int .i64 0)).set 0 (.int .i64 z))
    have hld := load_answer bq rfl
    have hst := store_row (ys := #[.int .i64 z, .int .i64 0, .string { data := #[] }, .int .i64 0, .int .i64 0, .int .i64 0, .int .i64 0, .int .i64 0, .slice none 0 0, .int .i64 0, .int .i64 0, .int .i64 0, .int .i64 0]) (ty := 42) bq info_answer rfl (by simp [Value.oneCell'])
    obtain ⟨S3, T3⟩ := answ_end (w3 := ((w2.setCell ⟨W.heap.size + 1, 1, none⟩ (.int .i64 0)).setCell ⟨W.heap.size + 1, 0, none⟩ (.int .i64 z)).setRow (W.heap.size + 1) #[.int .i64 z, .int .i64 0, .string { data := #[] }, .int .i64 0, .int .i64 0, .int .i64 0, .int .i64 0, .int .i64 0, .slice none 0 0, .int .i64 0, .int .i64 0, .int .i64 0, .int .i64 0]) hbX hla h T2 S2 rfl rfl rfl (by simp) (fun b hb => (setRow_heap _ _ _ _ hb).trans ((Below.heap_setCell _ _ _ _ hb).trans (Below.heap_setCell _ _ _ _ hb)))
    have Hz := Lib.hid (And.intro S3 (And.intro T3 (And.intro F2 (And.intro st2 bq))))
    clear S3 T3 F2 st2 bq S2 T2 ba2 hm hla ba bc SX hbX h
    go_wp2_with (first | (refine wpList_load_run _ rfl (.tmp 4) 42 rfl _ hld ?_) | (refine wpList_store_run _ rfl (.tmp 4) (.tmp 124) 42 rfl _ hst ?_))
    obtain ⟨S3, T3, F2, st2, bq⟩ := Hz
    exact bodyPost_ret (answer_results rfl (bq.setRow _)) rfl ⟨L2, S3, F2, st2, T3, _, rfl, rfl, rfl, (by simp [Value.oneCell']), fun h0 => absurd h0 hzn⟩
  | ok v =>
    dsimp only at HC ⊢
    go_enter Tryz.func18, Tryz.ntmps18
    go_wp2_with fail
    rw [← hX]
    clear hX
    refine HC.mono ?_
    rintro e w2 ⟨L2, S2, F2, st2, T2, rfl⟩
    have ba2 := ba.same (T2.block _ hla hm).1
    have z0 := ba2.cell 0
    have f0 := ba2.free 0
    have z1 := ba2.cell 1
    have f1 := ba2.free 1
    have bq : Blk ((w2.setCell ⟨W.heap.size + 1, 1, none⟩ (.int .i64 v)).setCell ⟨W.heap.size + 1, 0, none⟩ (.int .i64 0)) (W.heap.size + 1) #[.int .i64 0, .int .i64 v, .string { data := #[] }, .int .i64 0, .int .i64 0, .int .i64 0, .int .i64 0, .int .i64 0, .slice none 0 0, .int .i64 0, .int .i64 0, .int .i64 0, .int .i64 0] 42 := ((ba2.set 1 (.int .i64 v)).set 0 (.int .i64 0))
    have hld := load_answer bq rfl
    have hst := store_row (ys := #[.int .i64 0, .int .i64 v, .string { data := #[] }, .int .i64 0, .int .i64 0, .int .i64 0, .int .i64 0, .int .i64 0, .slice none 0 0, .int .i64 0, .int .i64 0, .int .i64 0, .int .i64 0]) (ty := 42) bq info_answer rfl (by simp [Value.oneCell'])
    obtain ⟨S3, T3⟩ := answ_end (w3 := ((w2.setCell ⟨W.heap.size + 1, 1, none⟩ (.int .i64 v)).setCell ⟨W.heap.size + 1, 0, none⟩ (.int .i64 0)).setRow (W.heap.size + 1) #[.int .i64 0, .int .i64 v, .string { data := #[] }, .int .i64 0, .int .i64 0, .int .i64 0, .int .i64 0, .int .i64 0, .slice none 0 0, .int .i64 0, .int .i64 0, .int .i64 0, .int .i64 0]) hbX hla h T2 S2 rfl rfl rfl (by simp) (fun b hb => (setRow_heap _ _ _ _ hb).trans ((Below.heap_setCell _ _ _ _ hb).trans (Below.heap_setCell _ _ _ _ hb)))
    have Hz := Lib.hid (And.intro S3 (And.intro T3 (And.intro F2 (And.intro st2 bq))))
    clear S3 T3 F2 st2 bq S2 T2 ba2 hm hla ba bc SX hbX h
    go_wp2_with (first | (refine wpList_load_run _ rfl (.tmp 4) 42 rfl _ hld ?_) | (refine wpList_store_run _ rfl (.tmp 4) (.tmp 124) 42 rfl _ hst ?_))
    obtain ⟨S3, T3, F2, st2, bq⟩ := Hz
    exact bodyPost_ret (answer_results rfl (bq.setRow _)) rfl ⟨L2, S3, F2, st2, T3, _, rfl, rfl, rfl, (by simp [Value.oneCell']), fun _ => ⟨.slice none 0 0, rfl, World.ownsRow_nil _ _ _ _, by simp, fun g hg => by cases hg⟩⟩
set_option maxRecDepth 100000 in
set_option maxHeartbeats 8000000 in
theorem answer2 (h : Sim W L fb n nb (.slice none 0 0) []) (hw : WF L nb) (hR : Asked n (stOf L nb)) (c : Call) (hc : CallOk c) (hk : c.kind = 2) (hto : ∀ s' t v, fresh n (stOf L nb) c.path newDir = .ok (s', t, v) → TOk s') :
    Calls Tryz.prog 18 #[.pointer (some ⟨fb, 0, none⟩), .agg (callC c)] W fun e W' => Answd fb n nb W L (doC n (stOf L nb) c) e W' := by
  obtain ⟨X, hX⟩ : ∃ x, x = (W.alloc (.cells (callC c) 38)).alloc (.cells #[.int .i64 0, .int .i64 0, .string { data := #[] }, .int .i64 0, .int .i64 0, .int .i64 0, .int .i64 0, .int .i64 0, .slice none 0 0, .int .i64 0, .int .i64 0, .int .i64 0, .int .i64 0] 42) := ⟨_, rfl⟩
  have hbX : Below W.heap.size W X := by rw [hX]; exact ((Below.refl _ _).alloc (Nat.le_refl _) _).alloc (by simp) _
  have bc : Blk X W.heap.size (callC c) 38 := by rw [hX]; exact (Blk.newAt _ _ rfl).alloc _
  have ba : Blk X (W.heap.size + 1) #[.int .i64 0, .int .i64 0, .string { data := #[] }, .int .i64 0, .int .i64 0, .int .i64 0, .int .i64 0, .int .i64 0, .slice none 0 0, .int .i64 0, .int .i64 0, .int .i64 0, .int .i64 0] 42 := by rw [hX]; exact Blk.newAt _ _ (by simp)
  have SX := h.below hbX
  have hla := ba.lt
  have hm : ¬ Mine L (.slice none 0 0) (W.heap.size + 1) := h.not_mine (by omega)
  have HC := mkdir_st SX hw hR.snug.toFit hR.n1 hR.n2 c.path hc.path hto
  rw [doC_2 n _ hk]
  unfold callC at *
  rw [hk] at hX bc ⊢
  have Hk := Lib.hid hk
  clear hk
  generalize fin n (stOf L nb) (fresh n (stOf L nb) c.path newDir) = r at *
  obtain ⟨s0, r⟩ := r
  unfold Made at HC
  unfold ansN
  dsimp only at HC ⊢
  cases r with
  | error z =>
    dsimp only at HC ⊢
    go_enter Tryz.func18, Tryz.ntmps18
    go_wp2_with fail
    rw [← hX]
    clear hX
    refine HC.mono ?_
    rintro e w2 ⟨L2, S2, F2, st2, T2, rfl, hzn⟩
    have ba2 := ba.same (T2.block _ hla hm).1
    have z0 := ba2.cell 0
    have f0 := ba2.free 0
    have z1 := ba2.cell 1
    have f1 := ba2.free 1
    have bq : Blk ((w2.setCell ⟨W.heap.size + 1, 1, none⟩ (.int .i64 0)).setCell ⟨W.heap.size + 1, 0, none⟩ (.int .i64 z)) (W.heap.size + 1) #[.int .i64 z, .int .i64 0, .string { data := #[] }, .int .i64 0, .int .i64 0, .int .i64 0, .int .i64 0, .int .i64 0, .slice none 0 0, .int .i64 0, .int .i64 0, .int .i64 0, .int .i64 0] 42 := ((ba2.set 1 (.int .i64 0)).set 0 (.int .i64 z))
    have hld := load_answer bq rfl
    have hst := store_row (ys := #[.int .i64 z, .int .i64 0, .string { data := #[] }, .int .i64 0, .int .i64 0, .int .i64 0, .int .i64 0, .int .i64 0, .slice none 0 0, .int .i64 0, .int .i64 0, .int .i64 0, .int .i64 0]) (ty := 42) bq info_answer rfl (by simp [Value.oneCell'])
    obtain ⟨S3, T3⟩ := answ_end (w3 := ((w2.setCell ⟨W.heap.size + 1, 1, none⟩ (.int .i64 0)).setCell ⟨W.heap.size + 1, 0, none⟩ (.int .i64 z)).setRow (W.heap.size + 1) #[.int .i64 z, .int .i64 0, .string { data := #[] }, .int .i64 0, .int .i64 0, .int .i64 0, .int .i64 0, .int .i64 0, .slice none 0 0, .int .i64 0, .int .i64 0, .int .i64 0, .int .i64 0]) hbX hla h T2 S2 rfl rfl rfl (by simp) (fun b hb => (setRow_heap _ _ _ _ hb).trans ((Below.heap_setCell _ _ _ _ hb).trans (Below.heap_setCell _ _ _ _ hb)))
    have Hz := Lib.hid (And.intro S3 (And.intro T3 (And.intro F2 (And.intro st2 bq))))
    clear S3 T3 F2 st2 bq S2 T2 ba2 hm hla ba bc SX hbX h
    go_wp2_with (first | (refine wpList_load_run _ rfl (.tmp 4) 42 rfl _ hld ?_) | (refine wpList_store_run _ rfl (.tmp 4) (.tmp 124) 42 rfl _ hst ?_))
    obtain ⟨S3, T3, F2, st2, bq⟩ := Hz
    exact bodyPost_ret (answer_results rfl (bq.setRow _)) rfl ⟨L2, S3, F2, st2, T3, _, rfl, rfl, rfl, (by simp [Value.oneCell']), fun h0 => absurd h0 hzn⟩
  | ok v =>
    dsimp only at HC ⊢
    go_enter Tryz.func18, Tryz.ntmps18
    go_wp2_with fail
    rw [← hX]
    clear hX
    refine HC.mono ?_
    rintro e w2 ⟨L2, S2, F2, st2, T2, rfl⟩
    have ba2 := ba.same (T2.block _ hla hm).1
    have z0 := ba2.cell 0
    have f0 := ba2.free 0
    have z1 := ba2.cell 1
    have f1 := ba2.free 1
    have bq : Blk ((w2.setCell ⟨W.heap.size + 1, 1, none⟩ (.int .i64 v)).setCell ⟨W.heap.size + 1, 0, none⟩ (.int .i64 0)) (W.heap.size + 1) #[.int .i64 0, .int .i64 v, .string { data := #[] }, .int .i64 0, .int .i64 0, .int .i64 0, .int .i64 0, .int .i64 0, .slice none 0 0, .int .i64 0, .int .i64 0, .int .i64 0, .int .i64 0] 42 := ((ba2.set 1 (.int .i64 v)).set 0 (.int .i64 0))
    have hld := load_answer bq rfl
    have hst := store_row (ys := #[.int .i64 0, .int .i64 v, .string { data := #[] }, .int .i64 0, .int .i64 0, .int .i64 0, .int .i64 0, .int .i64 0, .slice none 0 0, .int .i64 0, .int .i64 0, .int .i64 0, .int .i64 0]) (ty := 42) bq info_answer rfl (by simp [Value.oneCell'])
    obtain ⟨S3, T3⟩ := answ_end (w3 := ((w2.setCell ⟨W.heap.size + 1, 1, none⟩ (.int .i64 v)).setCell ⟨W.heap.size + 1, 0, none⟩ (.int .i64 0)).setRow (W.heap.size + 1) #[.int .i64 0, .int .i64 v, .string { data := #[] }, .int .i64 0, .int .i64 0, .int .i64 0, .int .i64 0, .int .i64 0, .slice none 0 0, .int .i64 0, .int .i64 0, .int .i64 0, .int .i64 0]) hbX hla h T2 S2 rfl rfl rfl (by simp) (fun b hb => (setRow_heap _ _ _ _ hb).trans ((Below.heap_setCell _ _ _ _ hb).trans (Below.heap_setCell _ _ _ _ hb)))
    have Hz := Lib.hid (And.intro S3 (And.intro T3 (And.intro F2 (And.intro st2 bq))))
    clear S3 T3 F2 st2 bq S2 T2 ba2 hm hla ba bc SX hbX h
    go_wp2_with (first | (refine wpList_load_run _ rfl (.tmp 4) 42 rfl _ hld ?_) | (refine wpList_store_run _ rfl (.tmp 4) (.tmp 124) 42 rfl _ hst ?_))
    obtain ⟨S3, T3, F2, st2, bq⟩ := Hz
    exact bodyPost_ret (answer_results rfl (bq.setRow _)) rfl ⟨L2, S3, F2, st2, T3, _, rfl, rfl, rfl, (by simp [Value.oneCell']), fun _ => ⟨.slice none 0 0, rfl, World.ownsRow_nil _ _ _ _, by simp, fun g hg => by cases hg⟩⟩
theorem sym_eq (n : Int) (s : Tree) {c : Call} (hk : c.kind = 10) : doC n s c = ansN (symR n s c.other c.path) := by
  rw [doC_10 n s hk]
  unfold symR
  cases textP c.other <;> rfl
set_option maxRecDepth 100000 in
set_option maxHeartbeats 8000000 in
theorem answer10 (h : Sim W L fb n nb (.slice none 0 0) []) (hw : WF L nb) (hR : Asked n (stOf L nb)) (c : Call) (hc : CallOk c) (hk : c.kind = 10) (hto : ∀ l, textP c.other = .ok l → ∀ s' u v, fresh n (stOf L nb) c.path (newLink c.other) = .ok (s', u, v) → TOk s') :
    Calls Tryz.prog 18 #[.pointer (some ⟨fb, 0, none⟩), .agg (callC c)] W fun e W' => Answd fb n nb W L (doC n (stOf L nb) c) e W' := by
  obtain ⟨X, hX⟩ : ∃ x, x = (W.alloc (.cells (callC c) 38)).alloc (.cells #[.int .i64 0, .int .i64 0, .string { data := #[] }, .int .i64 0, .int .i64 0, .int .i64 0, .int .i64 0, .int .i64 0, .slice none 0 0, .int .i64 0, .int .i64 0, .int .i64 0, .int .i64 0] 42) := ⟨_, rfl⟩
  have hbX : Below W.heap.size W X := by rw [hX]; exact ((Below.refl _ _).alloc (Nat.le_refl _) _).alloc (by simp) _
  have bc : Blk X W.heap.size (callC c) 38 := by rw [hX]; exact (Blk.newAt _ _ rfl).alloc _
  have ba : Blk X (W.heap.size + 1) #[.int .i64 0, .int .i64 0, .string { data := #[] }, .int .i64 0, .int .i64 0, .int .i64 0, .int .i64 0, .int .i64 0, .slice none 0 0, .int .i64 0, .int .i64 0, .int .i64 0, .int .i64 0] 42 := by rw [hX]; exact Blk.newAt _ _ (by simp)
  have SX := h.below hbX
  have hla := ba.lt
  have hm : ¬ Mine L (.slice none 0 0) (W.heap.size + 1) := h.not_mine (by omega)
  have HC := symlink_st SX hw hR.snug.toFit hR.n1 hR.n2 c.other c.path hc.other hc.path hto
  rw [sym_eq n _ hk]
  unfold callC at *
  rw [hk] at hX bc ⊢
  have Hk := Lib.hid hk
  clear hk
  generalize symR n (stOf L nb) c.other c.path = r at *
  obtain ⟨s0, r⟩ := r
  unfold Made at HC
  unfold ansN
  dsimp only at HC ⊢
  cases r with
  | error z =>
    dsimp only at HC ⊢
    go_enter Tryz.func18, Tryz.ntmps18
    go_wp2_with fail
    rw [← hX]
    clear hX
    refine HC.mono ?_
    rintro e w2 ⟨L2, S2, F2, st2, T2, rfl, hzn⟩
    have ba2 := ba.same (T2.block _ hla hm).1
    have z0 := ba2.cell 0
    have f0 := ba2.free 0
    have z1 := ba2.cell 1
    have f1 := ba2.free 1
    have bq : Blk ((w2.setCell ⟨W.heap.size + 1, 1, none⟩ (.int .i64 0)).setCell ⟨W.heap.size + 1, 0, none⟩ (.int .i64 z)) (W.heap.size + 1) #[.int .i64 z, .int .i64 0, .string { data := #[] }, .int .i64 0, .int .i64 0, .int .i64 0, .int .i64 0, .int .i64 0, .slice none 0 0, .int .i64 0, .int .i64 0, .int .i64 0, .int .i64 0] 42 := ((ba2.set 1 (.int .i64 0)).set 0 (.int .i64 z))
    have hld := load_answer bq rfl
    have hst := store_row (ys := #[.int .i64 z, .int .i64 0, .string { data := #[] }, .int .i64 0, .int .i64 0, .int .i64 0, .int .i64 0, .int .i64 0, .slice none 0 0, .int .i64 0, .int .i64 0, .int .i64 0, .int .i64 0]) (ty := 42) bq info_answer rfl (by simp [Value.oneCell'])
    obtain ⟨S3, T3⟩ := answ_end (w3 := ((w2.setCell ⟨W.heap.size + 1, 1, none⟩ (.int .i64 0)).setCell ⟨W.heap.size + 1, 0, none⟩ (.int .i64 z)).setRow (W.heap.size + 1) #[.int .i64 z, .int .i64 0, .string { data := #[] }, .int .i64 0, .int .i64 0, .int .i64 0, .int .i64 0, .int .i64 0, .slice none 0 0, .int .i64 0, .int .i64 0, .int .i64 0, .int .i64 0]) hbX hla h T2 S2 rfl rfl rfl (by simp) (fun b hb => (setRow_heap _ _ _ _ hb).trans ((Below.heap_setCell _ _ _ _ hb).trans (Below.heap_setCell _ _ _ _ hb)))
    have Hz := Lib.hid (And.intro S3 (And.intro T3 (And.intro F2 (And.intro st2 bq))))
    clear S3 T3 F2 st2 bq S2 T2 ba2 hm hla ba bc SX hbX h
    go_wp2_with (first | (refine wpList_load_run _ rfl (.tmp 4) 42 rfl _ hld ?_) | (refine wpList_store_run _ rfl (.tmp 4) (.tmp 124) 42 rfl _ hst ?_))
    obtain ⟨S3, T3, F2, st2, bq⟩ := Hz
    exact bodyPost_ret (answer_results rfl (bq.setRow _)) rfl ⟨L2, S3, F2, st2, T3, _, rfl, rfl, rfl, (by simp [Value.oneCell']), fun h0 => absurd h0 hzn⟩
  | ok v =>
    dsimp only at HC ⊢
    go_enter Tryz.func18, Tryz.ntmps18
    go_wp2_with fail
    rw [← hX]
    clear hX
    refine HC.mono ?_
    rintro e w2 ⟨L2, S2, F2, st2, T2, rfl⟩
    have ba2 := ba.same (T2.block _ hla hm).1
    have z0 := ba2.cell 0
    have f0 := ba2.free 0
    have z1 := ba2.cell 1
    have f1 := ba2.free 1
    have bq : Blk ((w2.setCell ⟨W.heap.size + 1, 1, none⟩ (.int .i64 v)).setCell ⟨W.heap.size + 1, 0, none⟩ (.int .i64 0)) (W.heap.size + 1) #[.int .i64 0, .int .i64 v, .string { data := #[] }, .int .i64 0, .int .i64 0, .int .i64 0, .int .i64 0, .int .i64 0, .slice none 0 0, .int .i64 0, .int .i64 0, .int .i64 0, .int .i64 0] 42 := ((ba2.set 1 (.int .i64 v)).set 0 (.int .i64 0))
    have hld := load_answer bq rfl
    have hst := store_row (ys := #[.int .i64 0, .int .i64 v, .string { data := #[] }, .int .i64 0, .int .i64 0, .int .i64 0, .int .i64 0, .int .i64 0, .slice none 0 0, .int .i64 0, .int .i64 0, .int .i64 0, .int .i64 0]) (ty := 42) bq info_answer rfl (by simp [Value.oneCell'])
    obtain ⟨S3, T3⟩ := answ_end (w3 := ((w2.setCell ⟨W.heap.size + 1, 1, none⟩ (.int .i64 v)).setCell ⟨W.heap.size + 1, 0, none⟩ (.int .i64 0)).setRow (W.heap.size + 1) #[.int .i64 0, .int .i64 v, .string { data := #[] }, .int .i64 0, .int .i64 0, .int .i64 0, .int .i64 0, .int .i64 0, .slice none 0 0, .int .i64 0, .int .i64 0, .int .i64 0, .int .i64 0]) hbX hla h T2 S2 rfl rfl rfl (by simp) (fun b hb => (setRow_heap _ _ _ _ hb).trans ((Below.heap_setCell _ _ _ _ hb).trans (Below.heap_setCell _ _ _ _ hb)))
    have Hz := Lib.hid (And.intro S3 (And.intro T3 (And.intro F2 (And.intro st2 bq))))
    clear S3 T3 F2 st2 bq S2 T2 ba2 hm hla ba bc SX hbX h
    go_wp2_with (first | (refine wpList_load_run _ rfl (.tmp 4) 42 rfl _ hld ?_) | (refine wpList_store_run _ rfl (.tmp 4) (.tmp 124) 42 rfl _ hst ?_))
    obtain ⟨S3, T3, F2, st2, bq⟩ := Hz
    exact bodyPost_ret (answer_results rfl (bq.setRow _)) rfl ⟨L2, S3, F2, st2, T3, _, rfl, rfl, rfl, (by simp [Value.oneCell']), fun _ => ⟨.slice none 0 0, rfl, World.ownsRow_nil _ _ _ _, by simp, fun g hg => by cases hg⟩⟩
end
end Fs
end Go.Proofs.YtlnnbjgfpiefdaaGreat
