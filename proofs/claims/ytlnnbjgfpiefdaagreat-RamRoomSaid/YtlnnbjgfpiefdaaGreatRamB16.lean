/- A file's size is set. -/
import Derived.Test.YtlnnbjgfpiefdaaGreatRamB15
namespace Go.Proofs.YtlnnbjgfpiefdaaGreat
open Go.RowKit Go.Maps Go.Shelf

namespace Fs
section
variable {W0 W W' : World} {L0 L : Lay} {Z : Nat → Prop} {fb : Nat} {n : Int} {nb : Nat} {uv : Value} {vals : List Value} {s : Tree}
/-- A block made since the start is a box of the file system. -/
theorem Now.adopt (h : Now W0 L0 Z fb n nb W L uv vals s) {x : Nat} {t : TypeId} {v : Value} (hx : Blk W x v.cells t) (hm : ¬ Mine L uv x) (h0 : W0.heap.size ≤ x) :
    ∃ L', Now W0 L0 Z fb n nb W L' uv vals s ∧ L' x = some (.box t v) ∧ (∀ y r, L y = some r → L' y = some r) ∧ (∀ y, y ≠ x → L' y = L y) ∧ nodesOf L' nb = nodesOf L nb := by
  have hl : L x = none := by cases e : L x with
    | none => rfl
    | some r => exact absurd (.inl (by rw [e]; simp)) hm
  have hB := (Boxed.refl L).box _ _ x t v hl
  have hne : ∀ y, y ≠ x → upd L x (.box t v) y = L y := fun y hy => upd_other _ _ hy
  have hmi : ∀ y, y ≠ x → Mine (upd L x (.box t v)) uv y → Mine L uv y := fun y hy e => by
    rcases e with e | e
    · rw [hne y hy] at e; exact .inl e
    · exact .inr e
  refine ⟨upd L x (.box t v), ⟨h.st.boxed (h.st.sim.adopt hx hm) hB, ⟨h.step.os, h.step.tape, h.step.output, h.step.size, fun k hk hn => ?_⟩, fun y hy => ⟨(h.z y hy).1, fun e => (h.z y hy).2 (hmi y (fun c => by have := (h.z y hy).1; omega) e)⟩⟩, upd_same _ _ _, fun y r hy => hB.ex _ _ hy, hne, (hB.wf h.st.wf).2.2⟩
  have := h.step.block k hk hn
  refine ⟨this.1, fun e => this.2 ?_⟩
  rcases e with e | e
  · exact .inl (hmi k (by omega) e)
  · exact .inr e
/-- Behind one of the file system's own steps; its boxes stand. -/
theorem Now.after2 (h : Now W0 L0 Z fb n nb W L uv vals s) {k : Nat} {adr : Int → Nat → Prop} {s' : Tree} (ha : After W L uv fb n nb L0 k adr s' W') :
    ∃ L' uv' vals', Now W0 L0 Z fb n nb W' L' uv' vals' s' ∧ vals'.length ≤ k ∧ vals' ≠ [] ∧ (∀ i b, adr i b → Adr L' nb i b) ∧ ∀ x t v, L x = some (.box t v) → L' x = some (.box t v) := by
  obtain ⟨L', uv', vals', h1, h2, h3, h4, h5, h6⟩ := ha
  exact ⟨L', uv', vals', ⟨h1, h.step.trans (h2.z Z), fun x hx => ⟨(h.z x hx).1, (h2.block x (Nat.lt_of_lt_of_le (h.z x hx).1 h.size) (h.z x hx).2).2⟩⟩, h3, h4, h5, h6⟩
/-- One of its blocks was written, and that is noted. -/
theorem Now.note {W1 W2 : World} (h : Now W0 L0 Z fb n nb W L uv vals s) {b : Nat} {r r' : Ro} {v uv' : Value} {s' : Tree} (hb : L b = some r) (t1 : Step W (Mine L uv) W1 (Mine (upd L b r') uv))
    (h2 : Sim W2 (upd L b r') fb n nb uv' (vals ++ [v])) (t2 : Step W1 (Mine (upd L b r') uv) W2 (Mine (upd L b r') uv')) (hu : Und fb nb (upd L b r') v b r r') (hw : WF (upd L b r') nb) (hst : stOf (upd L b r') nb = s') :
    Now W0 L0 Z fb n nb W2 (upd L b r') uv' (vals ++ [v]) s' := by
  have t := t1.trans t2
  exact ⟨h.st.note (Boxed.refl L) hb h2 hu hw hst, h.step.trans (t.z Z), fun x hx => ⟨(h.z x hx).1, (t.block x (Nat.lt_of_lt_of_le (h.z x hx).1 h.size) (h.z x hx).2).2⟩⟩
end
/-- What is left of the pieces when those of a list of indices are cut off. -/
def cutSome (pl : Al Int Pc) (size : Int) (l : List Int) : Al Int Pc := pl.filter fun e => !(decide (e.1 ∈ l ∧ size ≤ e.1 * 512))
theorem cutSome_nil (pl : Al Int Pc) (size : Int) : cutSome pl size [] = pl := by
  unfold cutSome; rw [List.filter_eq_self]; intro e _; simp
theorem cutSome_snoc (pl : Al Int Pc) (size : Int) (l : List Int) (k : Int) : cutSome pl size (l ++ [k]) = if size ≤ k * 512 then del (cutSome pl size l) k else cutSome pl size l := by
  unfold cutSome del
  split
  · rename_i h
    rw [List.filter_filter]
    refine List.filter_congr fun e _ => ?_
    by_cases c : e.1 = k
    · subst c; simp [h]
    · simp [c]
  · rename_i h
    refine List.filter_congr fun e _ => ?_
    by_cases c : e.1 = k
    · subst c; simp [h]
    · simp [c]
theorem cutSome_all (pl : Al Int Pc) (size : Int) {l : List Int} (h : ∀ e ∈ pl, e.1 ∈ l) : cutSome pl size l = cutPieces pl size := by
  unfold cutSome cutPieces
  refine List.filter_congr fun e he => ?_
  have := h e he
  by_cases c : size ≤ e.1 * 512
  · have : ¬ e.1 * 512 < size := by omega
    simp [*]
  · have : e.1 * 512 < size := by omega
    simp [*]
theorem get_cutSome {pl : Al Int Pc} {size : Int} {l : List Int} {k : Int} {p : Pc} (h : get pl k = some p) (hk : k ∉ l) : get (cutSome pl size l) k = some p := by
  unfold get cutSome at *
  rw [List.find?_filter]
  rw [← h]
  congr 2
  funext e
  by_cases c : e.1 = k
  · subst c; simp [hk]
  · simp [c]
theorem keys_nodup {pl : Al Int Pc} (h : Rising pl) {l : List Int} (hp : l.Perm (pl.map (·.1))) : l.Nodup := by
  refine hp.nodup_iff.2 ?_
  unfold List.Nodup
  rw [List.pairwise_map]
  exact h.apart
theorem nodup_take {l : List Int} (h : l.Nodup) {j : Nat} (hj : j < l.length) : l[j] ∉ l.take j := by
  intro hm
  obtain ⟨i, hi, e⟩ := List.mem_iff_getElem.1 hm
  rw [List.length_take] at hi
  rw [List.getElem_take] at e
  have := (List.nodup_iff_pairwise_ne.1 h)
  have := List.pairwise_iff_getElem.1 this i j (by omega) hj (by omega)
  exact this e
theorem info_u8z : (Tryz.prog.info? 5).map (fun i => (i.zero, i.size, i.bytes)) = some (some (.int .u8 0), 1, 1) := by kernel_rfl
/-- Five hundred and twelve zeros are made. -/
theorem make_zeros (W : World) : (Instr.makeSlice 126 (.int .i64 512) (.int .i64 512)).run Tryz.prog W = .ok (.slice (some ⟨W.heap.size, 0, none⟩) 512 512) (W.alloc (.cells (madeCells #[.int .u8 0] 512) 5)) := by
  have h := info_u8z
  cases hi : Tryz.prog.info? 5 with
  | none => rw [hi] at h; cases h
  | some i =>
    rw [hi] at h
    simp only [Option.map_some, Option.some.injEq, Prod.mk.injEq] at h
    obtain ⟨hz, hs, hb⟩ := h
    have := run_makeSlice (P := Tryz.prog) W 126 5 i _ Tryz.underlying126 hi hz .i64 .i64 512 512 (by omega) (by omega) (by rw [hs]; decide) (by rw [hb]; decide) (by omega)
    rw [hs] at this
    exact this
theorem made_zero (j : Nat) (hj : j < 512) : (madeCells #[Value.int .u8 0] 512)[j]? = some (.int .u8 0) := by
  rw [← Array.getElem?_toList, toList_madeCells_one, List.getElem?_replicate, if_pos hj]
theorem copy_zeros_any {P : Program} (Y : World) (dT ty elem T T5 : TypeId) (hu : P.underlying dT = some (.slice elem)) (hs : (P.info? elem).map (·.size) = some 1) (p : Pc) (hp : p.length = 512) (F : Nat) (hF : F < 512) :
    (Builtin.copy_ #[dT, dT] ty #[.slice (some ⟨Y.heap.size, F, none⟩) (512 - F) (512 - F), .slice (some ⟨Y.heap.size + 1, 0, none⟩) 512 512]).run P ((Y.alloc (.cells (p.map fun b => Value.int .u8 b.toNat).toArray T)).alloc (.cells (madeCells #[.int .u8 0] 512) T5)).drew =
      .ok (goInt (512 - F : Nat)) ((Y.alloc (.cells ((p.take F ++ List.replicate (512 - F) 0).map fun b : UInt8 => Value.int .u8 b.toNat).toArray T)).alloc (.cells (madeCells #[.int .u8 0] 512) T5)).drew := by
  have hcl : ((p.map fun b => Value.int .u8 b.toNat).toArray).size = 512 := by rw [List.size_toArray, List.length_map]; exact hp
  have hcz : (List.replicate (512 - F) (Value.int .u8 0)).length = Nat.min 512 (512 - F) := by rw [List.length_replicate]; exact (Nat.min_eq_right (by omega)).symm
  have hcell : ∀ j v, (List.replicate (512 - F) (Value.int .u8 0))[j]? = some v → ((Y.alloc (.cells (p.map fun b => Value.int .u8 b.toNat).toArray T)).alloc (.cells (madeCells #[.int .u8 0] 512) T5)).drew.cell? ((⟨Y.heap.size + 1, 0, none⟩ : Addr).add j) = some v := fun j v hv => by
    obtain ⟨hj, e⟩ := List.getElem?_eq_some_iff.1 hv
    rw [List.length_replicate] at hj
    rw [List.getElem_replicate] at e
    have ha : (⟨Y.heap.size + 1, 0, none⟩ : Addr).add j = ⟨Y.heap.size + 1, j, none⟩ := by unfold Addr.add; split <;> simp_all
    rw [ha, ← e]
    have hB : Blk ((Y.alloc (.cells (p.map fun b => Value.int .u8 b.toNat).toArray T)).alloc (.cells (madeCells #[.int .u8 0] 512) T5)).drew (Y.heap.size + 1) (madeCells #[.int .u8 0] 512) T5 := (Blk.newAt _ _ (by simp)).drew
    rw [hB.cell]
    exact made_zero j (by omega)
  have := run_copy_row (P := P) ((Y.alloc (.cells (p.map fun b => Value.int .u8 b.toNat).toArray T)).alloc (.cells (madeCells #[.int .u8 0] 512) T5)).drew dT dT ty elem Y.heap.size F (512 - F) (512 - F) ⟨Y.heap.size + 1, 0, none⟩ 512 512 _ T (List.replicate (512 - F) (Value.int .u8 0)) hu hs ((Blk.newAt _ _ rfl).alloc _).drew hcz hcell (by rw [List.length_replicate, hcl]; omega) (fun v hv => by rw [(List.mem_replicate.1 hv).2]; rfl)
  rw [this, setRow_below, List.length_replicate]
  have e : (p.map fun b => Value.int .u8 b.toNat).toArray.toList.take F ++ List.replicate (512 - F) (Value.int .u8 0) ++ (p.map fun b => Value.int .u8 b.toNat).toArray.toList.drop (F + (512 - F)) = (p.take F ++ List.replicate (512 - F) 0).map fun b : UInt8 => Value.int .u8 b.toNat := by
    rw [List.map_append, List.map_take, List.map_replicate, List.drop_of_length_le (by rw [List.length_map, hp]; omega), List.append_nil]
    rfl
  rw [e]
theorem cutN_none {x : Nd} {size : Int} (h : size < x.size) (hg : get (cutPieces x.pieces size) (size / 512) = none) : cutN x size = { x with size := size, pieces := cutPieces x.pieces size } := by
  unfold cutN; rw [if_pos h, hg]
theorem cutN_some {x : Nd} {size : Int} {p : Pc} (h : size < x.size) (hg : get (cutPieces x.pieces size) (size / 512) = some p) : cutN x size = { x with size := size, pieces := put (cutPieces x.pieces size) (size / 512) (p.take (size % 512).toNat ++ List.replicate (512 - (size % 512).toNat) 0) } := by
  unfold cutN; rw [if_pos h, hg]
section
variable {W0 W : World} {L0 L : Lay} {Z : Nat → Prop} {fb : Nat} {n : Int} {nb : Nat} {uv : Value} {vals : List Value} {s : Tree}
/-- The node's size, and what sets it, where pieces alone were turned. -/
theorem cut_tail (h : Now W0 L0 Z fb n nb W L uv vals s) {i : Int} {b : Nat} (ha : Adr L nb i b) (hv : vals.length ≤ 1000000) {y : Nd} (hy : get s i = some y) (size : Int) : W.cell? ⟨b, 2, none⟩ = some (.int .i64 y.size) ∧
    Calls Tryz.prog 89 #[.pointer (some ⟨fb, 0, none⟩), .pointer (some ⟨b, 0, none⟩), .int .i64 size] W fun e W' => e = .returned (.tuple #[]) ∧ After W L uv fb n nb L0 (vals.length + 1) (Adr L nb) (modN s i fun x => { x with size := size }) W' := by
  obtain ⟨hd, hb, _, hgs, _, _⟩ := h.st.node ha
  have hxe : ndOf L hd = y := by rw [hy] at hgs; exact (Option.some.inj hgs).symm
  obtain ⟨_, _, c2, _, _⟩ := node_cells (h.st.sim.is b _ hb).2
  refine ⟨?_, resize_st h.st (by omega) ha size⟩
  rw [c2, ← hxe]; rfl
set_option maxRecDepth 100000 in
set_option maxHeartbeats 8000000 in
theorem cut_less (h : Now W0 L0 Z fb n nb W L uv vals s) (hlen : vals.length ≤ 1000) {i : Int} {b : Nat} (ha : Adr L nb i b) {x : Nd} (hx : get s i = some x) (hk : x.kind = 1) (hok : NdOk x) (hx1 : x.pieces.length ≤ 100000) (hx2 : Whole x.pieces) (size : Int) (hs1 : 0 ≤ size) (hs2 : size ≤ 8459264) (hs3 : size < x.size) :
    Calls Tryz.prog 76 #[.pointer (some ⟨fb, 0, none⟩), .pointer (some ⟨b, 0, none⟩), .int .i64 size] W fun e W' => e = .returned (.int .i64 0) ∧ ∃ L' uv' vals', Now W0 L0 Z fb n nb W' L' uv' vals' (modN s i (cutN · size)) ∧ vals'.length ≤ vals.length + x.pieces.length + 2 ∧ vals' ≠ [] := by
  have hsR : Rising s := by rw [← h.st.st]; exact h.st.wf.st_rising
  obtain ⟨hd, hb, hnd, hgs, _, _⟩ := h.st.node ha
  have hxe : ndOf L hd = x := by rw [hx] at hgs; exact (Option.some.inj hgs).symm
  have hxp : Rising x.pieces := by
    obtain ⟨q, hq⟩ := h.st.wf.file _ _ hb (by have := congrArg Nd.kind hxe; exact this.trans hk)
    obtain ⟨m, hm⟩ := h.st.wf.pm _ _ _ hb hq
    have e0 : (ndOf L hd).pieces = m := by unfold ndOf piecesAt; dsimp only; rw [hq]; dsimp only; rw [hm]
    rw [hxe] at e0
    rw [e0]; exact (h.st.sim.is q _ hm).2.2
  obtain ⟨_, _, c2, _, _⟩ := node_cells (h.st.sim.is b _ hb).2
  have hcz : hd.size = x.size := congrArg Nd.size hxe
  rw [hcz] at c2
  have hbl := (h.st.sim.is b _ hb).1
  have HI := indices_any (h.alloc (.cells #[.pointer (some ⟨b, 0, none⟩)] 61)).st.sim h.st.wf hb (by rw [hxe]; exact hok)
  have hg1 : ¬ (8459264 : Int) < size := by omega
  have Hall := Lib.hid (And.intro hgs (And.intro hxe (And.intro hnd hcz)))
  clear hgs hxe hnd hcz
  go_enter Tryz.func76, Tryz.ntmps76
  go_wp2_with (go_at_call 95; refine HI.mono ?_; rintro e w2 ⟨v2, l, rfl, hrow, hperm, hb2⟩; obtain ⟨ao, c, rfl, hlc⟩ := own_shape2 hrow)
  have Nw0 := (h.alloc (.cells #[.pointer (some ⟨b, 0, none⟩)] 61)).below hb2
  have bx0 : Blk w2 W.heap.size (evP b).cells 61 := (Blk.newAt (W := W) #[.pointer (some ⟨b, 0, none⟩)] 61 rfl).same (hb2.block _ (by simp))
  obtain ⟨L2, N2, hLx, hLk, hLo, hLn⟩ := Nw0.adopt bx0 (h.st.sim.not_mine (Nat.le_refl _)) h.size
  have hb2' := hLk _ _ hb
  have ha2 : Adr L2 nb i b := by unfold Adr; rw [hLn]; exact ha
  have rw2 : OffRow w2 L2 uv 3 (.slice ao l.length c) l.length (Tk.cs l) := by
    refine ⟨⟨_, hrow⟩, fun g e hm => ?_⟩
    have h9 := (hrow.lt g e).1
    rw [World.size_alloc] at h9
    rcases hm with hm | hm
    · rw [hLo g (by omega)] at hm; exact hm (h.st.sim.none_of_ge (by omega))
    · have := h.st.sim.own_lt hm; omega
  obtain ⟨hgs, hxe, hnd, hcz⟩ := Hall
  rw [hxe] at hperm
  have hind : indices x = x.pieces.map (·.1) := by unfold indices; rw [if_pos hk]
  rw [hind] at hperm
  have hkeys : ∀ k ∈ l, ∃ p, (k, p) ∈ x.pieces := fun k hk' => by
    obtain ⟨e, he, rfl⟩ := List.mem_map.1 (hperm.mem_iff.1 hk')
    exact ⟨e.2, he⟩
  have hll : l.length = x.pieces.length := by rw [hperm.length_eq, List.length_map]
  have hin : ∀ e ∈ x.pieces, e.1 ∈ l := fun e he => hperm.mem_iff.2 (List.mem_map.2 ⟨e, he, rfl⟩)
  obtain ⟨q, hq⟩ := h.st.wf.file _ _ hb (by have := congrArg Nd.kind hxe; exact this.trans hk)
  have Hlist := Lib.hid (And.intro hperm (And.intro hkeys (And.intro hin hind)))
  clear hperm hkeys hin hind hgs hxe hnd hcz hb2 hrow Nw0 HI
  have Hll := Lib.hid hll
  have hll1 : l.length ≤ 100000 := by omega
  clear hll
  go_loopw [23] (fun v wr => ∃ (j : Nat) (Lr : Lay) (uvr : Value) (valsr : List Value), v = .int .i64 (j : Int) ∧ j ≤ l.length ∧ Now W0 L0 Z fb n nb wr Lr uvr valsr (modN s i fun y => { y with pieces := cutSome x.pieces size (l.take j) }) ∧ Adr Lr nb i b ∧ Lr W.heap.size = some (.box 61 (evP b)) ∧ OffRow wr Lr uvr 3 (.slice ao l.length c) l.length (Tk.cs l) ∧ valsr.length ≤ vals.length + j) (fun v _ => (l.length - intOf v).toNat)
  case atStart => exact ⟨0, L2, uv, vals, rfl, by omega, by rw [List.take_zero, modN_self hsR hx (by rw [cutSome_nil])]; exact N2, ha2, hLx, rw2, by omega⟩
  case round =>
    rename_i v wr
    obtain ⟨j, Lr, uvr, valsr, rfl, hjl, hN, hA, hBox, hRow, hvl⟩ := hrel
    have hgr : get (modN s i fun y => { y with pieces := cutSome x.pieces size (l.take j) }) i = some { x with pieces := cutSome x.pieces size (l.take j) } := by rw [get_mod, if_pos rfl, hx]; rfl
    obtain ⟨hdr, hbr, hndr, hgsr, _, _⟩ := hN.st.node hA
    have hxr : ndOf Lr hdr = { x with pieces := cutSome x.pieces size (l.take j) } := by rw [hgr] at hgsr; exact (Option.some.inj hgsr).symm
    obtain ⟨qr, hqr⟩ := hN.st.wf.file _ _ hbr (by have := congrArg Nd.kind hxr; exact this.trans hk)
    obtain ⟨m, hm⟩ := hN.st.wf.pm _ _ _ hbr hqr
    have hml : m = cutSome x.pieces size (l.take j) := by
      have e0 : (ndOf Lr hdr).pieces = m := by unfold ndOf piecesAt; dsimp only; rw [hqr]; dsimp only; rw [hm]
      rw [hxr] at e0; exact e0.symm
    have hmlen : m.length ≤ 100000 := by rw [hml]; exact Nat.le_trans (List.length_filter_le _ _) hx1
    obtain ⟨_, _, c2r, c3r, _⟩ := node_cells (hN.st.sim.is b _ hbr).2
    rw [hqr] at c3r
    have hczr : hdr.size = x.size := congrArg Nd.size hxr
    rw [hczr] at c2r
    have hblr := (hN.st.sim.is b _ hbr).1
    have bxr : wr.cell? ⟨W.heap.size, 0, none⟩ = some (.pointer (some ⟨b, 0, none⟩)) := hN.st.sim.box hBox rfl
    have lxr := (hN.st.sim.is _ _ hBox).1
    by_cases hlt : j < l.length
    · have hlti : (j : Int) < (l.length : Int) := by omega
      obtain ⟨k, hkj⟩ : ∃ k, k = l[j] := ⟨_, rfl⟩
      have hcell : ∃ g, ao = some ⟨g, 0, none⟩ ∧ wr.cell? ⟨g, j, none⟩ = some (.int .i64 k) ∧ g < wr.heap.size := by
        obtain ⟨⟨base, hro⟩, _⟩ := hRow
        obtain ⟨g, c', hv, _, hg, _, _, hc, _⟩ := own_at hro (by omega)
        cases hv
        exact ⟨g, rfl, by rw [hc j (by omega), Tk.cs_get l _ (by omega), List.getD_eq_getElem?_getD, List.getElem?_eq_getElem hlt, hkj]; rfl, hg⟩
      obtain ⟨g, rfl, hcj, hgl⟩ := hcell
      have hkl := Hlist
      unfold Hid at hkl
      obtain ⟨hperm, hkeys, _, hind⟩ := hkl
      obtain ⟨p, hpx⟩ := hkeys k (by rw [hkj]; exact List.getElem_mem _)
      have hk1 := (hok.keys _ hpx).1
      have hk2 := (hok.keys _ hpx).2
      dsimp only at hk1 hk2
      have hpl := hx2 _ hpx
      dsimp only at hpl
      have hmul : IntKind.i64.wrap (k * 512) = k * 512 := IntWalk.i64_in _ (by omega)
      have Hx := Lib.hid (And.intro hgr (And.intro hxr (And.intro hml (And.intro hkj (And.intro hperm (And.intro hkeys (And.intro hpx (And.intro hpl (And.intro hgsr (And.intro hndr hczr))))))))))
      clear hgr hxr hml hkj hperm hkeys hind hpx hpl hgsr hndr hczr
      by_cases hge : size ≤ k * 512
      · obtain ⟨ws, hws⟩ : ∃ y, y = (p.map fun b => Value.int .u8 b.toNat) := ⟨_, rfl⟩
        have hwsl : ws.length = 512 := by
          have hh := Hx
          unfold Hid at hh
          rw [hws, List.length_map]; exact hh.2.2.2.2.2.2.2.1
        have hwone : ∀ v ∈ ws, v.oneCell' = true := by rw [hws]; intro v hv; obtain ⟨y, _, rfl⟩ := List.mem_map.1 hv; rfl
        have hgm : get m k = some p := by
          have hh := Hx
          unfold Hid at hh
          obtain ⟨_, hxr, hml, hkj, hperm, _, hpx, _⟩ := hh
          rw [hml]
          exact get_cutSome (hxp.get.2 hpx) (by rw [hkj]; exact nodup_take (keys_nodup hxp hperm) hlt)
        have hz : ∀ w : World, (zeroValue 68).run Tryz.prog w = .ok (.agg (zeroPc.map fun b => Value.int .u8 b.toNat).toArray) w := zPc
        have hzl : ((zeroPc.map fun b => Value.int .u8 b.toNat).toArray).size = 512 := by simp [zeroPc]
        generalize (zeroPc.map fun b => Value.int .u8 b.toNat).toArray = zc at hz hzl
        obtain ⟨X, hX⟩ : ∃ y, y = wr.alloc (.cells #[.int .i64 k] 3) := ⟨_, rfl⟩
        have hMA : MapAt Tryz.prog 3 evPc wr qr m := (hN.st.sim.is qr _ hm).2
        have hqrl := (hN.st.sim.is qr _ hm).1
        have hXq : X.heap[qr]? = wr.heap[qr]? := by rw [hX]; exact ((Below.refl _ _).alloc (Nat.le_refl _) _).block _ hqrl
        have hlook : ∀ w' : World, w'.heap[qr]? = wr.heap[qr]? → (Instr.lookup 62 (.map (some qr)) (.int .i64 k) false).run Tryz.prog w' = .ok (.agg ws.toArray) w' := fun w' hw' => by
          have := (hMA.same hw').look kI Tryz.underlying62 (zPc _) (keyI (i := k) (wfI (by omega) (by omega)))
          rw [this, hgm, hws]; rfl
        have hXs : X.heap.size = wr.heap.size + 1 := by rw [hX]; simp
        have k0 := hlook X.drew hXq
        have k1 := hlook (X.alloc (.cells zc 68)).drew ((((Below.refl X.heap.size X).alloc (Nat.le_refl _) _).block _ (by omega)).trans hXq)
        have st := store_last X 68 zc ws (by rw [hwsl]; exact info_piece) (by rw [hzl, hwsl]) hwone
        have b8 : Blk X wr.heap.size (Value.int .i64 k).cells 3 := by rw [hX]; exact Blk.newAt _ _ rfl
        have x8 : X.cell? ⟨wr.heap.size, 0, none⟩ = some (.int .i64 k) := b8.cell 0
        have xb : X.cell? ⟨W.heap.size, 0, none⟩ = some (.pointer (some ⟨b, 0, none⟩)) := by rw [hX]; exact (((Below.refl wr.heap.size wr).alloc (Nat.le_refl _) _).cell (p := ⟨W.heap.size, 0, none⟩) lxr).trans bxr
        have x3 : X.cell? ⟨b, 3, none⟩ = some (.map (some qr)) := by rw [hX]; exact (((Below.refl wr.heap.size wr).alloc (Nat.le_refl _) _).cell (p := ⟨b, 3, none⟩) hblr).trans c3r
        have l8 : wr.heap.size < X.heap.size := by omega
        have lb : W.heap.size < X.heap.size := by omega
        have l3 : b < X.heap.size := by omega
        -- the world behind the region
        have hbX : Below wr.heap.size wr X := by rw [hX]; exact (Below.refl _ _).alloc (Nat.le_refl _) _
        have NX : Now W0 L0 Z fb n nb X Lr uvr valsr (modN s i fun y => { y with pieces := cutSome x.pieces size (l.take j) }) := by rw [hX]; exact hN.alloc _
        have Hw := Lib.hid (And.intro hws (And.intro hwone (And.intro hgm (And.intro hlook (And.intro hXq (And.intro hXs hzl))))))
        clear hws hwone hgm hlook hXq hXs hzl hMA
        go_upto_region 8 with fail
        rw [← hX]
        clear hX
        go_cut [9] (fun v9 wx => v9 = .pointer (some ⟨X.heap.size, 0, none⟩) ∧ wx = (X.alloc (.cells ws.toArray 68)).drew)
        case first =>
          go_region
          go_wp2_with fail
          go_meet
          case rel => exact ⟨rfl, rfl⟩
        case rest =>
          obtain ⟨rfl, rfl⟩ := hcut
          obtain ⟨hws, hwone, hgm, hlook, hXq, hXs, hzl⟩ := Hw
          have NY := (NX.alloc (.cells ws.toArray 68)).drew
          obtain ⟨Y, hY⟩ : ∃ y, y = (X.alloc (.cells ws.toArray 68)).drew := ⟨_, rfl⟩
          rw [← hY] at NY ⊢
          have b8Y : Blk Y wr.heap.size (Value.int .i64 k).cells 3 := by rw [hY]; exact (b8.alloc _).drew
          have b9Y : Blk Y X.heap.size (evPc p).cells 68 := by rw [hY, evPc_cells, ← hws]; exact (Blk.newAt _ _ rfl).drew
          obtain ⟨L3, N3, h38, h3k, h3o, h3n⟩ := NY.adopt b8Y (hN.st.sim.not_mine (Nat.le_refl _)) hN.size
          obtain ⟨L4, N4, h49, h4k, h4o, h4n⟩ := N3.adopt b9Y (fun e => by
            rcases e with e | e
            · rw [h3o _ (by omega)] at e; exact e (NX.st.sim.none_of_ge (Nat.le_refl _))
            · have := NX.st.sim.own_lt e; omega) NX.size
          have hb4 := h4k _ _ (h3k _ _ hbr)
          have hm4 := h4k _ _ (h3k _ _ hm)
          have hbox4 := h4k _ _ (h3k _ _ hBox)
          have h48 := h4k _ _ h38
          have hA4 : Adr L4 nb i b := by unfold Adr; rw [h4n, h3n]; exact hA
          have hRow4 : OffRow Y L4 uvr 3 (.slice (some ⟨g, 0, none⟩) l.length c) l.length (Tk.cs l) := by
            have hgw : g < wr.heap.size := hgl
            have hbY : Below wr.heap.size wr Y := by rw [hY]; exact (hbX.alloc (by omega) _).drew
            obtain ⟨hr1, hr2⟩ := hRow.below hbY
            refine ⟨hr1, fun g' e hm' => ?_⟩
            have eg : g' = g := by cases e; rfl
            subst eg
            rcases hm' with hm' | hm'
            · rw [h4o _ (by omega), h3o _ (by omega)] at hm'; exact hr2 _ e (.inl hm')
            · exact hr2 _ e (.inr hm')
          have hMA : MapAt Tryz.prog 3 evPc Y qr m := (N4.st.sim.is qr _ hm4).2
          obtain ⟨w', hrun, hi', hg⟩ := hMA.drew.drop kI Tryz.underlying62 (keyI (i := k) (wfI (by omega) (by omega))) 0
          have hqf : qr ≠ fb := by rintro rfl; rw [N4.st.sim.fs] at hm4; cases hm4
          have hqn : qr ≠ nb := by rintro rfl; obtain ⟨y, e⟩ := N4.st.sim.nodes; rw [e] at hm4; cases hm4
          obtain ⟨a1, a2⟩ := N4.st.sim.drew.wrote hm4 hg (r' := .pieces (del m k)) hi' (.inr (.inr ⟨_, rfl, hqn⟩)) hqf
          have y8 : Y.cell? ⟨wr.heap.size, 0, none⟩ = some (.int .i64 k) := N4.st.sim.box h48 rfl
          have yb : Y.cell? ⟨W.heap.size, 0, none⟩ = some (.pointer (some ⟨b, 0, none⟩)) := N4.st.sim.box hbox4 rfl
          obtain ⟨_, _, _, y3, _⟩ := node_cells (N4.st.sim.is b _ hb4).2
          rw [hqr] at y3
          have Hw := Lib.hid (And.intro hws (And.intro hwone (And.intro hgm (And.intro hlook (And.intro hXq (And.intro hXs (And.intro hzl hY)))))))
          clear hws hwone hgm hlook hXq hXs hzl hY hz k0 k1 st x8 xb x3
          go_wp2_with fail
          go_region
          go_wp2_with (go_at_call 79; refine (back_any a1 (by omega) _ _).mono ?_; rintro e w6 ⟨rfl, uv6, s6, t6⟩)
          go_roundw
          case rel =>
            obtain ⟨hws, hwone, hgm, hlook, hXq, hXs, hzl, hY⟩ := Hw
            obtain ⟨hgr, hxr, hml, hkj, hperm, hkeys, hpx, hpl, hgsr, hndr, hczr⟩ := Hx
            have htk : cutSome x.pieces size (l.take (j + 1)) = del m k := by
              rw [List.take_add_one, List.getElem?_eq_getElem hlt, Option.toList_some, ← hkj, cutSome_snoc, if_pos hge, hml]
            obtain ⟨j1, j2, j3⟩ := N4.st.wf.pieces hb4 hqr hm4 (del m k)
            have hmR : Rising m := hMA.2
            have hbq : b ≠ qr := fun e => by rw [e, hm4] at hb4; cases hb4
            have hup : ∀ y r, L4 y = some r → (∀ z, r ≠ .pieces z) → upd L4 qr (.pieces (del m k)) y = some r := fun y r hr hq' => by
              rw [upd_other _ _ (fun e => by rw [e, hm4] at hr; cases hr; exact hq' _ rfl)]; exact hr
            have N6 := N4.note hm4 a2.drew0 s6 t6 (.cut qr b hdr m (del m k) k p X.heap.size W.heap.size wr.heap.size (hup _ _ h49 (fun _ e => by cases e)) (hup _ _ hbox4 (fun _ e => by cases e)) (hup _ _ h48 (fun _ e => by cases e)) (hup _ _ hb4 (fun _ e => by cases e)) hqr hk1 hk2 (by have := length_del_le m k; unfold maxLen; omega) hpl (put_del hmR hgm)) j1 (s' := modN s i fun y => { y with pieces := cutSome x.pieces size (l.take (j + 1)) }) (by
              rw [htk, ← modN_modN s i (fun y => { y with pieces := cutSome x.pieces size (l.take j) }) (fun y => { y with pieces := del m k }), ← N4.st.st]
              refine st_of_at N4.st.wf hA4 (fun y => { y with pieces := del m k }) j2 fun y _ => ?_
              rw [j3])
            have hRow5 := (hRow4.step a2.drew0).step t6
            refine ⟨j + 1, _, uv6, _, by congr 1, by omega, N6, by unfold Adr; rw [j2]; exact hA4, hup _ _ hbox4 (fun _ e => by cases e), hRow5, by simp; omega⟩
          case measure => simp only [intOf]; omega
      · go_wp2_with fail
        go_roundw
        case rel =>
          obtain ⟨hgr, hxr, hml, hkj, hperm, hkeys, hpx, hpl, hgsr, hndr, hczr⟩ := Hx
          have htk : cutSome x.pieces size (l.take (j + 1)) = cutSome x.pieces size (l.take j) := by
            rw [List.take_add_one, List.getElem?_eq_getElem hlt, Option.toList_some, ← hkj, cutSome_snoc, if_neg hge]
          exact ⟨j + 1, Lr, uvr, valsr, by congr 1, by omega, by rw [htk]; exact hN.alloc _, hA, hBox, hRow.alloc _, by omega⟩
        case measure => simp only [intOf]; omega
    · have hjj : j = l.length := by omega
      subst hjj
      have hlti : ¬ ((l.length : Int) < (l.length : Int)) := by omega
      have hml' : m = cutPieces x.pieces size := by
        rw [hml, List.take_of_length_le (Nat.le_refl _)]
        have hh := Hlist
        unfold Hid at hh
        exact cutSome_all _ _ hh.2.2.1
      have hJ : size / 512 = ((size / 512).toNat : Int) := by omega
      obtain ⟨was, hwas⟩ : ∃ y, y = (get m (size / 512)).getD zeroPc := ⟨_, rfl⟩
      obtain ⟨ok, hok'⟩ : ∃ y, y = (get m (size / 512)).isSome := ⟨_, rfl⟩
      have hWm : Whole m := by rw [hml']; exact fun e he => hx2 e (List.mem_filter.1 he).1
      have hwl0 : was.length = 512 := by rw [hwas]; exact hWm.get _
      obtain ⟨ws, hws⟩ : ∃ y, y = (was.map fun b => Value.int .u8 b.toNat) := ⟨_, rfl⟩
      have hwsl : ws.length = 512 := by rw [hws, List.length_map]; exact hwl0
      have hwone : ∀ v ∈ ws, v.oneCell' = true := by rw [hws]; intro v hv; obtain ⟨y, _, rfl⟩ := List.mem_map.1 hv; rfl
      have hMA : MapAt Tryz.prog 3 evPc wr qr m := (hN.st.sim.is qr _ hm).2
      have hlook : (Instr.lookup 62 (.map (some qr)) (.int .i64 (size / 512)) true).run Tryz.prog wr = .ok (.tuple #[.agg ws.toArray, .bool ok]) wr := by
        have := hMA.look_ok kI Tryz.underlying62 (zPc _) (keyI (i := size / 512) (wfI (by omega) (by omega)))
        rw [this, hws, hwas, hok']
        cases get m (size / 512) <;> rfl
      have hz : ∀ w : World, (zeroValue 68).run Tryz.prog w = .ok (.agg (zeroPc.map fun b => Value.int .u8 b.toNat).toArray) w := zPc
      have hzl : ((zeroPc.map fun b => Value.int .u8 b.toNat).toArray).size = 512 := by simp [zeroPc]
      generalize (zeroPc.map fun b => Value.int .u8 b.toNat).toArray = zc at hz hzl
      have hst := run_storeCells_new (P := Tryz.prog) wr 68 zc ws.toArray (by rw [info_piece]; simp [hwsl]) (by rw [hzl]; simp [hwsl]) (by simpa using hwone)
      have hne : (size != x.size) = true := by rw [bne_iff_ne]; omega
      have N8 := hN.alloc (.cells ws.toArray 68)
      have Hx := Lib.hid (And.intro hgr (And.intro hxr (And.intro hml (And.intro hml' (And.intro hgsr (And.intro hndr (And.intro hczr (And.intro hwas (And.intro hws (And.intro hwl0 (And.intro hwone (And.intro hWm hJ))))))))))))
      clear hgr hxr hml hml' hgsr hndr hczr hwas hws hwl0 hwone hJ hMA hWm
      have Hok := Lib.hid hok'
      clear hok'
      cases ok with
      | false =>
        have HR := resize_st N8.st (by omega) hA size
        go_wp2_with (go_at_call 89; refine HR.mono ?_; rintro e w5 ⟨rfl, ha5⟩; obtain ⟨L5, uv5, vals5, N5, T5, l5, n5, adr5⟩ := N8.after ha5)
        go_ret
        obtain ⟨hgr, hxr, hml, hml', hgsr, hndr, hczr, hwas, hws, hwl0, hwone, hWm, hJ⟩ := Hx
        have hgn : get (cutPieces x.pieces size) (size / 512) = none := by
          unfold Hid at Hok
          rw [hml'] at Hok
          cases e : get (cutPieces x.pieces size) (size / 512) with
          | none => rfl
          | some y => rw [e] at Hok; cases Hok
        refine ⟨rfl, L5, uv5, vals5, ?_, by unfold Hid at Hll; omega, n5⟩
        rw [modN_modN, ← hml, hml'] at N5
        rw [modN_congr hsR (f := fun y => cutN y size) (g := fun y => { y with pieces := cutPieces x.pieces size, size := size }) (fun y hy => by rw [hx] at hy; cases hy; exact cutN_none hs3 hgn)]
        exact N5
      | true =>
        have hF : size % 512 = ((size % 512).toNat : Int) := by omega
        have hF2 : (size % 512).toNat < 512 := by omega
        have hsp1 := slice_piece (wr.alloc (.cells ws.toArray 68)).drew wr.heap.size (size % 512).toNat hF2
        have hsp2 := slice_piece ((wr.alloc (.cells ws.toArray 68)).alloc (.cells (madeCells #[.int .u8 0] 512) 5)).drew wr.heap.size (size % 512).toNat hF2
        rw [← hF] at hsp1 hsp2
        have hmk : (Instr.makeSlice 126 (.int .i64 512) (.int .i64 512)).run Tryz.prog (wr.alloc (.cells ws.toArray 68)).drew = .ok (.slice (some ⟨wr.heap.size + 1, 0, none⟩) 512 512) ((wr.alloc (.cells ws.toArray 68)).alloc (.cells (madeCells #[.int .u8 0] 512) 5)).drew := by
          have := make_zeros (wr.alloc (.cells ws.toArray 68)).drew
          rw [show (wr.alloc (.cells ws.toArray 68)).drew.heap.size = wr.heap.size + 1 from by simp] at this
          exact this
        obtain ⟨p2, hp2⟩ : ∃ y, y = was.take (size % 512).toNat ++ List.replicate (512 - (size % 512).toNat) (0 : UInt8) := ⟨_, rfl⟩
        obtain ⟨cs2, hcs2⟩ : ∃ y, y = (p2.map fun b => Value.int .u8 b.toNat) := ⟨_, rfl⟩
        have hcp := fun ty => copy_zeros_any (P := Tryz.prog) wr 126 ty 5 68 5 Tryz.underlying126 (by kernel_rfl) was (by have hh := Hx; unfold Hid at hh; exact hh.2.2.2.2.2.2.2.2.2.1) (size % 512).toNat hF2
        rw [← hp2, ← hcs2, show (was.map fun b => Value.int .u8 b.toNat) = ws from (by have hh := Hx; unfold Hid at hh; exact hh.2.2.2.2.2.2.2.2.1.symm)] at hcp
        have HF := Lib.hid (And.intro hF (And.intro hp2 hcs2))
        clear hF hp2 hcs2
        go_wp2_with fail
        go_region
        obtain ⟨hgr, hxr, hml, hml', hgsr, hndr, hczr, hwas, hws, hwl0, hwone, hWm, hJ⟩ := Hx
        have HF' := HF
        unfold Hid at HF'
        obtain ⟨hF, hp2, hcs2⟩ := HF'
        have hpl2 : p2.length = 512 := by rw [hp2, List.length_append, List.length_take, List.length_replicate]; omega
        have hcl2 : cs2.length = 512 := by rw [hcs2, List.length_map]; exact hpl2
        have hload := load_piece (w := ((wr.alloc (.cells cs2.toArray 68)).alloc (.cells (madeCells #[.int .u8 0] 512) 5)).drew) (x := wr.heap.size) ((Blk.newAt _ _ rfl).alloc _).drew hcl2
        have N9 := ((hN.alloc (.cells cs2.toArray 68)).alloc (.cells (madeCells #[.int .u8 0] 512) 5)).drew
        have HL := lay_st N9.st (by omega) hA (by unfold kindOf; rw [hgr]; exact hk) (fun y hy => by rw [hgr] at hy; cases hy; exact ⟨by dsimp only; rw [← hml]; omega, by dsimp only; rw [← hml]; exact hWm⟩) (size / 512) (by omega) (by omega) p2 hpl2
        rw [show evPc p2 = .agg cs2.toArray by rw [hcs2]; rfl] at HL
        have Hx := Lib.hid (And.intro hgr (And.intro hxr (And.intro hml (And.intro hml' (And.intro hgsr (And.intro hndr (And.intro hczr (And.intro hwas (And.intro hws (And.intro hwl0 (And.intro hwone (And.intro hWm (And.intro hJ (And.intro hF (And.intro hp2 hcs2)))))))))))))))
        clear hgr hxr hml hml' hgsr hndr hczr hwas hws hwl0 hwone hJ hWm hF hp2 hcs2 hcp hsp1 hsp2 hmk hst hz hlook
        go_wp2_with (first | (refine wpList_load_run _ rfl (.tmp 10) 68 rfl _ hload ?_) | (go_at_call 100; refine HL.mono ?_; rintro e w9 ⟨rfl, ha9⟩; obtain ⟨LA, uvA, valsA, NA, lA, nA, adrA, boxA⟩ := N9.after2 ha9; have hAA := adrA _ _ hA; have bxA : w9.cell? ⟨W.heap.size, 0, none⟩ = some (.pointer (some ⟨b, 0, none⟩)) := NA.st.sim.box (boxA _ _ _ hBox) rfl; have tlA := cut_tail NA hAA (by omega) (y := { x with pieces := put (cutSome x.pieces size (l.take l.length)) (size / 512) p2 }) (by rw [get_mod, if_pos rfl, get_mod, if_pos rfl, hx]; rfl) size; obtain ⟨c2A, HRA⟩ := tlA; dsimp only at c2A))
        refine HRA.mono ?_
        rintro e wB ⟨rfl, haB⟩
        obtain ⟨LB, uvB, valsB, NB, TB, lB, nB, adrB⟩ := NA.after haB
        go_wp2_with fail
        go_ret
        obtain ⟨hgr, hxr, hml, hml', hgsr, hndr, hczr, hwas, hws, hwl0, hwone, hWm, hJ, hF, hp2, hcs2⟩ := Hx
        have hgn : get (cutPieces x.pieces size) (size / 512) = some was := by
          unfold Hid at Hok
          rw [hml'] at Hok hwas
          cases e : get (cutPieces x.pieces size) (size / 512) with
          | none => rw [e] at Hok; cases Hok
          | some y => rw [hwas, e]; rfl
        refine ⟨rfl, LB, uvB, valsB, ?_, by unfold Hid at Hll; omega, nB⟩
        rw [modN_modN, modN_modN, ← hml, hml'] at NB
        rw [modN_congr hsR (f := fun y => cutN y size) (g := fun y => { y with pieces := put (cutPieces x.pieces size) (size / 512) p2, size := size }) (fun y hy => by rw [hx] at hy; cases hy; rw [cutN_some hs3 hgn, hp2])]
        exact NB
end
section
variable {W0 W : World} {L0 L : Lay} {Z : Nat → Prop} {fb : Nat} {n : Int} {nb : Nat} {uv : Value} {vals : List Value} {s : Tree}
set_option maxRecDepth 100000 in
set_option maxHeartbeats 4000000 in
theorem cut_st (h : Now W0 L0 Z fb n nb W L uv vals s) (hlen : vals.length ≤ 1000) {i : Int} {b : Nat} (ha : Adr L nb i b) {x : Nd} (hx : get s i = some x) (hk : x.kind = 1) (hok : NdOk x) (hx1 : x.pieces.length ≤ 100000) (hx2 : Whole x.pieces) (size : Int) (hs1 : 0 ≤ size) (hs2 : size ≤ 8459264) :
    Calls Tryz.prog 76 #[.pointer (some ⟨fb, 0, none⟩), .pointer (some ⟨b, 0, none⟩), .int .i64 size] W fun e W' => e = .returned (.int .i64 0) ∧ ∃ L' uv' vals', Now W0 L0 Z fb n nb W' L' uv' vals' (if size = x.size then s else modN s i (cutN · size)) ∧ vals'.length ≤ vals.length + x.pieces.length + 2 ∧ (size ≠ x.size → vals' ≠ []) ∧ (size = x.size → vals'.length ≤ vals.length) := by
  have hsR : Rising s := by rw [← h.st.st]; exact h.st.wf.st_rising
  by_cases hs3 : size < x.size
  · refine (cut_less h hlen ha hx hk hok hx1 hx2 size hs1 hs2 hs3).mono ?_
    rintro e W' ⟨h1, L', uv', vals', h2, h3, h4⟩
    exact ⟨h1, L', uv', vals', by rw [if_neg (by omega)]; exact h2, h3, fun _ => h4, fun e => by omega⟩
  · obtain ⟨c2, HR⟩ := cut_tail (h.alloc (.cells #[.pointer (some ⟨b, 0, none⟩)] 61)) ha (by omega) hx size
    have c2' : W.cell? ⟨b, 2, none⟩ = some (.int .i64 x.size) := (cut_tail h ha (by omega) hx size).1
    obtain ⟨hd0, hb0⟩ := h.st.wf.at ha
    have hbl := (h.st.sim.is b _ hb0).1
    have hg1 : ¬ (8459264 : Int) < size := by omega
    have N1 := h.alloc (.cells #[.pointer (some ⟨b, 0, none⟩)] 61)
    by_cases he : size = x.size
    · rw [if_pos he]
      have hne : (size != x.size) = false := by rw [he]; simp
      have He := Lib.hid he
      clear he
      go_enter Tryz.func76, Tryz.ntmps76
      go_wp2_with fail
      go_ret
      exact ⟨rfl, L, uv, vals, N1, by omega, fun c => absurd He c, fun _ => Nat.le_refl _⟩
    · rw [if_neg he]
      have hne : (size != x.size) = true := by rw [bne_iff_ne]; exact he
      have He := Lib.hid he
      clear he
      go_enter Tryz.func76, Tryz.ntmps76
      go_wp2_with (go_at_call 89; refine HR.mono ?_; rintro e w5 ⟨rfl, ha5⟩; obtain ⟨L5, uv5, vals5, N5, T5, l5, n5, adr5⟩ := N1.after ha5)
      go_ret
      refine ⟨rfl, L5, uv5, vals5, ?_, by omega, fun _ => n5, fun c => absurd c He⟩
      rw [modN_congr hsR (f := fun y => cutN y size) (g := fun y => { y with size := size }) (fun y hy => by rw [hx] at hy; cases hy; unfold cutN; rw [if_neg (by omega)])]
      exact N5
end
end Fs
end Go.Proofs.YtlnnbjgfpiefdaaGreat
