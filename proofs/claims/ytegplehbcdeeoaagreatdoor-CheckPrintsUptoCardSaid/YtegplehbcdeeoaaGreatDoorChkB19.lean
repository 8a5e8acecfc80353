/- The checker goes through an inode's numbers. -/
import Derived.Test.YtegplehbcdeeoaaGreatDoorChkB18
import Derived.Deep.MidRow
namespace Go.Proofs.YtegplehbcdeeoaaGreatDoor
open Go.RowKit Go.Maps

namespace Ck
open Pk Pw
section
variable {W : World} {A : Adr} {G : Gh} {s : St} {N : Nat}
/-- Boxes of the walk's own: the checker, an inode's number, its record. -/
structure Boxes (W : World) (G : Gh) (A : Adr) (nd : Nat) (x : Rc) (b3 b4 b5 : Nat) : Prop where
  c : Blk W b3 #[.pointer (some ⟨A.c, 0, none⟩)] 64
  n : Blk W b4 #[.int .i64 nd] 3
  x : Blk W b5 (recC x) 74
  w3 : G.who b3 = .other
  w4 : G.who b4 = .other
  w5 : G.who b5 = .other
theorem Boxes.step {nd : Nat} {x : Rc} {b3 b4 b5 : Nat} {W' : World} {G' : Gh} (h : Boxes W G A nd x b3 b4 b5) (t : Stp W G W' G') : Boxes W' G' A nd x b3 b4 b5 :=
  ⟨h.c.same (t.block _ h.c.lt h.w3), h.n.same (t.block _ h.n.lt h.w4), h.x.same (t.block _ h.x.lt h.w5), t.who _ h.c.lt h.w3, t.who _ h.n.lt h.w4, t.who _ h.x.lt h.w5⟩
/-- A record that numbers may be met of. -/
structure RcOk (x : Rc) : Prop where
  dir : x.dir.length = 10
  lt : ∀ n ∈ x.all, n < 4294967296
theorem RcOk.size {x : Rc} (h : RcOk x) : x.size < 4294967296 := h.lt _ (by simp [Rc.all])
theorem RcOk.csize {x : Rc} (h : RcOk x) : (recC x).size = 15 := by rw [recC, natC_size]; simp [Rc.all, h.dir]
def own1 (n : Nat) (l : B) (nd : Nat) (x : Rc) (from' : Nat) (s : St) (k i : Nat) : St := ownS n l s nd x.size (from' + k) i
set_option maxRecDepth 100000 in
theorem numbers1_any (h : Sim N W A G s) (hN : N ≤ 900000000000) (x : Rc) (hx : RcOk x) (nd k i b3 b4 b5 : Nat) (hb : Boxes W G A nd x b3 b4 b5) (hnd : nd ≤ 1000000000) (hk : k ≤ 100000) (hi : i < 4294967296) :
    Calls Tryz.prog 64 #[.int .i64 k, .int .i64 i, .pointer (some ⟨b3, 0, none⟩), .pointer (some ⟨b4, 0, none⟩), .pointer (some ⟨b5, 0, none⟩)] W
    fun e W' => e = .returned (.tuple #[]) ∧ ∃ G', Sim (N + 3) W' A G' (own1 A.n A.bytes nd x 10 s k i) ∧ Stp W G W' G' := by
  have HO := own_any h hN x hx.size nd (10 + k) i hnd (by omega) hi
  rw [show ((10 + k : Nat) : Int) = 10 + (k : Int) by omega] at HO
  have hld := load_str (ty := 74) hb.x (by exact Tryz.underlying74) (by rw [hx.csize]; kernel_rfl)
  have c3 := hb.c.cell 0
  have c4 := hb.n.cell 0
  unfold own1
  generalize recC x = C at *
  clear h hb
  go_enter Tryz.func64, Tryz.ntmps64
  go_wp2_with (first | (refine wpList_load_run _ rfl (.tmp 4) 74 rfl _ hld ?_) | (go_at_call 62; refine HO.mono ?_; clear HO; rintro e w1 ⟨rfl, hG⟩))
  go_end0
  exact ⟨rfl, hG⟩
set_option maxRecDepth 100000 in
theorem numbers21_any (h : Sim N W A G s) (hN : N ≤ 900000000000) (x : Rc) (hx : RcOk x) (nd fr k i b3 b4 b5 b7 : Nat) (hb : Boxes W G A nd x b3 b4 b5) (h7 : Blk W b7 #[.int .i64 fr] 3) (hnd : nd ≤ 1000000000) (hfr : fr ≤ 100000) (hk : k ≤ 100000) (hi : i < 4294967296) :
    Calls Tryz.prog 66 #[.int .i64 k, .int .i64 i, .pointer (some ⟨b3, 0, none⟩), .pointer (some ⟨b4, 0, none⟩), .pointer (some ⟨b5, 0, none⟩), .pointer (some ⟨b7, 0, none⟩)] W
    fun e W' => e = .returned (.tuple #[]) ∧ ∃ G', Sim (N + 3) W' A G' (own1 A.n A.bytes nd x fr s k i) ∧ Stp W G W' G' := by
  have HO := own_any h hN x hx.size nd (fr + k) i hnd (by omega) hi
  rw [show ((fr + k : Nat) : Int) = (fr : Int) + (k : Int) by omega] at HO
  have hld := load_str (ty := 74) hb.x (by exact Tryz.underlying74) (by rw [hx.csize]; kernel_rfl)
  have c3 := hb.c.cell 0
  have c4 := hb.n.cell 0
  have c7 := h7.cell 0
  unfold own1
  generalize recC x = C at *
  clear h hb
  go_enter Tryz.func66, Tryz.ntmps66
  go_wp2_with (first | (refine wpList_load_run _ rfl (.tmp 4) 74 rfl _ hld ?_) | (go_at_call 62; refine HO.mono ?_; clear HO; rintro e w1 ⟨rfl, hG⟩))
  go_end0
  exact ⟨rfl, hG⟩
def own2 (n : Nat) (l : B) (nd : Nat) (x : Rc) (s : St) (j i : Nat) : St := tableS n l (own1 n l nd x (138 + 128 * j)) s nd i
set_option maxRecDepth 100000 in
theorem numbers2_any (h : Sim N W A G s) (hN : N ≤ 800000000000) (x : Rc) (hx : RcOk x) (nd j i b3 b4 b5 : Nat) (hb : Boxes W G A nd x b3 b4 b5) (hnd : nd ≤ 1000000000) (hj : j < 128) (hi : i < 4294967296) :
    Calls Tryz.prog 65 #[.int .i64 j, .int .i64 i, .pointer (some ⟨b3, 0, none⟩), .pointer (some ⟨b4, 0, none⟩), .pointer (some ⟨b5, 0, none⟩)] W
    fun e W' => e = .returned (.tuple #[]) ∧ ∃ G', Sim (N + 386) W' A G' (own2 A.n A.bytes nd x s j i) ∧ Stp W G W' G' := by
  have h0 := h.alloc (.cells #[.int .i64 (138 + 128 * j : Nat)] 3)
  have t0 := Stp.of_below (G := G) ((Below.refl _ W).alloc (Nat.le_refl _) (.cells #[.int .i64 (138 + 128 * j : Nat)] 3))
  have hb0 := hb.step t0
  have h7 := Blk.new W #[.int .i64 (138 + 128 * j : Nat)] 3
  have w7 : G.who W.heap.size = .other := h.other_of (.inl (Nat.le_refl _))
  have HT := table3 h0 nd i hi (.pointer (some ⟨b3, 0, none⟩)) (.pointer (some ⟨b4, 0, none⟩)) (.pointer (some ⟨b5, 0, none⟩)) (.pointer (some ⟨W.heap.size, 0, none⟩)) (own1 A.n A.bytes nd x (138 + 128 * j)) 3 (by omega)
    (fun N' W' G' s' k j' hN' hS' hT' hk' hj' => numbers21_any hS' (by omega) x hx nd (138 + 128 * j) k j' b3 b4 b5 W.heap.size (hb0.step hT') (h7.same (hT'.block _ h7.lt w7)) hnd (by omega) (by omega) hj')
  have c3 := hb.c.cell 0
  have c4 := hb.n.cell 0
  have l3 := hb.c.lt
  have l4 := hb.n.lt
  have c3' := hb0.c.cell 0
  have c4' := hb0.n.cell 0
  have hjj := Lib.hid hj
  rw [show ((138 + 128 * j : Nat) : Int) = 138 + 128 * (j : Int) by omega] at HT c3' c4' t0
  unfold own2
  clear h h0 hb hb0 h7
  go_enter Tryz.func65, Tryz.ntmps65
  go_wp2_with (go_at_call 63; refine HT.mono ?_; clear HT; rintro e w1 ⟨rfl, hG⟩)
  go_end0
  obtain ⟨G', k1, k2⟩ := hG
  exact ⟨rfl, G', k1.mono (by omega), t0.trans k2⟩
/-- An inode's numbers. -/
def directS (n : Nat) (l : B) (nd : Nat) (x : Rc) (s : St) (k : Nat) : St := (List.range k).foldl (fun s j => own1 n l nd x 0 s j (x.dir.getD j 0)) s
theorem directS_succ (n : Nat) (l : B) (nd : Nat) (x : Rc) (s : St) (k : Nat) : directS n l nd x s (k + 1) = own1 n l nd x 0 (directS n l nd x s k) k (x.dir.getD k 0) := by
  unfold directS
  rw [List.range_succ, List.foldl_append]
  rfl
def numbersS (n : Nat) (l : B) (nd : Nat) (x : Rc) (s : St) : St :=
  tableS n l (own2 n l nd x) (tableS n l (own1 n l nd x 10) (directS n l nd x s 10) nd x.one) nd x.two
theorem index_10 (w : World) (nums : List Nat) (i v : Nat) (h : nums.length = 10) (hv : nums[i]? = some v) : (Instr.index 72 (.agg (natC nums)) (.int .i64 i)).run Tryz.prog w = .ok (.int .i64 v) w := by
  have hi := (List.getElem?_eq_some_iff.1 hv).1
  have hin : (0 : Int) ≤ i ∧ (i : Int) < 10 := by omega
  have hg : (natC nums)[i]? = some (.int .i64 v) := by rw [natC_get, hv]; rfl
  have hsz : (natC nums).size = 10 := by rw [natC_size, h]
  simp [Instr.index, run_underlying Tryz.underlying72, asIntOf, hin, go_sem, hg]
  intro hge
  omega
theorem load_dir {w : World} {b : Nat} {x : Rc} (hx : RcOk x) (h : Blk w b (recC x) 74) : (Instr.loadAt 72 (.pointer (some ⟨b, 3, none⟩))).run Tryz.prog w = .ok (.agg (natC x.dir)) w := by
  simp only [Instr.loadAt, Instr.sureAddr, Sem.run_bind, Sem.run_pure, Result.andThen]
  refine run_loadVar_mid w b 3 _ (x.dir.map fun n : Nat => Value.int .i64 n) _ ?_ Tryz.underlying72 rfl (by rw [List.length_map, hx.dir]; kernel_rfl)
  intro j v hv
  rw [h.cell]
  unfold recC natC Rc.all
  rw [List.getElem?_map] at hv
  have hj : j < x.dir.length := by
    apply Classical.byContradiction
    intro c
    rw [List.getElem?_eq_none (by omega)] at hv
    cases hv
  simp only [List.getElem?_toArray, List.getElem?_map]
  rw [show 3 + j = j + 1 + 1 + 1 by omega, List.getElem?_cons_succ, List.getElem?_cons_succ, List.getElem?_cons_succ, List.getElem?_append_left hj]
  exact hv
set_option maxRecDepth 100000 in
set_option maxHeartbeats 2000000 in
theorem numbersI_any (h : Sim N W A G s) (hN : N ≤ 700000000000) (x : Rc) (hx : RcOk x) (nd : Nat) (hnd : nd ≤ 1000000000) :
    Calls Tryz.prog 31 #[.pointer (some ⟨A.c, 0, none⟩), .int .i64 nd, .agg (recC x)] W
    fun e W' => e = .returned (.tuple #[]) ∧ ∃ G', Sim (N + 50000) W' A G' (numbersS A.n A.bytes nd x s) ∧ Stp W G W' G' := by
  obtain ⟨W0, hW0⟩ : ∃ W0, ((W.alloc (.cells #[.pointer (some ⟨A.c, 0, none⟩)] 64)).alloc (.cells #[.int .i64 nd] 3)).alloc (.cells (recC x) 74) = W0 := ⟨_, rfl⟩
  have hbl : Below W.heap.size W W0 := by rw [← hW0]; exact (((Below.refl _ _).alloc (Nat.le_refl _) _).alloc (by simp) _).alloc (by simp; omega) _
  have hS0 := h.below hbl
  have hT0 := Stp.of_below (G := G) hbl
  have hB0 : Boxes W0 G A nd x W.heap.size (W.heap.size + 1) (W.heap.size + 1 + 1) := by
    rw [← hW0]
    refine ⟨((Blk.new W _ _).alloc _).alloc _, (Blk.newAt _ _ (by simp)).alloc _, Blk.newAt _ _ (by simp), ?_, ?_, ?_⟩
    all_goals exact h.other_of (.inl (by omega))
  have hld := load_dir hx hB0.x
  have hd10 := hx.dir
  replace hS0 := Lib.hid hS0
  replace hT0 := Lib.hid hT0
  have hB0' := Lib.hid hB0
  unfold numbersS
  obtain ⟨s1, hs1⟩ : ∃ s1, directS A.n A.bytes nd x s 10 = s1 := ⟨_, rfl⟩
  obtain ⟨s2, hs2⟩ : ∃ s2, tableS A.n A.bytes (own1 A.n A.bytes nd x 10) s1 nd x.one = s2 := ⟨_, rfl⟩
  rw [hs1, hs2]
  replace hs1 := Lib.hid hs1
  replace hs2 := Lib.hid hs2
  clear h hbl hB0
  go_enter Tryz.func31, Tryz.ntmps31
  go_wp2_with (refine wpList_load_run _ rfl (.tmp 8) 72 rfl _ hld ?_)
  clear hW0 hld
  go_loopw [10] (fun iv wr => ∃ j : Nat, iv = .int .i64 j ∧ j ≤ 10 ∧ Hid (∃ G3, Sim (N + 3 * j) wr A G3 (directS A.n A.bytes nd x s j) ∧ Stp W0 G wr G3)) (fun iv _ => 10 - (intOf iv).toNat)
  case atStart => exact ⟨0, rfl, Nat.zero_le _, Lib.hid ⟨G, hS0.out, Stp.refl _ _⟩⟩
  case round =>
    obtain ⟨j, rfl, hj, hG⟩ := hrel
    obtain ⟨G3, hS, hT⟩ := hG.out
    have hB := hB0'.out.step hT
    have c3 := hB.c.cell 0
    have c4 := hB.n.cell 0
    by_cases cj : j < 10
    · have hci : (j : Int) < 10 := by omega
      obtain ⟨v, hv⟩ : ∃ v, x.dir[j]? = some v := ⟨_, List.getElem?_eq_getElem (by omega)⟩
      have hix := index_10 wr x.dir j v hd10 hv
      have hvl : v < 4294967296 := hx.lt v (by have := List.mem_of_getElem? hv; simp [Rc.all]; exact .inr (.inr (.inr (.inl this))))
      have HO := own_any hS (by omega) x hx.size nd j v hnd (by omega) hvl
      have hsu := Lib.hid (show directS A.n A.bytes nd x s (j + 1) = ownS A.n A.bytes (directS A.n A.bytes nd x s j) nd x.size j v by
        rw [directS_succ, List.getD_eq_getElem?_getD, hv]
        unfold own1
        rw [Nat.zero_add]; rfl)
      have hld5 := load_str (ty := 74) hB.x (by exact Tryz.underlying74) (by rw [hx.csize]; kernel_rfl)
      have hT' := Lib.hid hT
      generalize recC x = C at *
      clear hS hT hG hB hv
      go_wp2_with (first | (refine wpList_load_run _ rfl (.tmp 5) 74 rfl _ hld5 ?_) | (go_at_call 62; refine HO.mono ?_; clear HO; rintro e w1 ⟨rfl, hG1⟩))
      obtain ⟨G4, k1, k2⟩ := hG1
      refine ⟨⟨j + 1, rfl, by omega, Lib.hid ⟨G4, by rw [hsu.out]; exact k1, hT'.out.trans k2⟩⟩, ?_⟩
      simp only [intOf]; omega
    · obtain rfl : j = 10 := by omega
      have hci : ¬ ((10 : Nat) : Int) < 10 := by omega
      have hl1 : x.one < 4294967296 := hx.lt _ (by simp [Rc.all])
      have hl2 : x.two < 4294967296 := hx.lt _ (by simp [Rc.all])
      have c5 := hB.x.cell 13
      have c6 := hB.x.cell 14
      have e13 : (recC x)[13]? = some (.int .i64 x.one) := by
        unfold recC Rc.all
        rw [natC_get]
        simp only [List.getElem?_cons_succ]
        rw [List.getElem?_append_right (by omega)]
        rw [hd10]; rfl
      have e14 : (recC x)[14]? = some (.int .i64 x.two) := by
        unfold recC Rc.all
        rw [natC_get]
        simp only [List.getElem?_cons_succ]
        rw [List.getElem?_append_right (by omega)]
        rw [hd10]; rfl
      rw [e13] at c5
      rw [e14] at c6
      rw [hs1.out] at hS
      have H1 := table1 hS nd x.one hl1 (.pointer (some ⟨W.heap.size, 0, none⟩)) (.pointer (some ⟨W.heap.size + 1, 0, none⟩)) (.pointer (some ⟨W.heap.size + 1 + 1, 0, none⟩)) (own1 A.n A.bytes nd x 10) 3 (by omega)
        (fun N' W' G' s' k j' hN' hS' hT' hk' hj' => numbers1_any hS' (by omega) x hx nd k j' _ _ _ (hB.step hT') hnd (by omega) hj')
      rw [hs2.out] at H1
      have H2 : ∀ W2 G2, Sim (N + 3 * 10 + 2 + 128 * 3) W2 A G2 s2 → Boxes W2 G2 A nd x W.heap.size (W.heap.size + 1) (W.heap.size + 1 + 1) → _ := fun W2 G2 hS2 hB2 =>
        table2 hS2 nd x.two hl2 (.pointer (some ⟨W.heap.size, 0, none⟩)) (.pointer (some ⟨W.heap.size + 1, 0, none⟩)) (.pointer (some ⟨W.heap.size + 1 + 1, 0, none⟩)) (own2 A.n A.bytes nd x) 386 (by omega)
        (fun N' W' G' s' k j' hN' hS' hT' hk' hj' => numbers2_any hS' (by omega) x hx nd k j' _ _ _ (hB2.step hT') hnd hk' hj')
      have hT' := Lib.hid hT
      have hB' := Lib.hid hB
      replace H2 := Lib.hid H2
      have e14' := Lib.hid e14
      clear hS hT hG hB hs1 hs2 e13 e14 hd10
      go_wp2_with fail
      refine H1.mono ?_
      clear H1
      rintro e w5 ⟨rfl, G5, k1, k2⟩
      have hB5 := hB'.out.step k2
      have d3 := hB5.c.cell 0
      have d4 := hB5.n.cell 0
      have d6 := hB5.x.cell 14
      rw [e14'.out] at d6
      have H3 := H2.out w5 G5 k1 hB5
      have hT5 := Lib.hid (hT0.out.trans (hT'.out.trans k2))
      clear k1 k2 hB5 H2
      go_wp2_with (go_at_call 63; refine H3.mono ?_; clear H3; rintro e w6 ⟨rfl, hG6⟩)
      go_end0
      obtain ⟨G6, k1, k2⟩ := hG6
      exact ⟨rfl, G6, k1.mono (by omega), hT5.out.trans k2⟩
end
end Ck
end Go.Proofs.YtegplehbcdeeoaaGreatDoor
/- How many links an inode must have. -/
namespace Go.Proofs.YtegplehbcdeeoaaGreatDoor
open Go.RowKit Go.Maps

namespace Ck
open Pk Pw
section
variable {W : World} {A : Adr} {G : Gh} {s : St} {N : Nat}
/-- A cell of a row of the checker's own. -/
theorem own_cell {w : World} {base : Nat} {e : TypeId} {k : Nat} {v : Value} {n : Nat} {xs : List Value} (h : w.ownsRow base e k v n xs) (hx : xs ≠ []) : ∃ g cap, v = .slice (some ⟨g, 0, none⟩) n cap ∧ g < w.heap.size ∧ base ≤ g ∧ v.ownBlock = some g ∧ ∀ j u, xs[j]? = some u → w.cell? ⟨g, j, none⟩ = some u := by
  obtain ⟨h1, h2⟩ := h
  rcases h2 with ⟨_, rfl⟩ | ⟨g, cap, cur, rfl, hb, hh, hn, hc, hsz, ht⟩
  · rw [Nat.zero_mul] at h1
    exact absurd (List.eq_nil_of_length_eq_zero h1) hx
  · refine ⟨g, cap, rfl, lt_of_block hh, hb, rfl, fun j u hj => ?_⟩
    rw [← ht] at hj
    have hjl := (List.getElem?_eq_some_iff.1 hj).1
    rw [List.length_take] at hjl
    rw [List.getElem?_take_of_lt (by omega)] at hj
    unfold World.cell?
    rw [hh]
    simpa using hj
theorem clsV_get {l : List Cl} {i : Nat} {c : Cl} (h : l[i]? = some c) : (clsV l)[i * 2]? = some (.string (mk c.1)) ∧ (clsV l)[i * 2 + 1]? = some (.int .i64 c.2) := by
  induction l generalizing i with
  | nil => simp at h
  | cons x t ih =>
    have e : clsV (x :: t) = .string (mk x.1) :: .int .i64 x.2 :: clsV t := rfl
    rw [e]
    cases i with
    | zero => simp at h; subst h; exact ⟨rfl, rfl⟩
    | succ i =>
      have := ih (i := i) (by simpa using h)
      rw [show (i + 1) * 2 = i * 2 + 1 + 1 by omega]
      simp only [List.getElem?_cons_succ]
      exact this
/-- The cells of a directory, where they lie. -/
theorem row_of (h : Sim N W A G s) (k : Nat) : ∃ ao cap, (((G.row k).map fun v => v).getD (.slice none 0 0)) = .slice ao (s.cells k).length cap ∧ (∀ i c, (s.cells k)[i]? = some c → ∃ g, ao = some ⟨g, 0, none⟩ ∧ g < W.heap.size ∧ G.who g = .row k ∧ W.cell? ⟨g, i * 2, none⟩ = some (.string (mk c.1)) ∧ W.cell? ⟨g, i * 2 + 1, none⟩ = some (.int .i64 c.2)) := by
  cases hr : G.row k with
  | none =>
    have := h.rowN k hr
    rw [this]
    exact ⟨none, 0, rfl, fun i c hc => by simp at hc⟩
  | some v =>
    have ho := h.rows k v hr (by simp)
    obtain ⟨ao, cap, rfl⟩ := own_slice_of ho
    refine ⟨ao, cap, rfl, fun i c hc => ?_⟩
    obtain ⟨e1, e2⟩ := clsV_get hc
    obtain ⟨g, cap', hv, hg, _, hob, hcell⟩ := own_cell ho (by intro e; rw [e] at e1; simp at e1)
    cases hv
    exact ⟨g, rfl, hg, h.wRow k _ g hr hob, hcell _ _ e1, hcell _ _ e2⟩
/-- Every record that is there has ten direct numbers, and all its numbers fit. -/
def NodesOk (s : St) : Prop := ∀ i x, s.nodes i = some x → RcOk x
def isDirS (s : St) (i : Nat) : Bool := ((s.nodes i).map (·.kind)).getD 0 == 2
/-- How many links an inode must have. -/
def linksS (s : St) (nd : Nat) (x : Rc) : Nat := if x.kind ≠ 2 then (s.names nd).getD 0 else 2 + ((s.cells nd).filter fun c => isDirS s c.2).length
theorem zvR (w : World) : (zeroValue 74).run Tryz.prog w = .ok (.agg (Array.replicate 15 (.int .i64 0))) w := by kernel_rfl
/-- What the inodes' map answers, written out. -/
theorem look_rec (hno : NodesOk s) (i : Nat) : ∃ r1 r2 r3 r4 r5 r6 r7 r8 r9 r10 r11 r12 r13 r14 : Value, ((s.nodes i).map fun x => Value.agg (recC x)).getD (Value.agg (Array.replicate 15 (.int .i64 0))) = Value.agg #[.int .i64 (((s.nodes i).map (·.kind)).getD 0 : Nat), r1, r2, r3, r4, r5, r6, r7, r8, r9, r10, r11, r12, r13, r14] := by
  cases h : s.nodes i with
  | none => exact ⟨_, _, _, _, _, _, _, _, _, _, _, _, _, _, rfl⟩
  | some x =>
    obtain ⟨k, l, sz, d, o, t⟩ := x
    have hd := (hno i _ h).dir
    dsimp only at hd
    match d, hd with
    | [d0, d1, d2, d3, d4, d5, d6, d7, d8, d9], _ => exact ⟨_, _, _, _, _, _, _, _, _, _, _, _, _, _, rfl⟩
theorem field_kind (w : World) (r1 r2 r3 r4 r5 r6 r7 r8 r9 r10 r11 r12 r13 r14 r0 : Value) : (Instr.field 74 (.agg #[r0, r1, r2, r3, r4, r5, r6, r7, r8, r9, r10, r11, r12, r13, r14]) 0).run Tryz.prog w = .ok r0 w := by
  kernel_rfl
theorem zvS (w : World) : (zeroValue 116).run Tryz.prog w = .ok (.slice none 0 0) w := by kernel_rfl
set_option maxRecDepth 100000 in
set_option maxHeartbeats 2000000 in
theorem links_any (h : Sim N W A G s) (hno : NodesOk s) (x : Rc) (nd : Nat) (hnd : nd ≤ 1000000000) (hcl : ∀ c ∈ s.cells nd, c.2 < 4294967296) (hlc : (s.cells nd).length ≤ 1000000000000) :
    Calls Tryz.prog 70 #[.pointer (some ⟨A.c, 0, none⟩), .int .i64 nd, .agg (recC x)] W
    fun e W' => e = .returned (.int .i64 (linksS s nd x)) ∧ Below W.heap.size W W' := by
  have hX := Blk.new W (recC x) 74
  have h0 := h.alloc (.cells (recC x) 74)
  have hB0 := (Below.refl _ W).alloc (Nat.le_refl _) (.cells (recC x) 74)
  have hk0 := hX.cell 0
  have hk0' : (recC x)[0]? = some (.int .i64 x.kind) := by unfold recC; rw [natC_get]; rfl
  rw [hk0'] at hk0
  obtain ⟨m7, m8, m9, m10, m11, m12, m13⟩ := chk_maps h0
  have hvI : vI nd := by unfold vI; omega
  have hlN := (h0.names (by decide)).look Fs.kI (t := 66) Tryz.underlying66 (zvI _) (x := nd) hvI (kyI hvI)
  have hm : ((s.names nd).map iv).getD (.int .i64 0) = iv ((s.names nd).getD 0) := by cases s.names nd <;> rfl
  rw [hm] at hlN
  have hlC := (h0.cells (by decide)).look Fs.kI (t := 68) Tryz.underlying68 (zvS _) (x := nd) hvI (kyI hvI)
  obtain ⟨ao, cap, hrow, hcells⟩ := row_of h0 nd
  rw [hrow] at hlC
  clear hm hrow
  unfold linksS
  by_cases hkd : x.kind = 2
  · rw [if_neg (by simpa using hkd)]
    have ck : (x.kind : Int) = 2 := by omega
    rw [hkd] at hk0
    generalize recC x = C at *
    generalize hW0 : W.alloc (.cells C 74) = W0 at *
    have hh0 := Lib.hid h0
    clear hlN h h0
    generalize s.cells nd = cl at *
    go_enter Tryz.func70, Tryz.ntmps70
    go_wp2_with (refine wpList_lookup_run _ rfl 68 (.tmp 22) (.tmp 23) false rfl _ hlC ?_)
    clear hW0 hlC
    go_loopw [7, 26] (fun v7 iv wr => ∃ i : Nat, iv = .int .i64 i ∧ i ≤ cl.length ∧ v7 = .int .i64 (2 + ((cl.take i).filter fun c => isDirS s c.2).length : Nat) ∧ Hid (Below W0.heap.size W0 wr)) (fun _ iv _ => cl.length - (intOf iv).toNat)
    case atStart => exact ⟨0, rfl, Nat.zero_le _, rfl, Lib.hid (Below.refl _ _)⟩
    case round =>
      obtain ⟨i, rfl, hi, rfl, hb⟩ := hrel
      by_cases c : i < cl.length
      · have hci : (i : Int) < (cl.length : Int) := by omega
        obtain ⟨e, he⟩ : ∃ e, cl[i]? = some e := ⟨_, List.getElem?_eq_getElem c⟩
        obtain ⟨g, rfl, hg, hgw, e1, e2⟩ := hcells i e he
        have hkeep := hb.out.block g hg
        rw [← World.cell?_of_block (a := ⟨g, i * 2, none⟩) hkeep] at e1
        rw [← World.cell?_of_block (a := ⟨g, i * 2 + 1, none⟩) hkeep] at e2
        have htk : (cl.take (i + 1)).filter (fun c => isDirS s c.2) = (cl.take i).filter (fun c => isDirS s c.2) ++ (if isDirS s e.2 then [e] else []) := by
          rw [List.take_add_one, he, List.filter_append]
          congr 1
          cases hd : isDirS s e.2 <;> simp [hd]
        have hel := hcl e (List.mem_of_getElem? he)
        obtain ⟨nm, ino⟩ := e
        dsimp only at *
        have hS1 := (hh0.out.below hb.out).alloc (.cells #[.string (mk nm), .int .i64 ino] 118)
        obtain ⟨W1, hW1⟩ : ∃ W1, wr.alloc (.cells #[.string (mk nm), .int .i64 ino] 118) = W1 := ⟨_, rfl⟩
        have hB1 := Lib.hid (show Below W0.heap.size W0 W1.drew by rw [← hW1]; exact (hb.out.alloc hb.out.size _).drew)
        have hY := Blk.new wr #[.string (mk nm), .int .i64 ino] 118
        rw [hW1] at hS1 hY
        have y1 := hY.cell 1
        obtain ⟨m7, _⟩ := chk_maps hS1.drew
        have hvI2 : vI ino := by unfold vI; omega
        have hlk := (hS1.drew.nodes (by decide)).look Fs.kI (t := 65) Tryz.underlying65 (zvR _) (x := ino) hvI2 (kyI hvI2)
        obtain ⟨r1, r2, r3, r4, r5, r6, r7, r8, r9, r10, r11, r12, r13, r14, hR⟩ := look_rec hno ino
        rw [hR] at hlk
        have hkd2 : isDirS s ino = (((s.nodes ino).map (·.kind)).getD 0 == 2) := rfl
        generalize ((s.nodes ino).map (·.kind)).getD 0 = kd at *
        generalize isDirS s ino = dd at *
        clear hR
        have hl0 : ((cl.take i).filter fun c => isDirS s c.2).length ≤ 1000000000000 := Nat.le_trans (List.length_filter_le _ _) (by rw [List.length_take]; omega)
        generalize (cl.take i).filter (fun c => isDirS s c.2) = l0 at *
        have htk' := Lib.hid htk
        clear hkeep htk hcells hcl he hb
        have hstn := store_new wr 118 #[.string (mk []), .int .i64 0] #[.string (mk nm), .int .i64 ino] (by kernel_rfl) rfl (by simp [Value.oneCell'])
        rw [hW1] at hstn
        go_wp2_with (refine wpList_store_run _ rfl (.tmp 9) (.tmp 29) 118 rfl _ hstn ?_)
        have hfk := fun w => field_kind w r1 r2 r3 r4 r5 r6 r7 r8 r9 r10 r11 r12 r13 r14 (.int .i64 kd)
        go_still (by kernel_rfl)
        change Exit.then _ _ Exit.normal _ W1.drew
        generalize W1.drew = w3 at *
        by_cases ck2 : kd = 2
        · have ck3 : (kd : Int) = 2 := by omega
          replace htk' := Lib.hid (show (cl.take (i + 1)).filter (fun c => isDirS s c.2) = l0 ++ [(nm, ino)] by rw [htk'.out, hkd2, ck2]; rfl)
          clear hkd2 ck2
          go_wp2_with fail
          go_roundw
          case rel => exact ⟨i + 1, rfl, by omega, by rw [htk'.out]; simp; omega, hB1⟩
          case measure => simp only [intOf]; omega
        · have ck3 : ¬ (kd : Int) = 2 := by omega
          replace htk' := Lib.hid (show (cl.take (i + 1)).filter (fun c => isDirS s c.2) = l0 by rw [htk'.out, hkd2, show (kd == 2) = false by simpa using ck2]; simp)
          clear hkd2 ck2
          go_wp2_with fail
          go_roundw
          case rel => exact ⟨i + 1, rfl, by omega, by rw [htk'.out]; simp, hB1⟩
          case measure => simp only [intOf]; omega
      · obtain rfl : i = cl.length := by omega
        have hci : ¬ (cl.length : Int) < (cl.length : Int) := by omega
        go_wp2_with fail
        go_ret
        exact ⟨rfl, hB0.trans (hb.out.mono hB0.size)⟩
  · rw [if_pos (by simpa using hkd)]
    have ck : ¬ (x.kind : Int) = 2 := by omega
    generalize recC x = C at *
    generalize x.kind = kk at *
    clear hcells hlC h h0
    go_enter Tryz.func70, Tryz.ntmps70
    go_wp2_with (refine wpList_lookup_run _ rfl 66 (.tmp 16) (.tmp 17) false rfl _ hlN ?_)
    go_ret
    exact ⟨rfl, hB0⟩
end
end Ck
end Go.Proofs.YtegplehbcdeeoaaGreatDoor
/- A symbolic link's bytes. -/
namespace Go.Proofs.YtegplehbcdeeoaaGreatDoor
open Go.RowKit Go.Maps

namespace Ck
open Pk Pw
/-- A copy that is known. -/
theorem wpList_copy_run {P : Program} (w : World) {ops : Array Oper} {rest : List Oper} {o : Oper} {a : Act} {Q : Exit → Act → World → Prop}
    (hg : o.guard = none) (dT sT : TypeId) (d s : Operand) (hop : o.op = .call { callee := .builtin .copy, args := #[d, s], argTypes := #[dT, sT] }) (v : Value) (w' : World) (hrun : (Builtin.copy_ #[dT, sT] o.type #[a.eval d, a.eval s]).run P w = .ok v w') (hK : wpList P ops Q rest (a.put o.dst v) w') : wpList P ops Q (o :: rest) a w := by
  refine wpList_plain hg fun K' hK' => ?_
  unfold Oper.wp execOp
  simp only [hop, resolve, invoke, builtin, Sem.run_bind, Sem.run_pure, Result.andThen_ok, List.map_toArray, List.map_cons, List.map_nil, hrun]
  exact hK' _ _ hK
section
variable {W : World} {A : Adr} {G : Gh} {s : St} {N : Nat}
/-- Every block that an inode has at an index is one of the image's. -/
def BlocksOk (n : Nat) (s : St) : Prop := ∀ p i, s.blocks p = some i → i < n
def textOf (l : B) (s : St) (nd k : Nat) : B := match s.blocks (nd, k) with | some i => sub l (512 * i) 512 | none => zs 512
/-- The first k blocks. -/
def textTo (l : B) (s : St) (nd k : Nat) : B := (List.range k).flatMap (textOf l s nd)
/-- The bytes of a symbolic link. -/
def textS (l : B) (s : St) (nd size : Nat) : B := (textTo l s nd ((size + 511) / 512)).take size
theorem textOf_len {l : B} {n : Nat} (hl : l.length = 512 * n) (hb : BlocksOk n s) (nd k : Nat) : (textOf l s nd k).length = 512 := by
  unfold textOf
  cases h : s.blocks (nd, k) with
  | none => exact List.length_replicate
  | some i => exact sub_len (by have := hb _ _ h; omega)
theorem textTo_succ (l : B) (nd k : Nat) : textTo l s nd (k + 1) = textTo l s nd k ++ textOf l s nd k := by
  unfold textTo
  rw [List.range_succ, List.flatMap_append]
  simp
theorem textTo_len {l : B} {n : Nat} (hl : l.length = 512 * n) (hb : BlocksOk n s) (nd k : Nat) : (textTo l s nd k).length = 512 * k := by
  induction k with
  | zero => rfl
  | succ k ih => rw [textTo_succ, List.length_append, ih, textOf_len hl hb]; omega
/-- The first k blocks, zeros behind them. -/
def textUp (l : B) (s : St) (nd m k : Nat) : B := textTo l s nd k ++ zs (512 * (m - k))
theorem textUp_len {l : B} {n : Nat} (hl : l.length = 512 * n) (hb : BlocksOk n s) (nd m k : Nat) (hk : k ≤ m) : (textUp l s nd m k).length = 512 * m := by
  unfold textUp
  rw [List.length_append, textTo_len hl hb]
  have : (zs (512 * (m - k))).length = 512 * (m - k) := List.length_replicate
  omega
theorem zs_split (a b : Nat) : zs (a + b) = zs a ++ zs b := by unfold zs; rw [List.replicate_append_replicate]
theorem textUp_none {l : B} (nd m k : Nat) (hk : k < m) (h : s.blocks (nd, k) = none) : textUp l s nd m (k + 1) = textUp l s nd m k := by
  unfold textUp
  rw [textTo_succ, List.append_assoc]
  congr 1
  unfold textOf
  rw [h, ← zs_split]
  congr 1
  omega
theorem textUp_some {l : B} {n : Nat} (hl : l.length = 512 * n) (hb : BlocksOk n s) (nd m k i : Nat) (hk : k < m) (h : s.blocks (nd, k) = some i) : lay (textUp l s nd m k) (512 * k) (sub l (512 * i) 512) = textUp l s nd m (k + 1) := by
  have h1 := textTo_len hl hb nd k
  have h2 : (sub l (512 * i) 512).length = 512 := sub_len (by have := hb _ _ h; omega)
  unfold lay textUp
  rw [h2, textTo_succ]
  rw [List.take_append_of_le_length (by omega), List.take_of_length_le (by omega)]
  rw [List.drop_append, List.drop_eq_nil_of_le (by omega), List.nil_append, h1]
  have e : textOf l s nd k = sub l (512 * i) 512 := by unfold textOf; rw [h]
  rw [e]
  congr 1
  unfold zs
  rw [List.drop_replicate]
  congr 1
  omega
set_option maxRecDepth 100000 in
theorem block_ex (h : Sim N W A G s) (i : Nat) (hi : i < A.n) : Calls Tryz.prog 109 #[.pointer (some ⟨A.c, 0, none⟩), .int .i64 i] W fun e w' => e = .returned (.slice (some ⟨A.img, 512 * i, none⟩) 512 (A.cap - 512 * i)) ∧ w' = W := by
  obtain ⟨q0, q1, q2, q3, q4, q5, q6⟩ := chk_cells h
  have hc := h.cap
  have hn := h.n2
  have p1 : (0 : Int) ≤ (i : Int) * 512 := by omega
  have p2 : (i : Int) * 512 ≤ ((i : Int) + 1) * 512 := by omega
  have p3 : ((i : Int) + 1) * 512 ≤ (A.cap : Int) := by omega
  have p4 : ((i : Int) * 512).toNat = 512 * i := by omega
  have p5 : (((i : Int) + 1) * 512).toNat = 512 * i + 512 := by omega
  have p6 : ¬ A.cap = 512 * i := by omega
  clear h q1 q2 q3 q4 q5 q6
  go_enter Tryz.func109, Tryz.ntmps109
  go_wp2_with fail
  go_ret
  exact ⟨rfl, rfl⟩
set_option maxRecDepth 100000 in
set_option maxHeartbeats 2000000 in
theorem textI_any (h : Sim N W A G s) (hbo : BlocksOk A.n s) (x : Rc) (hxs : x.size ≤ 8459264) (nd : Nat) (hnd : nd ≤ 1000000000) :
    Calls Tryz.prog 69 #[.pointer (some ⟨A.c, 0, none⟩), .int .i64 nd, .agg (recC x)] W
    fun e W' => e = .returned (.string (mk (textS A.bytes s nd x.size))) ∧ Below W.heap.size W W' := by
  have hsz : (recC x)[2]? = some (.int .i64 x.size) := by unfold recC; rw [natC_get]; rfl
  unfold textS
  generalize x.size = sz at *
  obtain ⟨m, hm⟩ : ∃ m, (sz + 511) / 512 = m := ⟨_, rfl⟩
  rw [hm]
  have hm1 : ((sz : Int) + 512 - 1) / 512 = m := by omega
  have hszm : sz ≤ 512 * m := by omega
  have hmb : m ≤ 20000 := by omega
  clear hm
  obtain ⟨tx, htx⟩ : ∃ tx, (textTo A.bytes s nd m).take sz = tx := ⟨_, rfl⟩
  rw [htx]
  replace htx := Lib.hid htx
  generalize recC x = C at *
  have hMk := make_row (m * 512) (by omega) (W.alloc (.cells C 74))
  rw [show ((m * 512 : Nat) : Int) = (m : Int) * 512 by omega] at hMk
  have hz0 : zs (m * 512) = textUp A.bytes s nd m 0 := by unfold textUp textTo; rw [Nat.sub_zero, Nat.mul_comm]; rfl
  rw [hz0] at hMk
  have hX := (Blk.new W C 74).alloc (.cells (bytesC (textUp A.bytes s nd m 0)) 5)
  have hR := Blk.new (W.alloc (.cells C 74)) (bytesC (textUp A.bytes s nd m 0)) 5
  have x2 := hX.cell 2
  rw [hsz] at x2
  have hB0 := ((Below.refl W.heap.size W).alloc (Nat.le_refl _) (.cells C 74)).alloc (by simp) (.cells (bytesC (textUp A.bytes s nd m 0)) 5)
  have hl := h.len
  have hn2 := h.n2
  have hS := Lib.hid (fun W' (hb : Below W.heap.size W W') => h.below hb)
  rw [alloc_size] at hR
  have hfit := Lib.hid (fun k => textUp_len hl hbo nd m k)
  have hH := Lib.hid (And.intro hX (And.intro hR hB0))
  clear hR hB0 hX h hz0
  go_enter Tryz.func69, Tryz.ntmps69
  go_wp2_with (refine wpList_make_run _ rfl 24 (.tmp 16) (.tmp 16) rfl _ _ hMk ?_)
  go_loopw [21] (fun iv wr => ∃ k : Nat, iv = .int .i64 k ∧ k ≤ m ∧ Hid (Blk wr W.heap.size C 74 ∧ Blk wr (W.heap.size + 1) (bytesC (textUp A.bytes s nd m k)) 5 ∧ Below W.heap.size W wr)) (fun iv _ => m - (intOf iv).toNat)
  case atStart => exact ⟨0, rfl, Nat.zero_le _, hH⟩
  case round =>
    obtain ⟨k, rfl, hk, hR⟩ := hrel
    obtain ⟨hX, hY, hB⟩ := hR.out
    by_cases c : k < m
    · have hci : (k : Int) < (m : Int) := by omega
      have hS1 := hS.out wr hB
      obtain ⟨m7, m8, m9, m10, m11, m12, m13⟩ := chk_maps hS1
      have hvP : vP (nd, k) := ⟨by dsimp only; omega, by dsimp only; omega⟩
      have hlk := (hS1.blocks (by decide)).look_ok kPlace (t := 67) Tryz.underlying67 (zvI wr) (x := (nd, k)) hvP (kyP hvP)
      dsimp only at hlk
      cases hbk : s.blocks (nd, k) with
      | none =>
        rw [hbk] at hlk
        have hnx := Lib.hid (textUp_none (l := A.bytes) nd m k c hbk)
        have hE := Lib.hid (And.intro hX (And.intro hY hB))
        clear hX hY hB hR hS1 hbk
        go_wp2_with (refine wpList_lookup_run _ rfl 67 (.tmp 28) (.tmp 32) true rfl _ hlk ?_)
        refine ⟨⟨k + 1, rfl, by omega, Lib.hid ⟨hE.out.1, by rw [hnx.out]; exact hE.out.2.1, hE.out.2.2⟩⟩, ?_⟩
        simp only [intOf]; omega
      | some i =>
        rw [hbk] at hlk
        have hin := hbo _ _ hbk
        have hnx := Lib.hid (textUp_some hl hbo nd m k i c hbk)
        have hsl : (sub A.bytes (512 * i) 512).length = 512 := sub_len (by omega)
        have hfk := hfit.out k (by omega)
        have hSd : Sim N wr.drew A G s := hS1.drew
        have hBX := block_ex hSd i hin
        have hcp := fun ty => copy_bytes (w := wr.drew) (g := W.heap.size + 1) (o := k * 512) (dLen := m * 512 - k * 512) (dCap := m * 512 - k * 512) (g' := A.img) (o' := 512 * i) (sLen := 512) (sCap := A.cap - 512 * i) (l := textUp A.bytes s nd m k) (x := sub A.bytes (512 * i) 512) 24 24 ty 5 Tryz.underlying24 (by kernel_rfl) hY (by omega) (block_seen hSd i) (by omega)
        have hlay : lay (textUp A.bytes s nd m k) (k * 512) (sub A.bytes (512 * i) 512) = textUp A.bytes s nd m (k + 1) := by rw [Nat.mul_comm k 512]; exact hnx.out
        rw [hlay, hsl] at hcp
        have hE := Lib.hid (show Blk (wr.drew.setRow (W.heap.size + 1) (bytesC (textUp A.bytes s nd m (k + 1)))) W.heap.size C 74 ∧ Blk (wr.drew.setRow (W.heap.size + 1) (bytesC (textUp A.bytes s nd m (k + 1)))) (W.heap.size + 1) (bytesC (textUp A.bytes s nd m (k + 1))) 5 ∧ Below W.heap.size W (wr.drew.setRow (W.heap.size + 1) (bytesC (textUp A.bytes s nd m (k + 1)))) from
          ⟨(show Blk wr.drew W.heap.size C 74 from hX).same (setRow_heap _ _ _ _ (by omega)), Blk.setRow (w := wr.drew) hY _, below_setRow hB.drew (by omega) _⟩)
        have a1 : (0 : Int) ≤ (k : Int) * 512 := by omega
        have a2 : (k : Int) * 512 ≤ (m : Int) * 512 := by omega
        have a3 : ((k : Int) * 512).toNat = k * 512 := by omega
        have a4 : IntKind.i64.wrap ((k : Int) * 512) = (k : Int) * 512 := IntWalk.i64_in _ (by omega)
        have a5 : ¬ m * 512 = k * 512 := by omega
        clear hX hY hB hR hS1 hbk hSd hfk hsl hlay
        go_wp2_with (refine wpList_lookup_run _ rfl 67 (.tmp 28) (.tmp 32) true rfl _ hlk ?_)
        refine wp_region_still_tail 7 (by kernel_rfl) (by kernel_rfl) ?_
        simp only [List.take_succ_cons, List.take_zero, List.drop_succ_cons, List.drop_zero]
        repeat still_step
        still_call hBX
        repeat still_step
        refine wpStill_nil ?_
        change wpList _ _ _ _ _ wr.drew
        refine wpList_copy_run _ rfl 24 24 (.tmp 39) (.tmp 42) rfl _ _ (hcp _) ?_
        go_wp2_with fail
        refine ⟨⟨k + 1, rfl, by omega, hE⟩, ?_⟩
        simp only [intOf]; omega
    · obtain rfl : k = m := by omega
      have hci : ¬ (k : Int) < (k : Int) := by omega
      have hlT := textTo_len hl hbo nd k
      have x2' := hX.cell 2
      rw [hsz] at x2'
      have hup : textUp A.bytes s nd k k = textTo A.bytes s nd k := by unfold textUp; rw [Nat.sub_self]; simp [zs]
      rw [hup] at hY
      have hsn : SeenAt wr (W.heap.size + 1) 0 ((textTo A.bytes s nd k).take sz) := fun j c hj => by
        have hjl := (List.getElem?_eq_some_iff.1 hj).1
        rw [List.length_take] at hjl
        rw [List.getElem?_take_of_lt (by omega)] at hj
        exact SeenAt.of_blk hY j c hj
      have htl : ((textTo A.bytes s nd k).take sz).length = sz := by rw [List.length_take]; omega
      have hcv := string_at (cap := k * 512) hsn
      rw [htl] at hcv
      rw [htx.out] at hcv
      have b1 : (sz : Int) ≤ (k : Int) * 512 := by omega
      have hB' := Lib.hid hB
      clear hX hY hB hR hsn htl hup hlT
      go_wp2_with fail
      go_ret
      exact ⟨rfl, hB'.out⟩
end
end Ck
end Go.Proofs.YtegplehbcdeeoaaGreatDoor
