/- The statement RamCopies, proved: behind any calls a copy is the same; what is done to the one the other does not see; done to both, both are the same; the law answers true, and what came in reads as it did. No condition. -/
import Derived.Test.YtlnnbjgfpiefdaaGreatRamC01
import Derived.Test.YtlnnbjgfpiefdaaGreatRamV01
import Derived.Deep.RegionHeld3
import Derived.Deep.DeepCutAuto
import Derived.Deep.CutBlock
import Derived.Test.YtlnnbjgfpiefdaaGreatRamB41
import Derived.Test.YtlnnbjgfpiefdaaGreatRows
/- Two file systems side by side in one world. -/
namespace Go.Proofs.YtlnnbjgfpiefdaaGreat
open Go.RowKit Go.Maps Go.Shelf

namespace Fs
/-- The blocks of two. -/
def MM (La Lb : Lay) (x : Nat) : Prop := Mine La (.slice none 0 0) x ∨ Mine Lb (.slice none 0 0) x
theorem MM_comm (La Lb : Lay) : MM La Lb = MM Lb La := funext fun _ => propext Or.comm
/-- A row of things beside blocks. -/
def RowX (w : World) (X : Nat → Prop) (v : Value) (l : List Thing) : Prop := (∃ base, w.ownsRow base 34 7 v l.length (thsC l)) ∧ ∀ g, v.ownBlock = some g → ¬ X g
def BlkX (w : World) (X : Nat → Prop) (b : Nat) (xs : Array Value) (t : TypeId) : Prop := Blk w b xs t ∧ ¬ X b
section
variable {w w' : World} {X X' : Nat → Prop}
theorem RowX.step {v : Value} {l : List Thing} (h : RowX w X v l) (hs : Step w X w' X') : RowX w' X' v l := by
  obtain ⟨⟨base, hb⟩, hg⟩ := h
  exact ⟨⟨base, row_same hb fun g e => (hs.block g (hb.lt g e).2 (hg g e)).1⟩, fun g e => (hs.block g (hb.lt g e).2 (hg g e)).2⟩
theorem BlkX.step {b : Nat} {xs : Array Value} {t : TypeId} (h : BlkX w X b xs t) (hs : Step w X w' X') : BlkX w' X' b xs t :=
  ⟨h.1.same (hs.block b h.1.lt h.2).1, (hs.block b h.1.lt h.2).2⟩
end
/-- Two file systems of n blocks, apart. -/
structure Go2 (W : World) (n : Int) (fa na : Nat) (La : Lay) (s : Tree) (fb nb : Nat) (Lb : Lay) (t : Tree) (w : World) : Prop where
  a : Go0 W fa n na s w La
  b : Go0 W fb n nb t w Lb
  ab : ∀ x, Mine La (.slice none 0 0) x → ¬ Mine Lb (.slice none 0 0) x
section
variable {W w w' : World} {n : Int} {fa na fb nb : Nat} {s s' t : Tree} {La La' Lb : Lay} {k : Nat}
theorem Go2.symm (h : Go2 W n fa na La s fb nb Lb t w) : Go2 W n fb nb Lb t fa na La s w := ⟨h.b, h.a, fun x hb ha => h.ab x ha hb⟩
theorem Go2.lt (h : Go2 W n fa na La s fb nb Lb t w) {x : Nat} (hx : MM La Lb x) : x < w.heap.size := by
  rcases hx with e | e
  · exact h.a.sim.mine_lt e
  · exact h.b.sim.mine_lt e
theorem Go2.grow (h : Go2 W n fa na La s fb nb Lb t w) (hb : Below w.heap.size w w') : Go2 W n fa na La s fb nb Lb t w' := ⟨h.a.grow hb, h.b.grow hb, h.ab⟩
theorem Go2.stepA (h : Go2 W n fa na La s fb nb Lb t w) (G : Go0 W fa n na s' w' La') (T : Step w (Mine La (.slice none 0 0)) w' (Mine La' (.slice none 0 0))) :
    Go2 W n fa na La' s' fb nb Lb t w' ∧ Step w (MM La Lb) w' (MM La' Lb) := by
  refine ⟨⟨G, ⟨h.b.sim.apart T fun x hx hm => h.ab x hm hx, h.b.wf, h.b.st, h.b.own, G.below⟩, fun x ha hb => ?_⟩, T.os, T.tape, T.output, T.size, fun x hx hm => ?_⟩
  · exact (T.block x (h.b.sim.mine_lt hb) (fun hm => h.ab x hm hb)).2 ha
  · obtain ⟨h1, h2⟩ := T.block x hx (fun e => hm (.inl e))
    exact ⟨h1, fun e => e.elim h2 fun e => hm (.inr e)⟩
/-- The copy. -/
theorem copy_go (h : Go0 W fa n na s w La) (hI : Inv n k s) (hk : k ≤ 300) (hn2 : n ≤ 16384) :
    Calls Tryz.prog 14 #[.pointer (some ⟨fa, 0, none⟩)] w fun e w' => ∃ fb nb Lb, e = .returned (.pointer (some ⟨fb, 0, none⟩)) ∧ Go2 W n fa na La s fb nb Lb s w' := by
  have hst := h.st
  have hlen : (nodesOf La na).length ≤ 1000000 := by
    have : (stOf La na).length ≤ 1000000 := by rw [hst]; have := hI.len; omega
    unfold stOf at this; rw [List.length_map] at this; exact this
  have hkey : ∀ p ∈ nodesOf La na, 0 ≤ p.1 ∧ p.1 ≤ 1000000 := fun p hp => by
    have ha := Adr.st (h.wf.rising.get.2 hp)
    rw [hst] at ha
    have := hI.keys _ _ ha
    unfold countOf at this
    omega
  refine (copy_st h.sim h.wf hlen hkey).mono ?_
  rintro e w' ⟨gb, nb2, L2, rfl, S, F, st, hge, hB⟩
  refine ⟨gb, nb2, L2, rfl, h.grow hB, ⟨S, F, st.trans hst, fun b hb => ?_, (h.grow hB).below⟩, fun x ha hb => ?_⟩
  · rcases hb with e | e
    · have := hge b e; have := h.below.size; omega
    · cases e
  · have h1 := h.sim.mine_lt ha
    rcases hb with e | e
    · have := hge x e; omega
    · cases e
theorem whole_goA (h : Go2 W n fa na La s fb nb Lb t w) (hI : Inv n k s) (hk : k ≤ 300) (hn1 : 128 ≤ n) (hn2 : n ≤ 16384) :
    Calls Tryz.prog 8 #[.pointer (some ⟨fa, 0, none⟩)] w fun e w' => ∃ La' v', e = .returned (.tuple #[v', .bool true]) ∧ Go2 W n fa na La' s fb nb Lb t w' ∧ RowX w' (MM La' Lb) v' (things s) ∧ Step w (MM La Lb) w' (MM La' Lb) := by
  have hst := h.a.st
  refine (whole_st h.a.sim h.a.wf (by rw [hst]; exact hI) hk hn1 hn2).mono ?_
  rintro e w' ⟨L', v', rfl, B, T⟩
  have T' := T.weak (Y' := Mine L' (.slice none 0 0)) fun b hb => .inl hb
  rw [hst] at B
  obtain ⟨G', T2⟩ := h.stepA (h.a.step B.sim B.wf B.st T') T'
  refine ⟨L', v', rfl, G', ⟨⟨_, B.row⟩, fun g hg hm => ?_⟩, T2⟩
  rcases hm with e | e
  · exact B.off g hg e
  · have := h.b.sim.mine_lt e
    have := (B.row.lt g hg).1
    omega
theorem room_goA (h : Go2 W n fa na La s fb nb Lb t w) (hI : Inv n k s) (hk : k ≤ 300) (hn1 : 128 ≤ n) (hn2 : n ≤ 16384) :
    Calls Tryz.prog 9 #[.pointer (some ⟨fa, 0, none⟩)] w fun e w' => ∃ La', e = .returned (.agg (roomC (roomN n s))) ∧ Go2 W n fa na La' s fb nb Lb t w' ∧ Step w (MM La Lb) w' (MM La' Lb) := by
  refine (room_go0 h.a hI hk hn1 hn2).mono ?_
  rintro e w' ⟨L', rfl, G, T⟩
  obtain ⟨G', T2⟩ := h.stepA G T
  exact ⟨L', rfl, G', T2⟩
theorem do_goA (h : Go2 W n fa na La s fb nb Lb t w) (hI : Inv n k s) (hk : k ≤ 300) (hn1 : 128 ≤ n) (hn2 : n ≤ 16384) (c : Call) (hc : CallOk c) :
    Calls Tryz.prog 11 #[.pointer (some ⟨fa, 0, none⟩), .agg (callC c)] w fun e w' => ∃ La' v', e = .returned v' ∧ Go2 W n fa na La' (doC n s c).1 fb nb Lb t w' ∧ Step w (MM La Lb) w' (MM La' Lb) := by
  refine (do_go0 h.a hI hk hn1 hn2 c hc).mono ?_
  rintro e w' ⟨L', nv, rfl, G, _, _, T⟩
  obtain ⟨G', T2⟩ := h.stepA G T
  exact ⟨L', _, rfl, G', T2⟩
/-- The other one's. -/
theorem whole_goB (h : Go2 W n fa na La s fb nb Lb t w) (hI : Inv n k t) (hk : k ≤ 300) (hn1 : 128 ≤ n) (hn2 : n ≤ 16384) :
    Calls Tryz.prog 8 #[.pointer (some ⟨fb, 0, none⟩)] w fun e w' => ∃ Lb' v', e = .returned (.tuple #[v', .bool true]) ∧ Go2 W n fa na La s fb nb Lb' t w' ∧ RowX w' (MM La Lb') v' (things t) ∧ Step w (MM La Lb) w' (MM La Lb') := by
  refine (whole_goA h.symm hI hk hn1 hn2).mono ?_
  rintro e w' ⟨L', v', rfl, G, R, T⟩
  rw [MM_comm L' La] at R T
  rw [MM_comm Lb La] at T
  exact ⟨L', v', rfl, G.symm, R, T⟩
theorem room_goB (h : Go2 W n fa na La s fb nb Lb t w) (hI : Inv n k t) (hk : k ≤ 300) (hn1 : 128 ≤ n) (hn2 : n ≤ 16384) :
    Calls Tryz.prog 9 #[.pointer (some ⟨fb, 0, none⟩)] w fun e w' => ∃ Lb', e = .returned (.agg (roomC (roomN n t))) ∧ Go2 W n fa na La s fb nb Lb' t w' ∧ Step w (MM La Lb) w' (MM La Lb') := by
  refine (room_goA h.symm hI hk hn1 hn2).mono ?_
  rintro e w' ⟨L', rfl, G, T⟩
  rw [MM_comm L' La, MM_comm Lb La] at T
  exact ⟨L', rfl, G.symm, T⟩
theorem do_goB (h : Go2 W n fa na La s fb nb Lb t w) (hI : Inv n k t) (hk : k ≤ 300) (hn1 : 128 ≤ n) (hn2 : n ≤ 16384) (c : Call) (hc : CallOk c) :
    Calls Tryz.prog 11 #[.pointer (some ⟨fb, 0, none⟩), .agg (callC c)] w fun e w' => ∃ Lb' v', e = .returned v' ∧ Go2 W n fa na La s fb nb Lb' (doC n t c).1 w' ∧ Step w (MM La Lb) w' (MM La Lb') := by
  refine (do_goA h.symm hI hk hn1 hn2 c hc).mono ?_
  rintro e w' ⟨L', v', rfl, G, T⟩
  rw [MM_comm L' La, MM_comm Lb La] at T
  exact ⟨L', v', rfl, G.symm, T⟩
end
/-- Calls in a row. -/
def runs (n : Int) (s : Tree) (l : List Call) : Tree := l.foldl (fun s c => (doC n s c).1) s
theorem runs_more (n : Int) (s : Tree) (l : List Call) {j : Nat} {c : Call} (h : l[j]? = some c) : runs n s (l.take (j + 1)) = (doC n (runs n s (l.take j)) c).1 := by
  obtain ⟨hj, he⟩ := List.getElem?_eq_some_iff.1 h
  unfold runs
  rw [List.take_succ_eq_append_getElem hj, List.foldl_append, he]
  rfl
theorem neq_room (w : World) (a b c d : Int) : (binOp .neq 29 (.agg #[.int .i64 a, .int .i64 b, .int .i64 c, .int .i64 d]) (.agg #[.int .i64 a, .int .i64 b, .int .i64 c, .int .i64 d])).run Tryz.prog w = .ok (.bool false) w := by
  simp [go_sem]
end Fs
end Go.Proofs.YtlnnbjgfpiefdaaGreat
/- RamCopies: what is done to a copy, or to what it was copied from, the other does not see; done to both, both are alike. -/
namespace Go.Proofs.YtlnnbjgfpiefdaaGreat
open Go.RowKit Go.Maps Go.Shelf

namespace Fs
theorem runs_inv {n : Int} (hn1 : 128 ≤ n) (hn2 : n ≤ 16384) : ∀ (l : List Call) {k : Nat} {s : Tree}, Inv n k s → Roomy n s → k + l.length ≤ 1000 → Inv n (k + l.length) (runs n s l) ∧ Roomy n (runs n s l)
  | [], k, s, hI, hR, _ => ⟨hI, hR⟩
  | c :: l, k, s, hI, hR, hk => by
    rw [List.length_cons] at hk ⊢
    obtain ⟨h1, h2⟩ := do_inv hI hR (by omega) hn1 hn2 c
    have := runs_inv hn1 hn2 l h1 h2 (by omega)
    rw [show k + (l.length + 1) = k + 1 + l.length by omega]
    exact this
theorem runs_take {n : Int} (hn1 : 128 ≤ n) (hn2 : n ≤ 16384) (l : List Call) (j : Nat) {k : Nat} {s : Tree} (hI : Inv n k s) (hR : Roomy n s) (hk : k + j ≤ 1000) : Inv n (k + j) (runs n s (l.take j)) ∧ Roomy n (runs n s (l.take j)) := by
  have hl : (l.take j).length ≤ j := List.length_take_le _ _
  obtain ⟨h1, h2⟩ := runs_inv hn1 hn2 (l.take j) hI hR (by omega)
  exact ⟨h1.mono (by omega), h2⟩
theorem take_all {l : List Call} {j : Nat} (hj : j ≤ 30) (h : l.length ≤ j ∨ j = 30) : l.take j = l.take 30 := by
  rcases h with h | h
  · rw [List.take_of_length_le h, List.take_of_length_le (by omega)]
  · rw [h]
section
variable {W : World}
set_option maxRecDepth 100000 in
set_option maxHeartbeats 16000000 in
theorem copies_any (v : Int) (l : List Call) (ao : Option Addr) (cap : Nat) (m : List Call) (bo : Option Addr) (bcap : Nat) (hl : CallsAt W ao l) (hcl : ∀ c ∈ l, CallOk c) (hm : CallsAt W bo m) (hcm : ∀ c ∈ m, CallOk c) :
    Calls Tryz.prog 6 #[.int .i64 v, .slice ao l.length cap, .slice bo m.length bcap] W fun e W' => e = .returned (.bool true) ∧ Below W.heap.size W W' := by
  have HM := made_go0 v l ao cap hl hcl
  go_enter Tryz.func6, Tryz.ntmps6
  go_wp2_with fail
  refine HM.mono ?_
  rintro e w1 ⟨fa, n, na, L1, k, rfl, G1, hI, hR, hk, h1, h2⟩
  clear HM
  generalize stOf L1 na = s at *
  have HC := copy_go G1 hI (by omega) h2
  clear G1
  go_wp2_with fail
  refine HC.mono ?_
  clear HC
  rintro e w2 ⟨fb, nb, Lb, rfl, G2⟩
  have HW := whole_goA G2 hI (by omega) h1 h2
  clear G2
  go_wp2_with fail
  refine HW.mono ?_
  clear HW
  rintro e w3 ⟨La3, v3, rfl, G3, r3, T3⟩
  clear T3
  have HR := room_goA G3 hI (by omega) h1 h2
  have HG := Lib.hid r3
  clear G3 r3
  go_wp2_with fail
  refine HR.mono ?_
  clear HR
  rintro e w4 ⟨La4, rfl, G4, T4⟩
  have r4 : RowX w4 (MM La4 Lb) v3 (things s) := RowX.step HG T4
  obtain ⟨Y4, hs4, bb4, hy4, hz4⟩ := put_room (w := w4) (cs := roomC (roomN n s)) rfl (by simp [roomC, Value.oneCell'])
  have HG := Lib.hid (show Go2 W n fa na La4 s fb nb Lb s Y4 ∧ RowX Y4 (MM La4 Lb) v3 (things s) ∧ BlkX Y4 (MM La4 Lb) w4.heap.size (roomC (roomN n s)) 29 from ⟨G4.grow hy4, r4.step (Step.of_below hy4), ⟨bb4, fun hm => by have := G4.lt hm; omega⟩⟩)
  unfold roomC at hs4 ⊢
  clear G4 r4 T4 bb4 hy4 hz4
  go_upto_block 0 with (refine wpList_store_run _ rfl (.tmp 11) (.tmp 35) 29 rfl Y4 hs4 ?_)
  clear hs4
  go_cut [12] (fun _ wx => ∃ La, Go2 W n fa na La (runs n s (m.take 30)) fb nb Lb s wx ∧ RowX wx (MM La Lb) v3 (things s) ∧ BlkX wx (MM La Lb) w4.heap.size (roomC (roomN n s)) 29)
  case first =>
    go_wp2_with fail
    go_loopw [12] (fun iv wr => ∃ (j : Nat) (o : Int), iv = .int .i64 o ∧ Hid (o = (j : Int)) ∧ j ≤ 30 ∧ Hid (∃ La, Go2 W n fa na La (runs n s (m.take j)) fb nb Lb s wr ∧ RowX wr (MM La Lb) v3 (things s) ∧ BlkX wr (MM La Lb) w4.heap.size (roomC (roomN n s)) 29)) (fun iv _ => (30 - intOf iv).toNat)
    case atStart => exact ⟨0, 0, rfl, rfl, by omega, ⟨_, HG⟩⟩
    case round =>
      obtain ⟨j, o, rfl, ho, hj, HGj⟩ := hrel
      have ho' : o = (j : Int) := ho
      by_cases c1 : o < (m.length : Int)
      · by_cases c2 : o < 30
        · have hjl : j < m.length := by omega
          obtain ⟨c, hcj⟩ : ∃ c, m[j]? = some c := ⟨_, List.getElem?_eq_getElem hjl⟩
          obtain ⟨g, oo, rfl, hg, hcells⟩ := hm j c hcj
          obtain ⟨Lr, Gr, rr, obr⟩ := HGj
          have hload := loadC (w := wr) (g := g) (o := oo + j * 6) (c := c) (fun i v hv => (Gr.a.below.cell (p := ⟨g, oo + j * 6 + i, none⟩) hg).trans (by rw [Nat.add_assoc]; exact hcells i v hv))
          have HD := do_goA Gr (runs_take h1 h2 m j hI hR (by omega)).1 (by omega) h1 h2 c (hcm c (List.mem_of_getElem? hcj))
          rw [← runs_more n s m hcj] at HD
          have ht : o.toNat = j := by omega
          have hc0 : 0 ≤ o := by omega
          have hwr2 : IntKind.i64.wrap (o + 1) = o + 1 := IntWalk.i64_in _ (by omega)
          have HX := Lib.hid (And.intro rr obr)
          clear Gr ho' hjl hcj hcells rr obr
          unfold callC at hload HD
          go_wp2_with (refine wpList_load_run _ rfl (.tmp 49) 38 rfl _ hload ?_)
          refine HD.mono ?_
          rintro e w6 ⟨L6, nv6, rfl, G6, T6⟩
          have HE : Hid (∃ La, Go2 W n fa na La (runs n s (m.take (j + 1))) fb nb Lb s w6 ∧ RowX w6 (MM La Lb) v3 (things s) ∧ BlkX w6 (MM La Lb) w4.heap.size (roomC (roomN n s)) 29) := ⟨L6, G6, HX.1.step T6, HX.2.step T6⟩
          clear G6 T6 HD
          go_wp2_with fail
          go_roundw
          case rel =>
            have ho' : o = (j : Int) := ho
            exact ⟨j + 1, o + 1, rfl, (by show o + 1 = ((j + 1 : Nat) : Int); omega), by omega, HE⟩
          case measure => simp only [intOf]; omega
        · have HE : Hid (∃ La, Go2 W n fa na La (runs n s (m.take 30)) fb nb Lb s wr ∧ RowX wr (MM La Lb) v3 (things s) ∧ BlkX wr (MM La Lb) w4.heap.size (roomC (roomN n s)) 29) := by rw [← take_all (l := m) (j := j) hj (.inr (by omega))]; exact HGj
          clear ho'
          go_wp2_with fail
          go_meet
          exact HE
      · have HE : Hid (∃ La, Go2 W n fa na La (runs n s (m.take 30)) fb nb Lb s wr ∧ RowX wr (MM La Lb) v3 (things s) ∧ BlkX wr (MM La Lb) w4.heap.size (roomC (roomN n s)) 29) := by rw [← take_all (l := m) (j := j) hj (.inl (by omega))]; exact HGj
        clear ho'
        go_wp2_with fail
        go_meet
        exact HE
  clear HG
  obtain ⟨La5, G5, r5, ob5⟩ := hcut
  have HI5 := runs_take h1 h2 m 30 hI hR (by omega)
  obtain ⟨s5, hs5⟩ : ∃ x, x = runs n s (m.take 30) := ⟨_, rfl⟩
  rw [← hs5] at G5 HI5
  have HW := whole_goB G5 hI (by omega) h1 h2
  have HG := Lib.hid (And.intro r5 ob5)
  clear G5 r5 ob5
  go_wp2_with fail
  refine HW.mono ?_
  clear HW
  rintro e w6 ⟨Lb6, v6, rfl, G6, r6, T6⟩
  have ra6 : RowX w6 (MM La5 Lb6) v3 (things s) := RowX.step HG.1 T6
  have ob6 : BlkX w6 (MM La5 Lb6) w4.heap.size (roomC (roomN n s)) 29 := BlkX.step HG.2 T6
  clear T6 HG
  have hn1 : (things s).length ≤ 1000000 := by have := hI.lst_len (K := 33) (by omega); unfold things; rw [List.length_map]; omega
  have d0 : w6.drew.cell? ⟨w4.heap.size, 0, none⟩ = some (.int .i64 (roomN n s).freeB) := ob6.1.cell 0
  have d1 : w6.drew.cell? ⟨w4.heap.size, 1, none⟩ = some (.int .i64 (roomN n s).blocks) := ob6.1.cell 1
  have d2 : w6.drew.cell? ⟨w4.heap.size, 2, none⟩ = some (.int .i64 (roomN n s).freeI) := ob6.1.cell 2
  have d3 : w6.drew.cell? ⟨w4.heap.size, 3, none⟩ = some (.int .i64 (roomN n s).inodes) := ob6.1.cell 3
  have HS := Lib.hid (same_things (W := w6.drew) ra6.1.choose_spec r6.1.choose_spec hn1)
  have HRm := Lib.hid (fun w (hb : Below w6.heap.size w6 w) => room_goB (G6.grow hb) hI (by omega) h1 h2)
  have en := fun w => neq_room w (roomN n s).freeB (roomN n s).blocks (roomN n s).freeI (roomN n s).inodes
  have HG := Lib.hid (And.intro G6 ob6)
  clear G6 ob6 ra6 r6
  go_upto_region 14 with fail
  go_region_held3 (fun w' => w'.cell? ⟨w4.heap.size, 0, none⟩ = some (.int .i64 (roomN n s).freeB) ∧ w'.cell? ⟨w4.heap.size, 1, none⟩ = some (.int .i64 (roomN n s).blocks) ∧ w'.cell? ⟨w4.heap.size, 2, none⟩ = some (.int .i64 (roomN n s).freeI) ∧ w'.cell? ⟨w4.heap.size, 3, none⟩ = some (.int .i64 (roomN n s).inodes)) (refine ⟨?_, ?_, ?_, ?_⟩ <;> assumption) (first | ((go_at_call 9; have hc' := HRm; unfold Hid at hc'; refine (hc' w7 hb7').mono ?_; clear hc'); rintro e w8 ⟨Lb8, rfl, G8, T8⟩; obtain ⟨G6, ob6⟩ := HG; have ob8 := (ob6.step (Step.of_below hb7')).step T8; have g0 : w8.cell? ⟨w4.heap.size, 0, none⟩ = some (.int .i64 (roomN n s).freeB) := ob8.1.cell 0; have g1 : w8.cell? ⟨w4.heap.size, 1, none⟩ = some (.int .i64 (roomN n s).blocks) := ob8.1.cell 1; have g2 : w8.cell? ⟨w4.heap.size, 2, none⟩ = some (.int .i64 (roomN n s).freeI) := ob8.1.cell 2; have g3 : w8.cell? ⟨w4.heap.size, 3, none⟩ = some (.int .i64 (roomN n s).inodes) := ob8.1.cell 3; unfold roomC) | (go_at_call 12; have hc' := HS; unfold Hid at hc'; refine hc'.mono ?_; clear hc'; rintro e w7 ⟨rfl, hb7⟩; have hb7' : Below w6.heap.size w6 w7 := ⟨hb7.os, hb7.tape, hb7.output, hb7.size, hb7.block⟩; have e0 := (hb7'.cell (p := ⟨w4.heap.size, 0, none⟩) HG.2.1.lt).trans d0; have e1 := (hb7'.cell (p := ⟨w4.heap.size, 1, none⟩) HG.2.1.lt).trans d1; have e2 := (hb7'.cell (p := ⟨w4.heap.size, 2, none⟩) HG.2.1.lt).trans d2; have e3 := (hb7'.cell (p := ⟨w4.heap.size, 3, none⟩) HG.2.1.lt).trans d3))
  clear HG g0 g1 g2 g3 e0 e1 e2 e3 d0 d1 d2 d3 en HS HRm G6 ob6 ob8 hb7 hb7' T8
  have HG := Lib.hid G8
  clear G8
  go_upto_block 2 with fail
  go_cut [15] (fun _ wx => ∃ Lb, Go2 W n fa na La5 s5 fb nb Lb (runs n s (m.take 30)) wx)
  case first =>
    go_wp2_with fail
    go_loopw [15] (fun iv wr => ∃ (j : Nat) (o : Int), iv = .int .i64 o ∧ Hid (o = (j : Int)) ∧ j ≤ 30 ∧ Hid (∃ Lb, Go2 W n fa na La5 s5 fb nb Lb (runs n s (m.take j)) wr)) (fun iv _ => (30 - intOf iv).toNat)
    case atStart => exact ⟨0, 0, rfl, rfl, by omega, ⟨_, HG⟩⟩
    case round =>
      obtain ⟨j, o, rfl, ho, hj, HGj⟩ := hrel
      have ho' : o = (j : Int) := ho
      by_cases c1 : o < (m.length : Int)
      · by_cases c2 : o < 30
        · have hjl : j < m.length := by omega
          obtain ⟨c, hcj⟩ : ∃ c, m[j]? = some c := ⟨_, List.getElem?_eq_getElem hjl⟩
          obtain ⟨g, oo, rfl, hg, hcells⟩ := hm j c hcj
          obtain ⟨Lr, Gr⟩ := HGj
          have hload := loadC (w := wr) (g := g) (o := oo + j * 6) (c := c) (fun i v hv => (Gr.a.below.cell (p := ⟨g, oo + j * 6 + i, none⟩) hg).trans (by rw [Nat.add_assoc]; exact hcells i v hv))
          have HD := do_goB Gr (runs_take h1 h2 m j hI hR (by omega)).1 (by omega) h1 h2 c (hcm c (List.mem_of_getElem? hcj))
          rw [← runs_more n s m hcj] at HD
          have ht : o.toNat = j := by omega
          have hc0 : 0 ≤ o := by omega
          have hwr2 : IntKind.i64.wrap (o + 1) = o + 1 := IntWalk.i64_in _ (by omega)
          have HX := Lib.hid trivial
          clear Gr ho' hjl hcj hcells 
          unfold callC at hload HD
          go_wp2_with (refine wpList_load_run _ rfl (.tmp 88) 38 rfl _ hload ?_)
          refine HD.mono ?_
          rintro e w6 ⟨L6, nv6, rfl, G6, T6⟩
          have HE : Hid (∃ Lb, Go2 W n fa na La5 s5 fb nb Lb (runs n s (m.take (j + 1))) w6) := ⟨L6, G6⟩
          clear G6 T6 HD
          go_wp2_with fail
          go_roundw
          case rel =>
            have ho' : o = (j : Int) := ho
            exact ⟨j + 1, o + 1, rfl, (by show o + 1 = ((j + 1 : Nat) : Int); omega), by omega, HE⟩
          case measure => simp only [intOf]; omega
        · have HE : Hid (∃ Lb, Go2 W n fa na La5 s5 fb nb Lb (runs n s (m.take 30)) wr) := by rw [← take_all (l := m) (j := j) hj (.inr (by omega))]; exact HGj
          clear ho'
          go_wp2_with fail
          go_meet
          exact HE
      · have HE : Hid (∃ Lb, Go2 W n fa na La5 s5 fb nb Lb (runs n s (m.take 30)) wr) := by rw [← take_all (l := m) (j := j) hj (.inl (by omega))]; exact HGj
        clear ho'
        go_wp2_with fail
        go_meet
        exact HE
  clear HG
  obtain ⟨Lb9, G9⟩ := hcut
  rw [← hs5] at G9
  have HW := whole_goA G9 HI5.1 (by omega) h1 h2
  clear G9
  go_wp2_with fail
  refine HW.mono ?_
  clear HW
  rintro e w10 ⟨La10, v10, rfl, G10, r10, T10⟩
  have HW := whole_goB G10 HI5.1 (by omega) h1 h2
  have HG := Lib.hid r10
  clear G10 r10 T10
  go_wp2_with fail
  refine HW.mono ?_
  clear HW
  rintro e w11 ⟨Lb11, v11, rfl, G11, r11, T11⟩
  have ra11 : RowX w11 (MM La10 Lb11) v10 (things s5) := RowX.step HG T11
  clear HG T11
  have hn5 : (things s5).length ≤ 1000000 := by have := HI5.1.lst_len (K := 33) (by omega); unfold things; rw [List.length_map]; omega
  have HS := Lib.hid (same_things (W := w11) ra11.1.choose_spec r11.1.choose_spec hn5)
  have HRa := Lib.hid (fun w (hb : Below w11.heap.size w11 w) => room_goA (G11.grow hb) HI5.1 (by omega) h1 h2)
  have HRb := Lib.hid (fun w (La : Lay) (G : Go2 W n fa na La s5 fb nb Lb11 s5 w) => room_goB G HI5.1 (by omega) h1 h2)
  have en := fun w => eql_room w (roomN n s5).freeB (roomN n s5).blocks (roomN n s5).freeI (roomN n s5).inodes
  clear ra11 r11
  go_wp2_with (first | ((go_at_call 9; have hc' := HRb; unfold Hid at hc'; refine (hc' w13 La13 G13).mono ?_; clear hc'); rintro e w14 ⟨Lb14, rfl, G14, T14⟩; have hfin := Lib.hid G14.a.below; unfold roomC) | ((go_at_call 9; have hc' := HRa; unfold Hid at hc'; refine (hc' w12 hb12).mono ?_; clear hc'); rintro e w13 ⟨La13, rfl, G13, T13⟩; unfold roomC) | (go_at_call 12; have hc' := HS; unfold Hid at hc'; refine hc'.mono ?_; clear hc'; rintro e w12 ⟨rfl, hb12⟩))
  go_ret
  exact ⟨rfl, hfin⟩
end
end Fs
end Go.Proofs.YtlnnbjgfpiefdaaGreat
namespace Go.Proofs.YtlnnbjgfpiefdaaGreat.ramCopies
open Go.ChangeShapes Go.WideShapes Go.ChangeAt Go.RowKit Go.Joins

theorem own : ownKnob Tryz.prog.godebug = none := by kernel_rfl
theorem laidOut : laidOutB Tryz.prog = true := by kernel_rfl
set_option maxRecDepth 100000 in
theorem lifted (os : Os) (started : os.Started) (H : Type) (enc : TypeId × Value → H) :
    ReturnsInHanded {} Tryz.checked os 6 .any (Rows.ramCopiesSpec.pre6 enc Tryz.prog Tryz.f6 Rows.ramCopiesRow.domain false) (Rows.ramCopiesSpec.post enc Tryz.prog Tryz.f6 false true false false) := by
  refine returnsInHanded_of_change_sized (C := Tryz.checked) own started (by kernel_rfl) Tryz.func6
    (ChangeSpec.witness6 (enc := enc) (C := Tryz.checked) false ⟨#[], #[.int .i64 0, .slice none 0 0, .slice none 0 0], []⟩ 8 (by kernel_rfl) (by kernel_rfl) (by kernel_rfl) (by kernel_rfl)) ?_
  intro W base args ds gs before hval0 hW hcnd hsz0 _
  have hsz : (DataW.weightsEach Tryz.prog (Tryz.f6.params.toList ++ Rows.ramCopiesSpec.plain.varTypes Tryz.prog) (ds ++ gs)).all (· ≤ reachBytes) = true := hsz0
  clear hsz0
  have hval : ∀ (j : Nat) t v, Tryz.f6.params[j]? = some t → args[j]? = some v → Value.okWide Tryz.prog W .any base t v := hval0
  have hW' := hW
  obtain ⟨p, q, hA0, hV, rfl, hfz, hnd⟩ := hW
  have hA : DataW.TrodAll enc Tryz.prog W 0 (fun _ => true) true Tryz.f6.params.toList args.toList ds p := hA0
  rw [Tryz.params6] at hA hval hsz
  obtain ⟨v0, v1, v2, d0, d1, d2, p0, p1, p2, rfl, rfl, rfl, h0, h1, h2⟩ := trodAll_three hA
  obtain ⟨rfl, rfl⟩ := trodVars_none hV
  have k0 := h0
  have k1 := h1
  have k2 := h2
  have lt0 : ∀ x ∈ p0, x.block < W.heap.size := by obtain ⟨m, hm⟩ := k0; exact DataW.trod_lt m _ _ _ hm
  have lt1 : ∀ x ∈ p1, x.block < W.heap.size := by obtain ⟨m, hm⟩ := k1; exact DataW.trod_lt m _ _ _ hm
  have lt2 : ∀ x ∈ p2, x.block < W.heap.size := by obtain ⟨m, hm⟩ := k2; exact DataW.trod_lt m _ _ _ hm
  have fin : ∀ e W', (e = Ending.returned (.bool true) ∧ Below W.heap.size W W') → ∃ v, e = Ending.returned v ∧ Rows.ramCopiesSpec.post enc Tryz.checked.prog Tryz.f6 false true false false W #[v0, v1, v2] v W' := by
    intro e W' ⟨he, bel⟩
    subst he
    exact ⟨_, rfl, _, _, _, [], _, [], hW', trodAll_mk1 (shut_bool Tryz.underlying4 _), (trodAll_cons_mk (Below.trod laidOut (by kernel_rfl) (of_decide_eq_true (by kernel_rfl)) k0 bel lt0) (trodAll_cons_mk (Below.trod laidOut (by kernel_rfl) (of_decide_eq_true (by kernel_rfl)) k1 bel lt1) (trodAll_cons_mk (Below.trod laidOut (by kernel_rfl) (of_decide_eq_true (by kernel_rfl)) k2 bel lt2) trodAll_mk0))), rfl, bel.frame _, fun h => by cases h⟩
  obtain ⟨n, rfl, _, _, _⟩ := open_int Tryz.underlying3 (hval 0 3 v0 rfl rfl) h0
  obtain ⟨l, ao, cap, rfl, hl, hcl⟩ := Fs.open_calls (hval 1 22 v1 rfl rfl) h1 (Fs.light_of hsz (j := 1) rfl rfl)
  obtain ⟨m, bo, bcap, rfl, hm, hcm⟩ := Fs.open_calls (hval 2 22 v2 rfl rfl) h2 (Fs.light_of hsz (j := 2) rfl rfl)
  exact (Fs.copies_any n l ao cap m bo bcap hl hcl hm hcm).mono fin

/-- The statement. -/
theorem proved : Rows.RamCopiesSaid :=
  OpenClaim.holds_of_wide 6 Tryz.f6 rfl rfl rfl rfl rfl rfl rfl ⟨rfl, rfl, rfl, rfl, rfl⟩ rfl rfl rfl rfl rfl (by kernel_rfl) Tryz.func6 (by kernel_rfl)
    (of_decide_eq_true (by kernel_rfl)) (by unfold Func.isWrapper; first | (rw [if_pos (by decide +kernel)]; kernel_rfl) | (rw [if_neg (by decide +kernel)]; exact ⟨rfl, rfl⟩))
    (fun os started H enc _ => lifted os started H enc)
#print axioms proved
end Go.Proofs.YtlnnbjgfpiefdaaGreat.ramCopies
