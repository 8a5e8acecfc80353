/- The checker looks at a directory. -/
import Derived.Test.YtegplehbcdeeoaaGreatDoorChkB21
import Derived.Deep.RegionHeld3
namespace Go.Proofs.YtegplehbcdeeoaaGreatDoor
open Go.RowKit Go.Maps

namespace Ck
open Pk Pw
section
variable {W W' W'' : World} {A : Adr} {G G' G'' : Gh} {s : St} {N N' : Nat} {tB pB : Nat} {d : Dt}
theorem info_cl : (Tryz.prog.info? 118).map (fun i => (i.zero, i.size, i.bytes)) = some (some (.agg #[.string (mk []), .int .i64 0]), 2, 24) := by kernel_rfl
set_option maxRecDepth 100000 in
set_option maxHeartbeats 8000000 in
theorem dirI_any (h : SimD N W A G tB pB d) (hN : N ≤ 500000000000) (hno : NodesOk d.s) (hbo : BlocksOk A.n d.s) (hnm : NamesOk N d.s) (x : Rc) (hxs : x.size ≤ 8459264) (nd : Nat) (hnd : nd ≤ 1000000000) :
    Calls Tryz.prog 67 #[.pointer (some ⟨A.c, 0, none⟩), .int .i64 nd, .agg (recC x), .map (some tB), .map (some pB)] W
    fun e W' => e = .returned (.tuple #[]) ∧ ∃ G', SimD (N + 2000000) W' A G' tB pB (dirS A.bytes nd x.size d) ∧ StpD tB pB W G W' G' ∧ NodesOk (dirS A.bytes nd x.size d).s ∧ BlocksOk A.n (dirS A.bytes nd x.size d).s ∧ NamesOk (N + 2000000) (dirS A.bytes nd x.size d).s := by
  obtain ⟨i0, hi, hz0, hz1, hz2⟩ := info_parts info_cl
  have hsz : (recC x)[2]? = some (.int .i64 x.size) := by unfold recC; rw [natC_get]; rfl
  unfold dirS
  generalize x.size = sz at *
  obtain ⟨m, hm⟩ : ∃ m, sz / 512 = m := ⟨_, rfl⟩
  rw [hm]
  have hm1 : (sz : Int) / 512 = m := by omega
  have hmb : m ≤ 16522 := by omega
  clear hm hxs
  generalize recC x = C at *
  have hX := Blk.new W C 74
  have x2 := hX.cell 2
  rw [hsz] at x2
  have hW0 : Below W.heap.size W (W.alloc (.cells C 74)) := (Below.refl _ _).alloc (Nat.le_refl _) _
  have hS0 := Lib.hid (h.below hW0)
  have hT0 := Lib.hid ((Stp.of_below (G := G) hW0).toD (tB := tB) (pB := pB))
  have hl := h.sim.len
  have hn2 := h.sim.n2
  have hcapA := h.sim.cap
  obtain ⟨df, hdf⟩ : ∃ df, dirGo A.bytes nd (List.range m) d = df := ⟨_, rfl⟩
  rw [hdf]
  rw [List.range_eq_range'] at hdf
  replace hdf := Lib.hid hdf
  replace hno := Lib.hid hno
  replace hbo := Lib.hid hbo
  replace hnm := Lib.hid hnm
  clear h hX hW0
  generalize hWW : W.alloc (.cells C 74) = W0 at *
  go_enter Tryz.func67, Tryz.ntmps67
  go_wp2_with fail
  go_step3
  go_wp2_with fail
  go_step3
  go_wp2_with fail
  clear hWW
  go_loopw [22] (fun kv wr => ∃ (k : Nat) (G1 : Gh) (d1 : Dt), kv = .int .i64 k ∧ k ≤ m ∧ Hid (SimD (N + 100 * k) wr A G1 tB pB d1 ∧ StpD tB pB W0 G wr G1 ∧ NodesOk d1.s ∧ BlocksOk A.n d1.s ∧ NamesOk (N + 100 * k) d1.s ∧ dirGo A.bytes nd (List.range' k (m - k)) d1 = df)) (fun kv _ => m - (intOf kv).toNat)
  case atStart => exact ⟨0, G, d, rfl, Nat.zero_le _, Lib.hid ⟨hS0.out, StpD.refl _ _ _ _, hno.out, hbo.out, hnm.out, hdf.out⟩⟩
  case round =>
    obtain ⟨k, G1, d1, rfl, hk, hH⟩ := hrel
    obtain ⟨hS, hT, hno1, hbo1, hnm1, hgo⟩ := hH.out
    by_cases c : k < m
    · have hci : (k : Int) < (m : Int) := by omega
      obtain ⟨m7, m8, m9, m10, m11, m12, m13⟩ := chk_maps hS.sim
      have hvP : vP (nd, k) := ⟨by dsimp only; omega, by dsimp only; omega⟩
      have hlk := (hS.sim.blocks (by decide)).look_ok kPlace (t := 67) Tryz.underlying67 (zvI wr) (x := (nd, k)) hvP (kyP hvP)
      dsimp only at hlk
      rw [range_from m k c] at hgo
      unfold dirGo at hgo
      cases hbk : d1.s.blocks (nd, k) with
      | none =>
        rw [hbk] at hlk
        have hdb : dirB A.bytes nd d1 k = ({ d1 with s := d1.s.tell (fnd 10 nd 0) }, true) := by unfold dirB; rw [hbk]
        rw [hdb] at hgo
        have HT := tell_any hS.sim (by omega) (fnd 10 nd 0)
        have hS' := Lib.hid hS
        have hT' := Lib.hid hT
        replace hgo := Lib.hid (show ({ d1 with s := d1.s.tell (fnd 10 nd 0) } : Dt) = df from hgo)
        have hk3 := Lib.hid (show NodesOk df.s ∧ BlocksOk A.n df.s ∧ NamesOk (N + 100 * k) df.s by rw [← hgo.out]; exact ⟨hno1, hbo1, hnm1⟩)
        clear hS hT hH hno1 hbo1 hnm1 hbk hdb
        go_wp2_with (first | (refine wpList_lookup_run _ rfl 67 (.tmp 29) (.tmp 32) true rfl _ hlk ?_) | (go_at_call 60; refine HT.mono ?_; clear HT; rintro e w4 ⟨rfl, hG4⟩))
        rw [Exit.noGoto_normal]
        show bodyPost Tryz.prog Tryz.f67 _ Exit.normal _ _
        refine bodyPost_end (results_none rfl _ _ _) rfl ?_
        obtain ⟨G4, k1, k2⟩ := hG4
        exact ⟨rfl, G4, by rw [← hgo.out]; exact (hS'.out.step k1 k2 (Nat.le_succ _)).mono (by omega), hT0.out.trans (hT'.out.trans k2.toD), hk3.out.1, hk3.out.2.1, fun a v hv => Nat.le_trans (hk3.out.2.2 a v hv) (by omega)⟩
      | some i =>
        rw [hbk] at hlk
        have hin := hbo1 _ _ hbk
        have HB := block_at hS.sim i hin
        have hsl : (sub A.bytes (512 * i) 512).length = 512 := sub_len (by omega)
        have hbs := block_seen hS.sim i
        have HR := fun cap hcap => slotsRead_any (sub A.bytes (512 * i) 512) hsl A.img (512 * i) cap hcap wr (hS.sim.low _ (by rw [hS.sim.wImg]; decide)).2 hS.sim.kv hbs
        have hSb := Lib.hid (fun w' (hb : Below wr.heap.size wr w') => hS.below hb)
        have hT' := Lib.hid hT
        replace hno1 := Lib.hid hno1
        replace hbo1 := Lib.hid hbo1
        replace hnm1 := Lib.hid hnm1
        have hoth := Lib.hid (fun b (hb : wr.heap.size ≤ b) => hS.sim.other_of (b := b) (.inl hb))
        have hmlt := Lib.hid (And.intro hS.there.lt hS.parents.lt)
        have HTb := Lib.hid (fun w' (hb : Below wr.heap.size wr w') => tell_any (hS.sim.below hb) (by omega) (fnd 10 nd i))
        clear hS hT hH hsl hbs
        go_wp2_with (refine wpList_lookup_run _ rfl 67 (.tmp 29) (.tmp 32) true rfl _ hlk ?_)
        refine HB.mono ?_
        clear HB
        rintro e w2 ⟨⟨cap, rfl, hc1, hc2⟩, rfl⟩
        have HR1 := HR cap ⟨hc1, hc2⟩
        clear HR
        go_wp2_with fail
        refine HR1.mono ?_
        clear HR1
        rintro e w2 ⟨hb2, hsl⟩
        unfold slotsE at hsl
        cases hsp : slotsP (sub A.bytes (512 * i) 512) with
        | none =>
          rw [hsp] at hsl
          replace hsl : e = .returned (.tuple #[.slice none 0 0, .int .i64 140]) := hsl
          subst hsl
          have hdb : dirB A.bytes nd d1 k = ({ d1 with s := d1.s.tell (fnd 10 nd i) }, false) := by unfold dirB; rw [hbk]; dsimp only; rw [hsp]
          rw [hdb] at hgo
          replace hgo := Lib.hid (show dirGo A.bytes nd (List.range' (k + 1) (m - (k + 1))) { d1 with s := d1.s.tell (fnd 10 nd i) } = df from hgo)
          have HT := HTb.out w2 hb2
          have hS2 := Lib.hid (hSb.out w2 hb2)
          have hT2 := Lib.hid (hT'.out.trans (Stp.of_below (G := G1) hb2).toD)
          clear hb2 HTb hsp hbk hdb hSb hT'
          go_wp2_with (go_at_call 60; refine HT.mono ?_; clear HT; rintro e w4 ⟨rfl, hG4⟩)
          obtain ⟨G4, k1, k2⟩ := hG4
          refine ⟨⟨k + 1, G4, _, rfl, by omega, Lib.hid ⟨(hS2.out.step k1 k2 (Nat.le_succ _)).mono (by omega), hT2.out.trans k2.toD, hno1.out, hbo1.out, fun a v hv => Nat.le_trans (hnm1.out a v hv) (by omega), hgo.out⟩⟩, ?_⟩
          simp only [intOf]; omega
        | some r =>
          rw [hsp] at hsl
          obtain ⟨v, rfl, hown⟩ := hsl
          have hdb : dirB A.bytes nd d1 k = (r.foldl (entS nd) d1, false) := by unfold dirB; rw [hbk]; dsimp only; rw [hsp]
          rw [hdb] at hgo
          replace hgo := Lib.hid (show dirGo A.bytes nd (List.range' (k + 1) (m - (k + 1))) (r.foldl (entS nd) d1) = df from hgo)
          have hrm := Lib.hid (fun e he => slot_mem hsp (e := e) he)
          have hrl : r.length ≤ 16 := by
            unfold slotsP at hsp
            split at hsp
            · cases hsp; exact slotTo_len _ _
            · cases hsp
          obtain ⟨ao, capr, rfl⟩ := own_slice_of hown
          have hS2 := Lib.hid (hSb.out w2 hb2)
          have hT2 := Lib.hid (hT'.out.trans (Stp.of_below (G := G1) hb2).toD)
          have hw2 := Lib.hid hb2.size
          have hown' := Lib.hid hown
          clear hb2 HTb hsp hbk hdb hSb hT' hown
          go_wp2_with fail
          go_hide hQ
          go_loopw [58] (fun jv wr => ∃ j : Nat, jv = .int .i64 j ∧ j ≤ r.length ∧ Hid (∃ G5, SimD (N + 100 * k + 6 * j) wr A G5 tB pB ((r.take j).foldl (entS nd) d1) ∧ StpD tB pB w2 G1 wr G5 ∧ NamesOk (N + 100 * k + 6 * j) ((r.take j).foldl (entS nd) d1).s)) (fun jv _ => r.length - (intOf jv).toNat)
          case atStart => exact ⟨0, rfl, Nat.zero_le _, Lib.hid ⟨G1, by simpa using hS2.out, StpD.refl _ _ _ _, by simpa using hnm1.out⟩⟩
          case round =>
            obtain ⟨j, rfl, hj, hJ⟩ := hrel
            obtain ⟨G5, hS5, hT5, hnm5⟩ := hJ.out
            by_cases cj : j < r.length
            · have hcj : (j : Int) < (r.length : Int) := by omega
              obtain ⟨e, he⟩ : ∃ e, r[j]? = some e := ⟨_, List.getElem?_eq_getElem cj⟩
              have hft := Lib.hid (fold_take nd r d1 j e he)
              have hfk := fold_keeps nd (r.take j) d1
              obtain ⟨e0, e1, e2⟩ := entsV_get he
              obtain ⟨g, cap', hv, hg, hgb, hgo', hcell⟩ := own_cell hown'.out (by intro h0; rw [h0] at e0; simp at e0)
              cases hv
              have hgw : G1.who g = .other := hoth.out g hgb
              have hkp := hT5.block g hg hgw (by have := hmlt.out; omega) (by have := hmlt.out; omega)
              have y0 := (World.cell?_of_block (a := ⟨g, j * 3, none⟩) hkp).trans (hcell _ _ e0)
              have y1 := (World.cell?_of_block (a := ⟨g, j * 3 + 1, none⟩) hkp).trans (hcell _ _ e1)
              have y2 := (World.cell?_of_block (a := ⟨g, j * 3 + 2, none⟩) hkp).trans (hcell _ _ e2)
              have hem := hrm.out e (List.mem_of_getElem? he)
              have hnod : NodesOk ((r.take j).foldl (entS nd) d1).s := by unfold NodesOk; rw [hfk.1]; exact hno1.out
              obtain ⟨pl, nm, ino⟩ := e
              dsimp only at y0 y1 y2 hem hft
              generalize hdj : (r.take j).foldl (entS nd) d1 = dj at *
              have hstn := store_new wr 137 #[.int .i64 0, .string (mk []), .int .i64 0] #[.int .i64 pl, .string (mk nm), .int .i64 ino] (by kernel_rfl) rfl (by simp [Value.oneCell'])
              have hbe := (Below.refl wr.heap.size wr).alloc (Nat.le_refl _) (.cells #[.int .i64 pl, .string (mk nm), .int .i64 ino] 137)
              have hS6 := hS5.below hbe
              have hT6 := hT5.trans (Stp.of_below (G := G5) hbe).toD
              have hE := Blk.new wr #[.int .i64 pl, .string (mk nm), .int .i64 ino] 137
              have hEw : G5.who wr.heap.size = .other := hS5.sim.other_of (.inl (Nat.le_refl _))
              have hEt : wr.heap.size ≠ tB ∧ wr.heap.size ≠ pB := ⟨by have := hS5.there.lt; omega, by have := hS5.parents.lt; omega⟩
              have hT6' := Lib.hid hT6
              clear hbe hcell hkp hgo' e0 e1 e2 hfk hJ hdj hT6 hT5
              go_wp2_with (refine wpList_store_run _ rfl (.tmp 16) (.tmp 61) 137 rfl _ hstn ?_)
              generalize hW6 : wr.alloc (.cells #[.int .i64 pl, .string (mk nm), .int .i64 ino] 137) = w6 at *
              obtain ⟨m7, m8, m9, m10, m11, m12, m13⟩ := chk_maps hS6.sim
              have z1 := hE.cell 1
              have z2 := hE.cell 2
              have hvI : vI nd := by unfold vI; omega
              have hcl6 := dj.s.cells nd
              obtain ⟨aoR, capR, hR1, hR2, hR3⟩ := note_ready ((hS6.sim.alloc (.cells #[.string (mk nm), .int .i64 ino] 118)).drew) (by omega) hvI
              have hlkA := fun V (hb : Below w6.heap.size w6 V) => ((hS6.sim.below hb).cells (by decide)).look Fs.kI (t := 68) Tryz.underlying68 (zvS V) (x := nd) hvI (kyI hvI)
              rw [hR1] at hlkA
              have hlk1 := hlkA w6.drew (Below.refl _ _).drew
              have hlk2 := hlkA (w6.alloc (.cells #[.string (mk nm), .int .i64 ino] 118)).drew ((Below.refl _ _).alloc (Nat.le_refl _) _).drew
              clear hlkA hcl6
              have hAc : A.c < w6.heap.size := (hS6.sim.low _ (by rw [hS6.sim.wC]; decide)).2
              have heb : wr.heap.size < w6.heap.size := hE.lt
              have hnw : ∀ j u, (clV (nm, ino))[j]? = some u → ((w6.alloc (.cells #[.string (mk nm), .int .i64 ino] 118)).drew).cell? ((⟨w6.heap.size, 0, none⟩ : Addr).add j) = some u := fun j u hj => news_new w6 (clV (nm, ino)) 118 j u hj
              have hlc := hS6.sim.lenC nd
              have hbs := hS6.sim.base
              have hfc : ∀ X2 X3 : World, (∀ b, b < ((w6.alloc (.cells #[.string (mk nm), .int .i64 ino] 118)).drew).heap.size → G5.who b = .other ∨ G5.who b = .chk → X2.heap[b]? = ((w6.alloc (.cells #[.string (mk nm), .int .i64 ino] 118)).drew).heap[b]? ∧ X3.heap[b]? = ((w6.alloc (.cells #[.string (mk nm), .int .i64 ino] 118)).drew).heap[b]?) →
                  (X2.cell? ⟨A.c, 10, none⟩ = some (.map (some A.cells)) ∧ X2.cell? ⟨wr.heap.size, 1, none⟩ = some (.string (mk nm)) ∧ X2.cell? ⟨wr.heap.size, 2, none⟩ = some (.int .i64 ino)) ∧ (X3.cell? ⟨A.c, 10, none⟩ = some (.map (some A.cells)) ∧ X3.cell? ⟨wr.heap.size, 1, none⟩ = some (.string (mk nm)) ∧ X3.cell? ⟨wr.heap.size, 2, none⟩ = some (.int .i64 ino)) := by
                intro X2 X3 hk
                have kA := hk A.c (by show A.c < (w6.alloc _).heap.size; rw [alloc_size]; omega) (.inr hS6.sim.wC)
                have kE := hk wr.heap.size (by show wr.heap.size < (w6.alloc _).heap.size; rw [alloc_size]; omega) (.inl hEw)
                have oA : ((w6.alloc (.cells #[.string (mk nm), .int .i64 ino] 118)).drew).heap[A.c]? = w6.heap[A.c]? := ((Below.refl _ w6).alloc (Nat.le_refl _) (.cells #[.string (mk nm), .int .i64 ino] 118)).block _ hAc
                have oE : ((w6.alloc (.cells #[.string (mk nm), .int .i64 ino] 118)).drew).heap[wr.heap.size]? = w6.heap[wr.heap.size]? := ((Below.refl _ w6).alloc (Nat.le_refl _) (.cells #[.string (mk nm), .int .i64 ino] 118)).block _ heb
                refine ⟨⟨?_, ?_, ?_⟩, ?_, ?_, ?_⟩
                · exact (World.cell?_of_block (a := ⟨A.c, 10, none⟩) (kA.1.trans oA)).trans m10
                · exact (World.cell?_of_block (a := ⟨wr.heap.size, 1, none⟩) (kE.1.trans oE)).trans z1
                · exact (World.cell?_of_block (a := ⟨wr.heap.size, 2, none⟩) (kE.1.trans oE)).trans z2
                · exact (World.cell?_of_block (a := ⟨A.c, 10, none⟩) (kA.2.trans oA)).trans m10
                · exact (World.cell?_of_block (a := ⟨wr.heap.size, 1, none⟩) (kE.2.trans oE)).trans z1
                · exact (World.cell?_of_block (a := ⟨wr.heap.size, 2, none⟩) (kE.2.trans oE)).trans z2
              replace hfc := Lib.hid hfc
              replace hR3 := Lib.hid hR3
              have hS6' := Lib.hid hS6
              have hE' := Lib.hid hE
              clear hS6 hE hS5
              obtain ⟨s7, hs7⟩ : ∃ s7 : St, { dj.s with cells := fun j => if j = nd then dj.s.cells nd ++ [(nm, ino)] else dj.s.cells j } = s7 := ⟨_, rfl⟩
              replace hs7 := Lib.hid hs7
              try simp only [Act.put]
              go_cut [] (fun wx => Hid (∃ G7, SimD (N + 100 * k + 6 * j + 1) wx A G7 tB pB { dj with s := s7 } ∧ StpD tB pB w6 G5 wx G7))
              case first =>
                go_region_held3 (fun w' => w'.cell? ⟨A.c, 10, none⟩ = some (.map (some A.cells)) ∧ w'.cell? ⟨wr.heap.size, 1, none⟩ = some (.string (mk nm)) ∧ w'.cell? ⟨wr.heap.size, 2, none⟩ = some (.int .i64 ino)) (go_keep) ((refine step_append_at _ rfl (.tmp 72) (.tmp 78) 116 rfl A.base 118 i0 _ 2 24 Tryz.underlying116 hi hz0 hz1 hz2 rfl (by decide) _ _ _ rfl hR2 ⟨w6.heap.size, 0, none⟩ 1 1 (clV (nm, ino)) rfl rfl hnw (by simp [clV, Value.oneCell']) (by unfold maxLen; omega) (by omega) (by simp; omega) ?_; intro v2 X2 hown2 hg2 hloc; obtain ⟨ao2, cap2, rfl⟩ := own_slice_of hown2; obtain ⟨X3, u1, u2, u3, u4⟩ := hR3.out (nm, ino) _ X2 hown2 hg2 hloc; obtain ⟨⟨f1, f2, f3⟩, f4, f5, f6⟩ := hfc.out X2 X3 u4; replace u2 := Lib.hid u2))
                all_goals
                  obtain ⟨G7, k1, k2⟩ := u2.out
                  have hb61 : Below w6.heap.size w6 (w6.alloc (.cells #[.string (mk nm), .int .i64 ino] 118)).drew := ((Below.refl _ _).alloc (Nat.le_refl _) _).drew
                  go_wp2_with fail
                  go_meet
                  case rel =>
                    refine Lib.hid ⟨G7, ?_, ?_⟩
                    · rw [← hs7.out]; exact (hS6'.out.below hb61).step k1 k2 (Nat.le_succ _)
                    · exact ((Stp.of_below (G := G5) hb61).trans k2).toD
              obtain ⟨G7, hS7, hT7⟩ := hcut.out
              obtain ⟨n7, n8, n9, n10, n11, n12, n13⟩ := chk_maps hS7.sim
              have hE7 := hE'.out.same (hT7.block _ hE'.out.lt hEw hEt.1 hEt.2)
              have f2 := hE7.cell 2
              have hvO : vI ino := by have := hem.1; unfold vI; omega
              have hn7 : s7.names = dj.s.names := by rw [← hs7.out]
              have hlkN := (hS7.sim.drew.names (by decide)).look Fs.kI (t := 66) Tryz.underlying66 (zvI _) (x := ino) hvO (kyI hvO)
              have hmN : ((s7.names ino).map iv).getD (.int .i64 0) = iv ((s7.names ino).getD 0) := by cases s7.names ino <;> rfl
              replace hlkN : (Instr.lookup 66 (.map (some A.names)) (.int .i64 ino) false).run Tryz.prog wc.drew = .ok (iv ((s7.names ino).getD 0)) wc.drew := hlkN.trans (by rw [hmN])
              obtain ⟨W8, p1, p2, p3⟩ := (hS7.sim.drew.names (by decide)).update Fs.kI (t := 66) Tryz.underlying66 (by unfold maxLen; omega) (kyI hvO) (injI hvO) (v := (s7.names ino).getD 0 + 1) (val := .int .i64 (((s7.names ino).getD 0 : Nat) + 1)) rfl
              obtain ⟨q1, q2⟩ := hS7.sim.drew.putNames p2 p3
              have hnb : (s7.names ino).getD 0 ≤ N + 100 * k + 6 * j := by
                rw [hn7]
                cases hq : dj.s.names ino with
                | none => exact Nat.zero_le _
                | some v => exact hnm5 _ _ hq
              have hwn : IntKind.i64.wrap ((((s7.names ino).getD 0 : Nat) : Int) + 1) = (((s7.names ino).getD 0 : Nat) : Int) + 1 := IntWalk.i64_in _ (by omega)
              obtain ⟨s8, hs8⟩ : ∃ s8, noteS nd dj.s nm ino = s8 := ⟨_, rfl⟩
              have hS8 : SimD (N + 100 * k + 6 * j + 1 + 1) W8 A G7 tB pB { dj with s := s8 } := by
                have hd : wc.heap.size ≤ wc.drew.heap.size := Nat.le_refl _
                have h2 := (hS7.below (Below.refl _ _).drew).step q1 q2 (Nat.le_succ _)
                rw [← hs8]
                rw [← hs7.out] at h2
                exact h2
              have hT8 : StpD tB pB w6 G5 W8 G7 := hT7.trans ((Stp.of_below (G := G7) (Below.refl _ _).drew).trans q2).toD
              have hnm8 : NamesOk (N + 100 * k + 6 * j + 2) s8 := by
                rw [← hs8]
                intro a v hv
                unfold noteS at hv
                dsimp only at hv
                split at hv
                · cases hv
                  rw [← hn7]; omega
                · exact Nat.le_trans (hnm5 _ _ hv) (by omega)
              have hno8 : NodesOk s8 := by rw [← hs8]; exact hnod
              have hS8' := Lib.hid hS8
              have hT8' := Lib.hid hT8
              replace hnm8 := Lib.hid hnm8
              replace hno8 := Lib.hid hno8
              replace hs8 := Lib.hid hs8
              replace hs7 := Lib.hid True.intro
              clear hS7 hT7 hS8 hT8 hmN q1 q2 p2 p3 hcut hn7 hlk1 hlk2 hR1
              go_wp2_with fail
              go_still_tail 8, (by kernel_rfl)
              change wpList _ _ _ _ _ wc.drew
              go_upto_region 15 with (refine wpList_update_run _ rfl 66 (.tmp 83) (.tmp 85) (.tmp 87) rfl _ p1 ?_)
              simp only [Act.put]
              have hE8 := hE'.out.same (hT8'.out.block _ hE'.out.lt hEw hEt.1 hEt.2)
              have e81 := hE8.cell 1
              have e82 := hE8.cell 2
              have hvN : vN (nd, nm) := ⟨by dsimp only; omega, by have := hem.2.1; dsimp only; omega⟩
              have hlkT := hS8'.out.there.look kNamed (t := 110) Tryz.underlying110 (zvI W8) (x := (nd, nm)) hvN (kyN hvN)
              dsimp only at hlkT
              have hmT : ((dj.there (nd, nm)).map iv).getD (.int .i64 0) = iv ((dj.there (nd, nm)).getD 0) := by cases dj.there (nd, nm) <;> rfl
              replace hlkT : (Instr.lookup 110 (.map (some tB)) (.agg #[.int .i64 nd, .string (mk nm)]) false).run Tryz.prog W8 = .ok (iv ((dj.there (nd, nm)).getD 0)) W8 := hlkT.trans (by rw [← hmT])
              generalize hthr : (dj.there (nd, nm)).getD 0 = thv at *
              go_upto_if 94 with (refine wpList_lookup_run _ rfl 110 (.tmp 88) (.tmp 92) false rfl _ hlkT ?_)
              obtain ⟨s9, hs9⟩ : ∃ s9 : St, (if 0 < thv then s8.tell (fndN 11 nd nm) else s8) = s9 := ⟨_, rfl⟩
              replace hs9 := Lib.hid hs9
              have HT16 := tell_any hS8'.out.sim (by omega) (fndN 11 nd nm)
              go_cut [] (fun wx => Hid (∃ G9, SimD (N + 100 * k + 6 * j + 3) wx A G9 tB pB { dj with s := s9 } ∧ StpD tB pB w6 G5 wx G9))
              case first =>
                by_cases c9 : 0 < thv
                · replace hs9 := Lib.hid (show s8.tell (fndN 11 nd nm) = s9 by rw [← hs9.out, if_pos c9])
                  have c9' : (0 : Int) < thv := by omega
                  go_wp2_with (go_at_call 60; refine HT16.mono ?_; clear HT16; rintro e w9 ⟨rfl, hG9⟩)
                  go_meet
                  case rel =>
                    obtain ⟨G9, k1, k2⟩ := hG9
                    exact Lib.hid ⟨G9, by rw [← hs9.out]; exact hS8'.out.step k1 k2 (Nat.le_succ _), hT8'.out.trans k2.toD⟩
                · replace hs9 := Lib.hid (show s8 = s9 by rw [← hs9.out, if_neg c9])
                  have c9' : ¬ (0 : Int) < thv := by omega
                  go_wp2_with fail
                  go_meet
                  case rel => exact Lib.hid ⟨G7, by rw [← hs9.out]; exact hS8'.out.mono (Nat.le_succ _), hT8'.out⟩
              obtain ⟨G9, hS9, hT9⟩ := hcut.out
              clear HT16 hcut hlkT e81 e82 hE8
              have hE9 := hE'.out.same (hT9.block _ hE'.out.lt hEw hEt.1 hEt.2)
              have e91 := hE9.cell 1
              have e92 := hE9.cell 2
              obtain ⟨W10, p1, p2, p3⟩ := hS9.there.update kNamed (t := 110) Tryz.underlying110 (by unfold maxLen; omega) (kyN hvN) (injN hvN) (v := 1) (val := .int .i64 1) rfl
              obtain ⟨hS10, hT10'⟩ := hS9.putThere p2 p3
              have hT10 := hT9.trans hT10'
              dsimp only at p1
              have hE10 := hE'.out.same (hT10.block _ hE'.out.lt hEw hEt.1 hEt.2)
              have e101 := hE10.cell 1
              have e102 := hE10.cell 2
              obtain ⟨d7, d8, d9, d10, d11, d12, d13⟩ := chk_maps hS10.sim
              have hn9 : s9.nodes = s8.nodes := by rw [← hs9.out]; split <;> rfl
              have hno9 : NodesOk s9 := by unfold NodesOk; rw [hn9]; exact hno8.out
              obtain ⟨d10', hd10⟩ : ∃ d10' : Dt, ({ s := s9, there := fun p => if p = (nd, nm) then some 1 else dj.there p, parents := dj.parents } : Dt) = d10' := ⟨_, rfl⟩
              go_upto_region 18 with (refine wpList_update_run _ rfl 110 (.tmp 101) (.tmp 105) (.const (.int .i64 1)) rfl _ p1 ?_)
              simp only [Act.put]
              obtain ⟨r1, r2, r3, r4, r5, r6, r7, r8, r9, r10, r11, r12, r13, r14, hR15⟩ := look_int hno9 ino
              generalize hkd : ((s9.nodes ino).map (·.kind)).getD 0 = kd at *
              generalize hok : (s9.nodes ino).isSome = ok at *
              have hlkO := fun V (hb : Below W10.heap.size W10 V) => ((hS10.sim.below hb).nodes (by decide)).look_ok Fs.kI (t := 65) Tryz.underlying65 (zvR V) (x := ino) hvO (kyI hvO)
              have hlkO1 := hlkO W10.drew (Below.refl _ _).drew
              have hlkO2 := hlkO (W10.alloc (.cells (Array.replicate 15 (.int .i64 0)) 74)).drew ((Below.refl _ _).alloc (Nat.le_refl _) _).drew
              replace hlkO1 : (Instr.lookup 65 (.map (some A.nodes)) (.int .i64 ino) true).run Tryz.prog W10.drew = .ok (.tuple #[.agg #[.int .i64 kd, .int .i64 (r1 : Nat), .int .i64 (r2 : Nat), .int .i64 (r3 : Nat), .int .i64 (r4 : Nat), .int .i64 (r5 : Nat), .int .i64 (r6 : Nat), .int .i64 (r7 : Nat), .int .i64 (r8 : Nat), .int .i64 (r9 : Nat), .int .i64 (r10 : Nat), .int .i64 (r11 : Nat), .int .i64 (r12 : Nat), .int .i64 (r13 : Nat), .int .i64 (r14 : Nat)], .bool ok]) W10.drew := hlkO1.trans (by rw [← hok, ← hR15])
              replace hlkO2 : (Instr.lookup 65 (.map (some A.nodes)) (.int .i64 ino) true).run Tryz.prog (W10.alloc (.cells #[.int .i64 0, .int .i64 0, .int .i64 0, .int .i64 0, .int .i64 0, .int .i64 0, .int .i64 0, .int .i64 0, .int .i64 0, .int .i64 0, .int .i64 0, .int .i64 0, .int .i64 0, .int .i64 0, .int .i64 0] 74)).drew = .ok (.tuple #[.agg #[.int .i64 kd, .int .i64 (r1 : Nat), .int .i64 (r2 : Nat), .int .i64 (r3 : Nat), .int .i64 (r4 : Nat), .int .i64 (r5 : Nat), .int .i64 (r6 : Nat), .int .i64 (r7 : Nat), .int .i64 (r8 : Nat), .int .i64 (r9 : Nat), .int .i64 (r10 : Nat), .int .i64 (r11 : Nat), .int .i64 (r12 : Nat), .int .i64 (r13 : Nat), .int .i64 (r14 : Nat)], .bool ok]) (W10.alloc (.cells #[.int .i64 0, .int .i64 0, .int .i64 0, .int .i64 0, .int .i64 0, .int .i64 0, .int .i64 0, .int .i64 0, .int .i64 0, .int .i64 0, .int .i64 0, .int .i64 0, .int .i64 0, .int .i64 0, .int .i64 0] 74)).drew := hlkO2.trans (by rw [← hok, ← hR15]; rfl)
              have heb10 : wr.heap.size < W10.heap.size := hE10.lt
              have hAc10 : A.c < W10.heap.size := (hS10.sim.low _ (by rw [hS10.sim.wC]; decide)).2
              have hS10' := Lib.hid hS10
              have hT10'' := Lib.hid hT10
              clear hlkO hR15 hS10 hT10 hT10' hS9 hT9 hE9 hE10 e91 e92 p1 p2 p3
              go_cut [17, 18] (fun s17 s18 wx => s17 = .pointer (some ⟨W10.heap.size, 0, none⟩) ∧ s18 = .bool ok ∧ wx.cell? ⟨W10.heap.size, 0, none⟩ = some (.int .i64 kd) ∧ Hid (Below W10.heap.size W10 wx))
              case first =>
                go_region_held3 (fun w' => w'.cell? ⟨A.c, 7, none⟩ = some (.map (some A.nodes)) ∧ w'.cell? ⟨wr.heap.size, 2, none⟩ = some (.int .i64 ino)) (go_keep) (fail)
                all_goals
                  go_wp2_with fail
                  go_meet
                  case rel => exact ⟨rfl, rfl, (Blk.new W10 _ _).cell 0, Lib.hid ((Below.refl _ _).alloc (Nat.le_refl _) _).drew⟩
              obtain ⟨rfl, rfl, hk0, hb18⟩ := hcut
              have hS11 := hS10'.out.below hb18.out
              have hT11 := hT10''.out.trans (Stp.of_below (G := G9) hb18.out).toD
              have hE11 := hE'.out.same (hT11.block _ hE'.out.lt hEw hEt.1 hEt.2)
              have hent := fun s12 (h12 : kindS nd dj s9 nm ino = s12) => (show entS nd dj (pl, nm, ino) = ⟨s12, fun p => if p = (nd, nm) then some 1 else dj.there p, fun i => if i = ino then some 1 else dj.parents i⟩ by
                unfold entS
                dsimp only
                rw [hs8.out, hthr, hs9.out, h12])
              have hnm12 : ∀ s12, kindS nd dj s9 nm ino = s12 → NamesOk (N + 100 * k + 6 * j + 6) s12 := by
                intro s12 h12
                have e9 : s9.names = s8.names := by rw [← hs9.out]; split <;> rfl
                have e12 : s12.names = s9.names := by
                  rw [← h12]; unfold kindS
                  split
                  · rfl
                  · split
                    · rfl
                    · split <;> rfl
                intro a v hv
                rw [e12, e9] at hv
                exact Nat.le_trans (hnm8.out a v hv) (by omega)
              have hend : ∀ wz Gz s12, SimD (N + 100 * k + 6 * j + 5) wz A Gz tB pB ⟨s12, fun p => if p = (nd, nm) then some 1 else dj.there p, dj.parents⟩ → StpD tB pB w6 G5 wz Gz → kindS nd dj s9 nm ino = s12 →
                  ∃ W13, (Instr.mapUpdate 66 (.map (some pB)) (.int .i64 ino) (.int .i64 1)).run Tryz.prog wz = .ok () W13 ∧ wz.cell? ⟨wr.heap.size, 1, none⟩ = some (.string (mk nm)) ∧ wz.cell? ⟨wr.heap.size, 2, none⟩ = some (.int .i64 ino) ∧
                    (∃ j' : Nat, Value.int .i64 ((j : Int) + 1) = .int .i64 j' ∧ j' ≤ r.length ∧ Hid (∃ G5, SimD (N + 100 * k + 6 * j') W13 A G5 tB pB ((r.take j').foldl (entS nd) d1) ∧ StpD tB pB w2 G1 W13 G5 ∧ NamesOk (N + 100 * k + 6 * j') ((r.take j').foldl (entS nd) d1).s)) := by
                intro wz Gz s12 hz tz h12
                obtain ⟨W13, v1, v2, v3⟩ := hz.parents.update Fs.kI (t := 66) Tryz.underlying66 (by unfold maxLen; omega) (kyI hvO) (injI hvO) (v := 1) (val := .int .i64 1) rfl
                obtain ⟨x1, x2⟩ := hz.putParents v2 v3
                have hEz := hE'.out.same (tz.block _ hE'.out.lt hEw hEt.1 hEt.2)
                refine ⟨W13, v1, hEz.cell 1, hEz.cell 2, j + 1, rfl, by omega, Lib.hid ⟨Gz, ?_, ?_, ?_⟩⟩
                · rw [hft.out, hent s12 h12]; exact x1
                · exact hT6'.out.trans (tz.trans x2)
                · rw [hft.out, hent s12 h12]; exact hnm12 s12 h12
              replace hend := Lib.hid hend
              clear hent hnm12
              have hkS : kindS nd dj s9 nm ino = kindS nd dj s9 nm ino := rfl
              conv at hkS => rhs; unfold kindS
              have hS11' := Lib.hid hS11
              have hT11' := Lib.hid hT11
              cases hnn : s9.nodes ino with
              | none =>
                rw [hnn] at hok hkd hkS
                obtain rfl : false = ok := hok
                have e1 := hE11.cell 1
                have e2 := hE11.cell 2
                have HT := tell_any hS11.sim (by omega) (fndN 12 nd nm)
                replace hkS := Lib.hid hkS
                clear hS11 hT11 hE11 hnn
                go_wp2_with (first | (go_at_call 60; refine HT.mono ?_; clear HT; rintro e w14 ⟨rfl, G14, y1, y2⟩; obtain ⟨W13, v1, g1, g2, fin⟩ := hend.out w14 G14 _ (hS11'.out.step y1 y2 (Nat.le_succ _)) (hT11'.out.trans y2.toD) hkS.out; replace fin := Lib.hid fin; clear y1 y2) | (refine wpList_update_run _ rfl 66 (.tmp 147) (.tmp 149) (.const (.int .i64 1)) rfl _ v1 ?_))
                go_roundw
                case rel => exact fin.out
                case measure => simp only [intOf]; omega
              | some y =>
                rw [hnn] at hok hkd hkS
                obtain rfl : true = ok := hok
                obtain rfl : y.kind = kd := hkd
                have e1 := hE11.cell 1
                have e2 := hE11.cell 2
                dsimp only at hkS
                by_cases c2 : y.kind = 2
                · rw [c2] at hk0
                  rw [if_neg (by simpa using c2)] at hkS
                  have hlkP := hS11.parents.look Fs.kI (t := 66) Tryz.underlying66 (zvI _) (x := ino) hvO (kyI hvO)
                  dsimp only at hlkP
                  have hmP : ((dj.parents ino).map iv).getD (.int .i64 0) = iv ((dj.parents ino).getD 0) := by cases dj.parents ino <;> rfl
                  replace hlkP : (Instr.lookup 66 (.map (some pB)) (.int .i64 ino) false).run Tryz.prog wc = .ok (iv ((dj.parents ino).getD 0)) wc := hlkP.trans (by rw [← hmP])
                  generalize (dj.parents ino).getD 0 = pv at *
                  by_cases c3 : ino = 1
                  · rw [if_pos (.inl c3)] at hkS
                    replace hkS := Lib.hid hkS
                    have HT := tell_any hS11.sim (by omega) (fndN 13 ino nm)
                    subst c3
                    clear hS11 hT11 hE11 hnn c2 hmP
                    go_wp2_with (first | (go_at_call 60; refine HT.mono ?_; clear HT; rintro e w14 ⟨rfl, G14, y1, y2⟩; obtain ⟨W13, v1, g1, g2, fin⟩ := hend.out w14 G14 _ (hS11'.out.step y1 y2 (Nat.le_succ _)) (hT11'.out.trans y2.toD) hkS.out; replace fin := Lib.hid fin; clear y1 y2) | (refine wpList_update_run _ rfl 66 (.tmp 147) (.tmp 149) (.const (.int .i64 1)) rfl _ v1 ?_))
                    go_roundw
                    case rel => exact fin.out
                    case measure => simp only [intOf]; omega
                  · have c3' : ¬ (ino : Int) = 1 := by omega
                    by_cases c4 : 0 < pv
                    · rw [if_pos (.inr c4)] at hkS
                      replace hkS := Lib.hid hkS
                      have c4' : (0 : Int) < pv := by omega
                      have HT := tell_any hS11.sim (by omega) (fndN 13 ino nm)
                      clear hS11 hT11 hE11 hnn c2 hmP
                      go_wp2_with (first | (refine wpList_lookup_run _ rfl 66 (.tmp 134) (.tmp 136) false rfl _ hlkP ?_) | (go_at_call 60; refine HT.mono ?_; clear HT; rintro e w14 ⟨rfl, G14, y1, y2⟩; obtain ⟨W13, v1, g1, g2, fin⟩ := hend.out w14 G14 _ (hS11'.out.step y1 y2 (Nat.le_succ _)) (hT11'.out.trans y2.toD) hkS.out; replace fin := Lib.hid fin; clear y1 y2) | (refine wpList_update_run _ rfl 66 (.tmp 147) (.tmp 149) (.const (.int .i64 1)) rfl _ v1 ?_))
                      go_roundw
                      case rel => exact fin.out
                      case measure => simp only [intOf]; omega
                    · rw [if_neg (by rintro (h | h); exact c3 h; exact c4 h)] at hkS
                      replace hkS := Lib.hid hkS
                      have c4' : ¬ (0 : Int) < pv := by omega
                      obtain ⟨W13, v1, g1, g2, fin⟩ := hend.out wc G9 _ (hS11.mono (Nat.le_succ _)) hT11 hkS.out
                      replace fin := Lib.hid fin
                      clear hS11 hT11 hE11 hnn c2 hmP
                      go_wp2_with (first | (refine wpList_lookup_run _ rfl 66 (.tmp 134) (.tmp 136) false rfl _ hlkP ?_) | (refine wpList_update_run _ rfl 66 (.tmp 147) (.tmp 149) (.const (.int .i64 1)) rfl _ v1 ?_))
                      go_roundw
                      case rel => exact fin.out
                      case measure => simp only [intOf]; omega
                · rw [if_pos (by simpa using c2)] at hkS
                  replace hkS := Lib.hid hkS
                  have c2' : ¬ (y.kind : Int) = 2 := by omega
                  obtain ⟨W13, v1, g1, g2, fin⟩ := hend.out wc G9 _ (hS11.mono (Nat.le_succ _)) hT11 hkS.out
                  replace fin := Lib.hid fin
                  clear hS11 hT11 hE11 hnn
                  go_wp2_with (refine wpList_update_run _ rfl 66 (.tmp 147) (.tmp 149) (.const (.int .i64 1)) rfl _ v1 ?_)
                  go_roundw
                  case rel => exact fin.out
                  case measure => simp only [intOf]; omega
            · obtain rfl : j = r.length := by omega
              have hcj : ¬ (r.length : Int) < (r.length : Int) := by omega
              rw [List.take_length] at hS5 hnm5
              have hfk := fold_keeps nd r d1
              have hfin := Lib.hid (show SimD (N + 100 * (k + 1)) wr A G5 tB pB (r.foldl (entS nd) d1) ∧ StpD tB pB W0 G wr G5 ∧ NodesOk (r.foldl (entS nd) d1).s ∧ BlocksOk A.n (r.foldl (entS nd) d1).s ∧ NamesOk (N + 100 * (k + 1)) (r.foldl (entS nd) d1).s from
                ⟨hS5.mono (by omega), hT2.out.trans hT5, by unfold NodesOk; rw [hfk.1]; exact hno1.out, by unfold BlocksOk; rw [hfk.2]; exact hbo1.out, fun a v hv => Nat.le_trans (hnm5 a v hv) (by omega)⟩)
              clear hS5 hT5 hnm5 hJ hfk
              go_wp2_with fail
              rw [← hQ]
              go_wp2_with fail
              refine ⟨⟨k + 1, G5, _, rfl, by omega, Lib.hid ⟨hfin.out.1, hfin.out.2.1, hfin.out.2.2.1, hfin.out.2.2.2.1, hfin.out.2.2.2.2, hgo.out⟩⟩, ?_⟩
              simp only [intOf]; omega
    · obtain rfl : k = m := by omega
      have hci : ¬ (k : Int) < (k : Int) := by omega
      have hgo' := Lib.hid (show d1 = df by rw [Nat.sub_self] at hgo; exact hgo)
      go_wp2_with fail
      go_end0
      exact ⟨rfl, G1, by rw [← hgo'.out]; exact hS.mono (by omega), hT0.out.trans hT, by rw [← hgo'.out]; exact ⟨hno1, hbo1, fun a v hv => Nat.le_trans (hnm1 a v hv) (by omega)⟩⟩
end
end Ck
end Go.Proofs.YtegplehbcdeeoaaGreatDoor
