/- RamRefused: cells of calls, rooms and answers. -/
import Derived.Test.YtlnnbjgfpiefdaaGreatRamB40
namespace Go.Proofs.YtlnnbjgfpiefdaaGreat
open Go.RowKit Go.Maps Go.Shelf

namespace Fs
theorem callCells {w : World} {b : Nat} {c : Call} {t : TypeId} (h : Blk w b (callC c) t) : w.cell? ⟨b, 0, none⟩ = some (.int .i64 c.kind) ∧ w.cell? ⟨b, 1, none⟩ = some (.string (mk c.path)) ∧ w.cell? ⟨b, 2, none⟩ = some (.string (mk c.other)) ∧ w.cell? ⟨b, 3, none⟩ = some (.int .i64 c.off) ∧ w.cell? ⟨b, 4, none⟩ = some (.int .i64 c.size) ∧ w.cell? ⟨b, 5, none⟩ = some (.string (mk c.data)) := ⟨h.cell 0, h.cell 1, h.cell 2, h.cell 3, h.cell 4, h.cell 5⟩
theorem roomCells {w : World} {b : Nat} {r : Room} {t : TypeId} (h : Blk w b (roomC r) t) : w.cell? ⟨b, 0, none⟩ = some (.int .i64 r.freeB) ∧ w.cell? ⟨b, 1, none⟩ = some (.int .i64 r.blocks) ∧ w.cell? ⟨b, 2, none⟩ = some (.int .i64 r.freeI) ∧ w.cell? ⟨b, 3, none⟩ = some (.int .i64 r.inodes) := ⟨h.cell 0, h.cell 1, h.cell 2, h.cell 3⟩
theorem ansCells {w : World} {b : Nat} {a : Ans} {v : Value} {t : TypeId} (h : Blk w b (ansC a v) t) : w.cell? ⟨b, 0, none⟩ = some (.int .i64 a.err) ∧ w.cell? ⟨b, 1, none⟩ = some (.int .i64 a.n) ∧ w.cell? ⟨b, 2, none⟩ = some (.string (mk a.data)) ∧ w.cell? ⟨b, 3, none⟩ = some (.int .i64 a.stat.inode) ∧ w.cell? ⟨b, 4, none⟩ = some (.int .i64 a.stat.kind) ∧ w.cell? ⟨b, 5, none⟩ = some (.int .i64 a.stat.links) ∧ w.cell? ⟨b, 6, none⟩ = some (.int .i64 a.stat.size) ∧ w.cell? ⟨b, 7, none⟩ = some (.int .i64 a.stat.blocks) ∧ w.cell? ⟨b, 8, none⟩ = some (v) ∧ w.cell? ⟨b, 9, none⟩ = some (.int .i64 a.room.freeB) ∧ w.cell? ⟨b, 10, none⟩ = some (.int .i64 a.room.blocks) ∧ w.cell? ⟨b, 11, none⟩ = some (.int .i64 a.room.freeI) ∧ w.cell? ⟨b, 12, none⟩ = some (.int .i64 a.room.inodes) := ⟨h.cell 0, h.cell 1, h.cell 2, h.cell 3, h.cell 4, h.cell 5, h.cell 6, h.cell 7, h.cell 8, h.cell 9, h.cell 10, h.cell 11, h.cell 12⟩
theorem neq_stat0 (w : World) : (binOp .neq 32 (.agg #[.int .i64 0, .int .i64 0, .int .i64 0, .int .i64 0, .int .i64 0]) (.agg #[.int .i64 0, .int .i64 0, .int .i64 0, .int .i64 0, .int .i64 0])).run Tryz.prog w = .ok (.bool false) w := by kernel_rfl
theorem neq_room0 (w : World) : (binOp .neq 29 (.agg #[.int .i64 0, .int .i64 0, .int .i64 0, .int .i64 0]) (.agg #[.int .i64 0, .int .i64 0, .int .i64 0, .int .i64 0])).run Tryz.prog w = .ok (.bool false) w := by kernel_rfl
end Fs
end Go.Proofs.YtlnnbjgfpiefdaaGreat
/- RamRefused: one kind of call. -/
namespace Go.Proofs.YtlnnbjgfpiefdaaGreat
open Go.RowKit Go.Maps Go.Shelf

namespace Fs
section
variable {W : World}
set_option maxRecDepth 100000 in
set_option maxHeartbeats 8000000 in
theorem refused_low (v : Int) (l : List Call) (ao : Option Addr) (cap : Nat) (c : Call) (hl : CallsAt W ao l) (hcl : ∀ c ∈ l, CallOk c) (hc : CallOk c) (hkd : c.kind ≠ 3 ∧ c.kind < 11) :
    Calls Tryz.prog 4 #[.int .i64 v, .slice ao l.length cap, .agg (callC c)] W fun e W' => e = .returned (.bool true) ∧ Below W.heap.size W W' := by
  obtain ⟨X, hX⟩ : ∃ x, x = W.alloc (.cells (callC c) 38) := ⟨_, rfl⟩
  have hbX : Below W.heap.size W X := by rw [hX]; exact (Below.refl _ _).alloc (Nat.le_refl _) _
  have bc : Blk X W.heap.size (callC c) 38 := by rw [hX]; exact Blk.new _ _ _
  have hXs : X.heap.size = W.heap.size + 1 := by rw [hX]; simp
  have HM := made_go hbX hXs v l ao cap hl hcl
  have k3 : (c.kind == 3) = false := beq_eq_false_iff_ne.2 hkd.1
  have k11 : ¬ 11 ≤ c.kind := by omega
  have hkd' := Lib.hid hkd
  clear hkd
  have hcC : callC c = #[.int .i64 c.kind, .string (mk c.path), .string (mk c.other), .int .i64 c.off, .int .i64 c.size, .string (mk c.data)] := rfl
  rw [hcC] at hX ⊢
  have hcC := Lib.hid hcC
  have HX := Lib.hid (And.intro hbX hXs)
  clear hbX hXs
  go_enter Tryz.func4, Tryz.ntmps4
  go_wp2_with fail
  rw [← hX]
  clear hX
  refine HM.mono ?_
  rintro e w1 ⟨fb, n, nb, L1, k, rfl, G1, hI, hR, hk, h1, h2, hb1⟩
  generalize stOf L1 nb = s at *
  have lt1 : W.heap.size < w1.heap.size := by have := HX.2; have := hb1.size; omega
  have ob1 : OffB w1 L1 W.heap.size (callC c) 38 := ⟨bc.same (hb1.block _ bc.lt), fun hm => by have := G1.own _ hm; omega⟩
  clear HM bc
  have HG := Lib.hid (And.intro G1 (And.intro ob1 hb1))
  have HW := whole_go G1 lt1 hI (by omega) h1 h2
  clear G1 ob1 hb1
  go_wp2_with fail
  refine HW.mono ?_
  clear HW
  rintro e w2 ⟨L2, v2, rfl, G2, r2, T2, lt2⟩
  obtain ⟨G1, ob1, hb1⟩ := HG
  have ob2 := ob1.step T2
  have HR := room_go G2 lt2 hI (by omega) h1 h2
  have HG := Lib.hid (And.intro ob2 r2)
  clear G1 ob1 hb1 T2 G2 ob2 r2
  go_wp2_with fail
  refine HR.mono ?_
  clear HR
  rintro e w3 ⟨L3, rfl, G3, T3, lt3⟩
  obtain ⟨ob2, r2⟩ := HG
  obtain ⟨Y3, hs3, br3, hy3, hz3⟩ := put_room (w := w3) (cs := roomC (roomN n s)) rfl (by simp [roomC, Value.oneCell'])
  have G3' := G3.grow hy3
  have or3 : OffB Y3 L3 w3.heap.size (roomC (roomN n s)) 29 := ⟨br3, G3.sim.not_mine (Nat.le_refl _)⟩
  have ob3 := (ob2.step T3).below hy3
  have r3 := (r2.step T3).below hy3
  have ltY : W.heap.size < Y3.heap.size := by omega
  have HD := do_go G3' ltY hI (by omega) h1 h2 c hc
  have HD2 := Lib.hid (fun w L (G : Go1 W fb n nb s w L) (lt : W.heap.size < w.heap.size) => do_go G lt hI (by omega) h1 h2 c hc)
  have hds := Lib.hid (doC_same n s c)
  have hnm := Lib.hid (doC_names hI (by omega) c)
  have hde := Lib.hid (doC_err n s c)
  have hdi := Lib.hid (do_inv hI hR (by omega) h1 h2 c)
  generalize doC n s c = rr at *
  obtain ⟨s', a⟩ := rr
  dsimp only at HD
  obtain ⟨qa, qb, qc, qd, qe, qf⟩ := callCells ob3.1
  rw [hcC] at HD
  have HG := Lib.hid (And.intro ob3 (And.intro r3 or3))
  unfold roomC at hs3
  clear G3 T3 ob2 r2 br3 hy3 hz3 G3' or3 ob3 r3
  go_wp2_with (refine wpList_store_run _ rfl (.tmp 10) (.tmp 26) 29 rfl Y3 hs3 ?_)
  refine HD.mono ?_
  clear HD qa qb qc qd qe qf hs3
  rintro e w4 ⟨L4, nv, rfl, G4, on4, nn4, T4, lt4⟩
  obtain ⟨ao4, cp4, rfl, _⟩ := own_shape2 on4.1.choose_spec
  obtain ⟨ob3, r3, or3⟩ := HG
  obtain ⟨Y4, hs4, ba4, hy4, hz4⟩ := put_answer (w := w4) (cs := ansC a (.slice ao4 a.names.length cp4)) rfl (by simp [ansC, Value.oneCell'])
  have G4' := G4.grow hy4
  have ob4 := (ob3.step T4).below hy4
  have or4 := (or3.step T4).below hy4
  have r4 := (r3.step T4).below hy4
  have on4' := on4.below hy4
  have oa4 : OffB Y4 L4 w4.heap.size (ansC a (.slice ao4 a.names.length cp4)) 42 := ⟨ba4, G4.sim.not_mine (Nat.le_refl _)⟩
  have lt4' : W.heap.size < Y4.heap.size := by omega
  have HW := whole_go G4' lt4' hdi.1 (by omega) h1 h2
  have HG := Lib.hid (And.intro ob4 (And.intro r4 (And.intro or4 (And.intro on4' (And.intro oa4 nn4)))))
  have hAC : ansC a (.slice ao4 a.names.length cp4) = #[.int .i64 a.err, .int .i64 a.n, .string (mk a.data), .int .i64 a.stat.inode, .int .i64 a.stat.kind, .int .i64 a.stat.links, .int .i64 a.stat.size, .int .i64 a.stat.blocks, .slice ao4 a.names.length cp4, .int .i64 a.room.freeB, .int .i64 a.room.blocks, .int .i64 a.room.freeI, .int .i64 a.room.inodes] := rfl
  rw [hAC] at hs4
  unfold ansC
  clear G4 T4 ob3 r3 or3 ob4 r4 or4 on4 on4' oa4 ba4 G4' hy4 hz4 nn4 hAC
  go_wp2_with (refine wpList_store_run _ rfl (.tmp 11) (.tmp 29) 42 rfl Y4 hs4 ?_)
  refine HW.mono ?_
  clear HW hs4
  rintro e w5 ⟨L5, v5, rfl, G5, r5, T5, lt5⟩
  obtain ⟨ob4, r4, or4, on4, oa4, nn4⟩ := HG
  have ob5 := ob4.step T5
  have or5 := or4.step T5
  have rr5 := r4.step T5
  have on5 := on4.step T5
  have oa5 := oa4.step T5
  obtain ⟨qa, qb, qc, qd, qe, qf⟩ := callCells ob5.1
  by_cases he : a.err = 0
  · obtain ⟨a0, _⟩ := ansCells oa5.1
    rw [he] at a0
    have hbelow := Lib.hid G5.below
    clear he ob5 or5 rr5 on5 oa5 ob4 r4 or4 on4 oa4 nn4 T5 G5 r5 hds hde hdi HD2 hnm
    go_wp2_with fail
    go_ret
    exact ⟨rfl, hbelow⟩
  · have hss : s' = s := hds (.inl he)
    subst hss
    have hae : a = { err := a.err } := hde he
    have hnz := nn4.2 (by rw [hae])
    rw [hnz] at oa5 on5
    clear hnz
    generalize a.err = z at *
    subst hae
    obtain ⟨a0, a1, a2, a3, a4, a5, a6, a7, a8, a9, a10, a11, a12⟩ := ansCells oa5.1
    dsimp only at a0 a1 a2 a3 a4 a5 a6 a7 a8 a9 a10 a11 a12
    rw [show mk [] = { data := #[] } from rfl] at a2
    have hzn : (z != 0) = true := bne_iff_ne.2 he
    have hze : (z == 0) = false := beq_eq_false_iff_ne.2 he
    have n1 := neq_stat0 w5
    have n2 := neq_room0 w5
    have hbelow := Lib.hid G5.below
    have hn1 : (things s').length ≤ 1000000 := by have := hI.lst_len (K := 33) (by omega); unfold things; rw [List.length_map]; omega
    have hn2 : ({ err := z } : Ans).names.length ≤ 1000000 := Nat.zero_le _
    have ccw5 : w5.cell? ⟨W.heap.size, 0, none⟩ = some (.int .i64 c.kind) ∧ w5.cell? ⟨W.heap.size, 1, none⟩ = some (.string (mk c.path)) ∧ w5.cell? ⟨W.heap.size, 2, none⟩ = some (.string (mk c.other)) ∧ w5.cell? ⟨W.heap.size, 3, none⟩ = some (.int .i64 c.off) ∧ w5.cell? ⟨W.heap.size, 4, none⟩ = some (.int .i64 c.size) ∧ w5.cell? ⟨W.heap.size, 5, none⟩ = some (.string (mk c.data)) := callCells ob5.1; have rcw5 : w5.cell? ⟨w3.heap.size, 0, none⟩ = some (.int .i64 (roomN n s').freeB) ∧ w5.cell? ⟨w3.heap.size, 1, none⟩ = some (.int .i64 (roomN n s').blocks) ∧ w5.cell? ⟨w3.heap.size, 2, none⟩ = some (.int .i64 (roomN n s').freeI) ∧ w5.cell? ⟨w3.heap.size, 3, none⟩ = some (.int .i64 (roomN n s').inodes) := roomCells or5.1; have acw5 : w5.cell? ⟨w4.heap.size, 0, none⟩ = some (.int .i64 z) ∧ w5.cell? ⟨w4.heap.size, 1, none⟩ = some (.int .i64 0) ∧ w5.cell? ⟨w4.heap.size, 2, none⟩ = some (.string { data := #[] }) ∧ w5.cell? ⟨w4.heap.size, 3, none⟩ = some (.int .i64 0) ∧ w5.cell? ⟨w4.heap.size, 4, none⟩ = some (.int .i64 0) ∧ w5.cell? ⟨w4.heap.size, 5, none⟩ = some (.int .i64 0) ∧ w5.cell? ⟨w4.heap.size, 6, none⟩ = some (.int .i64 0) ∧ w5.cell? ⟨w4.heap.size, 7, none⟩ = some (.int .i64 0) ∧ w5.cell? ⟨w4.heap.size, 8, none⟩ = some (.slice none 0 0) ∧ w5.cell? ⟨w4.heap.size, 9, none⟩ = some (.int .i64 0) ∧ w5.cell? ⟨w4.heap.size, 10, none⟩ = some (.int .i64 0) ∧ w5.cell? ⟨w4.heap.size, 11, none⟩ = some (.int .i64 0) ∧ w5.cell? ⟨w4.heap.size, 12, none⟩ = some (.int .i64 0) := ansCells oa5.1
    have H5 := Lib.hid (And.intro G5 (And.intro ob5 (And.intro or5 (And.intro rr5 (And.intro on5 (And.intro oa5 r5))))))
    have HS := Lib.hid (same_things (W := w5.drew) rr5.1.choose_spec r5.1.choose_spec hn1)
    have HRm := Lib.hid (fun w L (G : Go1 W fb n nb s' w L) (lt : W.heap.size < w.heap.size) => room_go G lt hI (by omega) h1 h2)
    have HSA := Lib.hid (fun w va vb L (hA : OffN w L va ({ err := z } : Ans).names) (hB : OffN w L vb ({ err := z } : Ans).names) (hl : ({ err := z } : Ans).names.length ≤ 1000000) => same_answers (a := ({ err := z } : Ans)) hA.1.choose_spec hB.1.choose_spec hl)
    have er := fun w => eql_room w (roomN n s').freeB (roomN n s').blocks (roomN n s').freeI (roomN n s').inodes
    clear ob5 or5 rr5 on5 oa5 ob4 r4 or4 on4 oa4 nn4 T5 G5 r5 hds hde hdi he hnm
    (try dsimp only at HD2)
    go_wp2_with fail
    go_region_held3 (fun w' => (w'.cell? ⟨W.heap.size, 0, none⟩ = some (.int .i64 c.kind) ∧ w'.cell? ⟨W.heap.size, 1, none⟩ = some (.string (mk c.path)) ∧ w'.cell? ⟨W.heap.size, 2, none⟩ = some (.string (mk c.other)) ∧ w'.cell? ⟨W.heap.size, 3, none⟩ = some (.int .i64 c.off) ∧ w'.cell? ⟨W.heap.size, 4, none⟩ = some (.int .i64 c.size) ∧ w'.cell? ⟨W.heap.size, 5, none⟩ = some (.string (mk c.data))) ∧ (w'.cell? ⟨w3.heap.size, 0, none⟩ = some (.int .i64 (roomN n s').freeB) ∧ w'.cell? ⟨w3.heap.size, 1, none⟩ = some (.int .i64 (roomN n s').blocks) ∧ w'.cell? ⟨w3.heap.size, 2, none⟩ = some (.int .i64 (roomN n s').freeI) ∧ w'.cell? ⟨w3.heap.size, 3, none⟩ = some (.int .i64 (roomN n s').inodes)) ∧ (w'.cell? ⟨w4.heap.size, 0, none⟩ = some (.int .i64 z) ∧ w'.cell? ⟨w4.heap.size, 1, none⟩ = some (.int .i64 0) ∧ w'.cell? ⟨w4.heap.size, 2, none⟩ = some (.string { data := #[] }) ∧ w'.cell? ⟨w4.heap.size, 3, none⟩ = some (.int .i64 0) ∧ w'.cell? ⟨w4.heap.size, 4, none⟩ = some (.int .i64 0) ∧ w'.cell? ⟨w4.heap.size, 5, none⟩ = some (.int .i64 0) ∧ w'.cell? ⟨w4.heap.size, 6, none⟩ = some (.int .i64 0) ∧ w'.cell? ⟨w4.heap.size, 7, none⟩ = some (.int .i64 0) ∧ w'.cell? ⟨w4.heap.size, 8, none⟩ = some (.slice none 0 0) ∧ w'.cell? ⟨w4.heap.size, 9, none⟩ = some (.int .i64 0) ∧ w'.cell? ⟨w4.heap.size, 10, none⟩ = some (.int .i64 0) ∧ w'.cell? ⟨w4.heap.size, 11, none⟩ = some (.int .i64 0) ∧ w'.cell? ⟨w4.heap.size, 12, none⟩ = some (.int .i64 0))) (refine ⟨?_, ?_, ?_⟩ <;> assumption) (first | ((go_at_call 13; have hc' := HSA; unfold Hid at hc'; refine (hc' w8 nv8 (.slice none 0 0) L8 H8.2.2.2.1 H8.2.2.2.2.1 hn2).mono ?_; clear hc'; rintro e w9 ⟨rfl, hb9⟩; obtain ⟨G8, ob8, or8, on8, on8b, oa8⟩ := H8; have hfin := Lib.hid ((G8.grow hb9).below); have ob9 := ob8.below hb9; have or9 := or8.below hb9; have oa9 := oa8.below hb9; have ccw9 : w9.cell? ⟨W.heap.size, 0, none⟩ = some (.int .i64 c.kind) ∧ w9.cell? ⟨W.heap.size, 1, none⟩ = some (.string (mk c.path)) ∧ w9.cell? ⟨W.heap.size, 2, none⟩ = some (.string (mk c.other)) ∧ w9.cell? ⟨W.heap.size, 3, none⟩ = some (.int .i64 c.off) ∧ w9.cell? ⟨W.heap.size, 4, none⟩ = some (.int .i64 c.size) ∧ w9.cell? ⟨W.heap.size, 5, none⟩ = some (.string (mk c.data)) := callCells ob9.1; have rcw9 : w9.cell? ⟨w3.heap.size, 0, none⟩ = some (.int .i64 (roomN n s').freeB) ∧ w9.cell? ⟨w3.heap.size, 1, none⟩ = some (.int .i64 (roomN n s').blocks) ∧ w9.cell? ⟨w3.heap.size, 2, none⟩ = some (.int .i64 (roomN n s').freeI) ∧ w9.cell? ⟨w3.heap.size, 3, none⟩ = some (.int .i64 (roomN n s').inodes) := roomCells or9.1; have acw9 : w9.cell? ⟨w4.heap.size, 0, none⟩ = some (.int .i64 z) ∧ w9.cell? ⟨w4.heap.size, 1, none⟩ = some (.int .i64 0) ∧ w9.cell? ⟨w4.heap.size, 2, none⟩ = some (.string { data := #[] }) ∧ w9.cell? ⟨w4.heap.size, 3, none⟩ = some (.int .i64 0) ∧ w9.cell? ⟨w4.heap.size, 4, none⟩ = some (.int .i64 0) ∧ w9.cell? ⟨w4.heap.size, 5, none⟩ = some (.int .i64 0) ∧ w9.cell? ⟨w4.heap.size, 6, none⟩ = some (.int .i64 0) ∧ w9.cell? ⟨w4.heap.size, 7, none⟩ = some (.int .i64 0) ∧ w9.cell? ⟨w4.heap.size, 8, none⟩ = some (.slice none 0 0) ∧ w9.cell? ⟨w4.heap.size, 9, none⟩ = some (.int .i64 0) ∧ w9.cell? ⟨w4.heap.size, 10, none⟩ = some (.int .i64 0) ∧ w9.cell? ⟨w4.heap.size, 11, none⟩ = some (.int .i64 0) ∧ w9.cell? ⟨w4.heap.size, 12, none⟩ = some (.int .i64 0) := ansCells oa9.1; clear G8 ob8 or8 on8 on8b oa8 hb9 ob9 or9 oa9)) | ((go_at_call 11; have hc' := HD2; unfold Hid at hc'; refine (hc' w7 L7 H7.1 lt7).mono ?_; clear hc'; rintro e w8 ⟨L8, nv8, rfl, G8, on8, nn8, T8, lt8⟩; obtain ⟨_, ob7, or7, on7, oa7⟩ := H7; have ob8 := ob7.step T8; have or8 := or7.step T8; have on8b := on7.step T8; have oa8 := oa7.step T8; have ccw8 : w8.cell? ⟨W.heap.size, 0, none⟩ = some (.int .i64 c.kind) ∧ w8.cell? ⟨W.heap.size, 1, none⟩ = some (.string (mk c.path)) ∧ w8.cell? ⟨W.heap.size, 2, none⟩ = some (.string (mk c.other)) ∧ w8.cell? ⟨W.heap.size, 3, none⟩ = some (.int .i64 c.off) ∧ w8.cell? ⟨W.heap.size, 4, none⟩ = some (.int .i64 c.size) ∧ w8.cell? ⟨W.heap.size, 5, none⟩ = some (.string (mk c.data)) := callCells ob8.1; have rcw8 : w8.cell? ⟨w3.heap.size, 0, none⟩ = some (.int .i64 (roomN n s').freeB) ∧ w8.cell? ⟨w3.heap.size, 1, none⟩ = some (.int .i64 (roomN n s').blocks) ∧ w8.cell? ⟨w3.heap.size, 2, none⟩ = some (.int .i64 (roomN n s').freeI) ∧ w8.cell? ⟨w3.heap.size, 3, none⟩ = some (.int .i64 (roomN n s').inodes) := roomCells or8.1; have acw8 : w8.cell? ⟨w4.heap.size, 0, none⟩ = some (.int .i64 z) ∧ w8.cell? ⟨w4.heap.size, 1, none⟩ = some (.int .i64 0) ∧ w8.cell? ⟨w4.heap.size, 2, none⟩ = some (.string { data := #[] }) ∧ w8.cell? ⟨w4.heap.size, 3, none⟩ = some (.int .i64 0) ∧ w8.cell? ⟨w4.heap.size, 4, none⟩ = some (.int .i64 0) ∧ w8.cell? ⟨w4.heap.size, 5, none⟩ = some (.int .i64 0) ∧ w8.cell? ⟨w4.heap.size, 6, none⟩ = some (.int .i64 0) ∧ w8.cell? ⟨w4.heap.size, 7, none⟩ = some (.int .i64 0) ∧ w8.cell? ⟨w4.heap.size, 8, none⟩ = some (.slice none 0 0) ∧ w8.cell? ⟨w4.heap.size, 9, none⟩ = some (.int .i64 0) ∧ w8.cell? ⟨w4.heap.size, 10, none⟩ = some (.int .i64 0) ∧ w8.cell? ⟨w4.heap.size, 11, none⟩ = some (.int .i64 0) ∧ w8.cell? ⟨w4.heap.size, 12, none⟩ = some (.int .i64 0) := ansCells oa8.1; have H8 := Lib.hid (And.intro G8 (And.intro ob8 (And.intro or8 (And.intro on8 (And.intro on8b oa8))))); clear ob7 or7 on7 oa7 T8 G8 ob8 or8 on8 on8b oa8 nn8)) | ((go_at_call 9; have hc' := HRm; unfold Hid at hc'; refine (hc' w6 L5 H6.1 lt6).mono ?_; clear hc'; rintro e w7 ⟨L7, rfl, G7, T7, lt7⟩; unfold roomC; obtain ⟨_, ob6, or6, on6, oa6⟩ := H6; have ob7 := ob6.step T7; have or7 := or6.step T7; have on7 := on6.step T7; have oa7 := oa6.step T7; have ccw7 : w7.cell? ⟨W.heap.size, 0, none⟩ = some (.int .i64 c.kind) ∧ w7.cell? ⟨W.heap.size, 1, none⟩ = some (.string (mk c.path)) ∧ w7.cell? ⟨W.heap.size, 2, none⟩ = some (.string (mk c.other)) ∧ w7.cell? ⟨W.heap.size, 3, none⟩ = some (.int .i64 c.off) ∧ w7.cell? ⟨W.heap.size, 4, none⟩ = some (.int .i64 c.size) ∧ w7.cell? ⟨W.heap.size, 5, none⟩ = some (.string (mk c.data)) := callCells ob7.1; have rcw7 : w7.cell? ⟨w3.heap.size, 0, none⟩ = some (.int .i64 (roomN n s').freeB) ∧ w7.cell? ⟨w3.heap.size, 1, none⟩ = some (.int .i64 (roomN n s').blocks) ∧ w7.cell? ⟨w3.heap.size, 2, none⟩ = some (.int .i64 (roomN n s').freeI) ∧ w7.cell? ⟨w3.heap.size, 3, none⟩ = some (.int .i64 (roomN n s').inodes) := roomCells or7.1; have acw7 : w7.cell? ⟨w4.heap.size, 0, none⟩ = some (.int .i64 z) ∧ w7.cell? ⟨w4.heap.size, 1, none⟩ = some (.int .i64 0) ∧ w7.cell? ⟨w4.heap.size, 2, none⟩ = some (.string { data := #[] }) ∧ w7.cell? ⟨w4.heap.size, 3, none⟩ = some (.int .i64 0) ∧ w7.cell? ⟨w4.heap.size, 4, none⟩ = some (.int .i64 0) ∧ w7.cell? ⟨w4.heap.size, 5, none⟩ = some (.int .i64 0) ∧ w7.cell? ⟨w4.heap.size, 6, none⟩ = some (.int .i64 0) ∧ w7.cell? ⟨w4.heap.size, 7, none⟩ = some (.int .i64 0) ∧ w7.cell? ⟨w4.heap.size, 8, none⟩ = some (.slice none 0 0) ∧ w7.cell? ⟨w4.heap.size, 9, none⟩ = some (.int .i64 0) ∧ w7.cell? ⟨w4.heap.size, 10, none⟩ = some (.int .i64 0) ∧ w7.cell? ⟨w4.heap.size, 11, none⟩ = some (.int .i64 0) ∧ w7.cell? ⟨w4.heap.size, 12, none⟩ = some (.int .i64 0) := ansCells oa7.1; have H7 := Lib.hid (And.intro G7 (And.intro ob7 (And.intro or7 (And.intro on7 oa7)))); clear ob6 or6 on6 oa6 T7 G7 ob7 or7 on7 oa7)) | ((go_at_call 12; have hc' := HS; unfold Hid at hc'; refine hc'.mono ?_; clear hc'; rintro e w6 ⟨rfl, hb6⟩; obtain ⟨G5, ob5, or5, rr5, on5, oa5, r5⟩ := H5; have hb6' : Below w5.heap.size w5 w6 := ⟨hb6.os, hb6.tape, hb6.output, hb6.size, hb6.block⟩; have G6 := G5.grow hb6'; have lt6 : W.heap.size < w6.heap.size := Nat.lt_of_lt_of_le lt5 hb6'.size; have ob6 := ob5.below hb6'; have or6 := or5.below hb6'; have on6 := on5.below hb6'; have oa6 := oa5.below hb6'; have ccw6 : w6.cell? ⟨W.heap.size, 0, none⟩ = some (.int .i64 c.kind) ∧ w6.cell? ⟨W.heap.size, 1, none⟩ = some (.string (mk c.path)) ∧ w6.cell? ⟨W.heap.size, 2, none⟩ = some (.string (mk c.other)) ∧ w6.cell? ⟨W.heap.size, 3, none⟩ = some (.int .i64 c.off) ∧ w6.cell? ⟨W.heap.size, 4, none⟩ = some (.int .i64 c.size) ∧ w6.cell? ⟨W.heap.size, 5, none⟩ = some (.string (mk c.data)) := callCells ob6.1; have rcw6 : w6.cell? ⟨w3.heap.size, 0, none⟩ = some (.int .i64 (roomN n s').freeB) ∧ w6.cell? ⟨w3.heap.size, 1, none⟩ = some (.int .i64 (roomN n s').blocks) ∧ w6.cell? ⟨w3.heap.size, 2, none⟩ = some (.int .i64 (roomN n s').freeI) ∧ w6.cell? ⟨w3.heap.size, 3, none⟩ = some (.int .i64 (roomN n s').inodes) := roomCells or6.1; have acw6 : w6.cell? ⟨w4.heap.size, 0, none⟩ = some (.int .i64 z) ∧ w6.cell? ⟨w4.heap.size, 1, none⟩ = some (.int .i64 0) ∧ w6.cell? ⟨w4.heap.size, 2, none⟩ = some (.string { data := #[] }) ∧ w6.cell? ⟨w4.heap.size, 3, none⟩ = some (.int .i64 0) ∧ w6.cell? ⟨w4.heap.size, 4, none⟩ = some (.int .i64 0) ∧ w6.cell? ⟨w4.heap.size, 5, none⟩ = some (.int .i64 0) ∧ w6.cell? ⟨w4.heap.size, 6, none⟩ = some (.int .i64 0) ∧ w6.cell? ⟨w4.heap.size, 7, none⟩ = some (.int .i64 0) ∧ w6.cell? ⟨w4.heap.size, 8, none⟩ = some (.slice none 0 0) ∧ w6.cell? ⟨w4.heap.size, 9, none⟩ = some (.int .i64 0) ∧ w6.cell? ⟨w4.heap.size, 10, none⟩ = some (.int .i64 0) ∧ w6.cell? ⟨w4.heap.size, 11, none⟩ = some (.int .i64 0) ∧ w6.cell? ⟨w4.heap.size, 12, none⟩ = some (.int .i64 0) := ansCells oa6.1; have H6 := Lib.hid (And.intro G6 (And.intro ob6 (And.intro or6 (And.intro on6 oa6)))); clear G5 ob5 or5 rr5 on5 oa5 r5 hb6 hb6' G6 ob6 or6 on6 oa6)))
    go_wp2_with fail
    go_ret
    exact ⟨rfl, hfin⟩
end
end Fs
end Go.Proofs.YtlnnbjgfpiefdaaGreat
