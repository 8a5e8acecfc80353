/- The statement RamMoves, proved: behind any calls, a name that is moved to a free one names the same thing there (unless the way to it led through what was moved), and moved back again every thing is as it was but for the sizes of directories; the law answers true, and what came in reads as it did. No condition. -/
import Derived.Test.YtlnnbjgfpiefdaaGreatRamV01
import Derived.Test.YtlnnbjgfpiefdaaGreatRamB41
import Derived.Test.YtlnnbjgfpiefdaaGreatRows
import Derived.Carry
/- RamMoves: moved there and back. -/
namespace Go.Proofs.YtlnnbjgfpiefdaaGreat
open Go.RowKit Go.Maps Go.Shelf

namespace Fs
theorem lstat_names (s : Tree) (p : Tx) : (lstatA s p).names = [] := by unfold lstatA; split <;> rfl
theorem rename_no_names (n : Int) (s : Tree) (old other : Tx) : (doC n s ⟨8, old, other, 0, 0, []⟩).2.names = [] := by
  rw [doC_8 n s rfl]
  generalize fin n s (renameD s old other false) = r
  obtain ⟨t, r⟩ := r
  cases r <;> rfl
section
variable {W : World}
set_option maxRecDepth 100000 in
set_option maxHeartbeats 8000000 in
theorem moves_any (v : Int) (l : List Call) (ao : Option Addr) (cap : Nat) (old other : Tx) (hl : CallsAt W ao l) (hcl : ∀ c ∈ l, CallOk c) (ho : old.length ≤ 140737488355328) (hr : other.length ≤ 140737488355328) :
    Calls Tryz.prog 5 #[.int .i64 v, .slice ao l.length cap, .string (mk old), .string (mk other)] W fun e W' => e = .returned (.bool true) ∧ Below W.heap.size W W' := by
  have HM := made_go0 v l ao cap hl hcl
  go_enter Tryz.func5, Tryz.ntmps5
  go_wp2_with fail
  refine HM.mono ?_
  rintro e w1 ⟨fb, n, nb, L1, k, rfl, G1, hI, hR, hk, h1, h2⟩
  clear HM
  generalize stOf L1 nb = s at *
  have HW := whole_go0 G1 hI (by omega) h1 h2
  clear G1
  go_wp2_with fail
  refine HW.mono ?_
  clear HW
  rintro e w2 ⟨L2, v2, rfl, G2, r2, T2⟩
  clear T2
  have HD := do_go0 G2 hI (by omega) h1 h2 ⟨13, other, [], 0, 0, []⟩ ⟨(by decide : (-9223372036854775808 : Int) ≤ 0), (by decide : (0 : Int) ≤ 9223372036854775807), by first | exact ho | exact hr, by first | exact ho | exact hr | simp⟩
  rw [lstat_eq] at HD
  have hnmT := lstat_names s other
  obtain ⟨aT, haT⟩ : ∃ x, x = lstatA s other := ⟨_, rfl⟩
  rw [← haT] at HD hnmT
  dsimp only at HD
  have hcC : callC ⟨13, other, [], 0, 0, []⟩ = #[.int .i64 13, .string (mk other), .string { data := #[] }, .int .i64 0, .int .i64 0, .string { data := #[] }] := rfl
  rw [hcC] at HD
  clear hcC
  have HG := Lib.hid (And.intro G2 r2)
  clear G2 r2
  go_wp2_with fail
  refine HD.mono ?_
  clear HD
  rintro e w3 ⟨L3, nv, rfl, G3, _, nn, T3⟩
  obtain rfl := nn.2 hnmT
  clear nn
  obtain ⟨G2, r2⟩ := HG
  obtain ⟨Y3, hs3, bb3, hy3, hz3⟩ := put_answer (w := w3) (cs := ansC aT (.slice none 0 0)) rfl (by simp [ansC, Value.oneCell'])
  have obT3 : OffB Y3 L3 w3.heap.size (ansC aT (.slice none 0 0)) 42 := ⟨bb3, G3.sim.not_mine (Nat.le_refl _)⟩
  have r3 := (r2.step T3).below hy3
  have G3 := G3.grow hy3
  rw [show ansC aT (.slice none 0 0) = #[.int .i64 aT.err, .int .i64 aT.n, .string (mk aT.data), .int .i64 aT.stat.inode, .int .i64 aT.stat.kind, .int .i64 aT.stat.links, .int .i64 aT.stat.size, .int .i64 aT.stat.blocks, .slice none 0 0, .int .i64 aT.room.freeB, .int .i64 aT.room.blocks, .int .i64 aT.room.freeI, .int .i64 aT.room.inodes] from rfl] at hs3
  clear G2 r2 T3 bb3 hy3 hz3
  unfold ansC
  have HaT := Lib.hid haT
  clear haT hnmT
  have HD := do_go0 G3 hI (by omega) h1 h2 ⟨13, old, [], 0, 0, []⟩ ⟨(by decide : (-9223372036854775808 : Int) ≤ 0), (by decide : (0 : Int) ≤ 9223372036854775807), by first | exact ho | exact hr, by first | exact ho | exact hr | simp⟩
  rw [lstat_eq] at HD
  have hnmA := lstat_names s old
  obtain ⟨aA, haA⟩ : ∃ x, x = lstatA s old := ⟨_, rfl⟩
  rw [← haA] at HD hnmA
  dsimp only at HD
  have hcC : callC ⟨13, old, [], 0, 0, []⟩ = #[.int .i64 13, .string (mk old), .string { data := #[] }, .int .i64 0, .int .i64 0, .string { data := #[] }] := rfl
  rw [hcC] at HD
  clear hcC
  have HG := Lib.hid (And.intro G3 (And.intro r3 obT3))
  clear G3 r3 obT3
  go_wp2_with (refine wpList_store_run _ rfl (.tmp 12) (.tmp 37) 42 rfl Y3 hs3 ?_)
  refine HD.mono ?_
  clear HD
  rintro e w4 ⟨L4, nv, rfl, G4, _, nn, T4⟩
  obtain rfl := nn.2 hnmA
  clear nn
  obtain ⟨G3, r3, obT3⟩ := HG
  obtain ⟨Y4, hs4, bb4, hy4, hz4⟩ := put_answer (w := w4) (cs := ansC aA (.slice none 0 0)) rfl (by simp [ansC, Value.oneCell'])
  have obA4 : OffB Y4 L4 w4.heap.size (ansC aA (.slice none 0 0)) 42 := ⟨bb4, G4.sim.not_mine (Nat.le_refl _)⟩
  have r4 := (r3.step T4).below hy4
  have obT4 := (obT3.step T4).below hy4
  have G4 := G4.grow hy4
  rw [show ansC aA (.slice none 0 0) = #[.int .i64 aA.err, .int .i64 aA.n, .string (mk aA.data), .int .i64 aA.stat.inode, .int .i64 aA.stat.kind, .int .i64 aA.stat.links, .int .i64 aA.stat.size, .int .i64 aA.stat.blocks, .slice none 0 0, .int .i64 aA.room.freeB, .int .i64 aA.room.blocks, .int .i64 aA.room.freeI, .int .i64 aA.room.inodes] from rfl] at hs4
  clear G3 r3 obT3 T4 bb4 hy4 hz4
  unfold ansC
  have HaA := Lib.hid haA
  clear haA hnmA hs3
  have HD := do_go0 G4 hI (by omega) h1 h2 ⟨8, old, other, 0, 0, []⟩ ⟨(by decide : (-9223372036854775808 : Int) ≤ 0), (by decide : (0 : Int) ≤ 9223372036854775807), by first | exact ho | exact hr, by first | exact ho | exact hr | simp⟩
  have hnmB := rename_no_names n s old other
  obtain ⟨aB, haB⟩ : ∃ x, x = (doC n s ⟨8, old, other, 0, 0, []⟩).2 := ⟨_, rfl⟩
  obtain ⟨s1, hs1⟩ : ∃ x, x = (doC n s ⟨8, old, other, 0, 0, []⟩).1 := ⟨_, rfl⟩
  rw [← haB] at HD hnmB
  rw [← hs1] at HD
  have hcC : callC ⟨8, old, other, 0, 0, []⟩ = #[.int .i64 8, .string (mk old), .string (mk other), .int .i64 0, .int .i64 0, .string { data := #[] }] := rfl
  rw [hcC] at HD
  clear hcC
  have HG := Lib.hid (And.intro G4 (And.intro r4 (And.intro obT4 obA4)))
  clear G4 r4 obT4 obA4
  go_wp2_with (refine wpList_store_run _ rfl (.tmp 13) (.tmp 41) 42 rfl Y4 hs4 ?_)
  refine HD.mono ?_
  clear HD
  rintro e w5 ⟨L5, nv, rfl, G5, _, nn, T5⟩
  obtain rfl := nn.2 hnmB
  clear nn
  obtain ⟨G4, r4, obT4, obA4⟩ := HG
  obtain ⟨Y5, hs5, bb5, hy5, hz5⟩ := put_answer (w := w5) (cs := ansC aB (.slice none 0 0)) rfl (by simp [ansC, Value.oneCell'])
  have obB5 : OffB Y5 L5 w5.heap.size (ansC aB (.slice none 0 0)) 42 := ⟨bb5, G5.sim.not_mine (Nat.le_refl _)⟩
  have r5 := (r4.step T5).below hy5
  have obT5 := (obT4.step T5).below hy5
  have obA5 := (obA4.step T5).below hy5
  have G5 := G5.grow hy5
  rw [show ansC aB (.slice none 0 0) = #[.int .i64 aB.err, .int .i64 aB.n, .string (mk aB.data), .int .i64 aB.stat.inode, .int .i64 aB.stat.kind, .int .i64 aB.stat.links, .int .i64 aB.stat.size, .int .i64 aB.stat.blocks, .slice none 0 0, .int .i64 aB.room.freeB, .int .i64 aB.room.blocks, .int .i64 aB.room.freeI, .int .i64 aB.room.inodes] from rfl] at hs5
  clear G4 r4 obT4 obA4 T5 bb5 hy5 hz5
  unfold ansC
  have HaB := Lib.hid (And.intro haB hs1)
  clear haB hs1 hnmB hs4
  have eT5 : Y5.cell? ⟨w3.heap.size, 0, none⟩ = some (.int .i64 aT.err) := obT5.1.cell 0
  have eA5 : Y5.cell? ⟨w4.heap.size, 0, none⟩ = some (.int .i64 aA.err) := obA5.1.cell 0
  have eB5 : Y5.cell? ⟨w5.heap.size, 0, none⟩ = some (.int .i64 aB.err) := obB5.1.cell 0
  by_cases hB : aB.err = 0
  · by_cases hT : aT.err = 0
    · have q1 : (aB.err != 0) = false := by rw [hB]; rfl
      have q2 : (aT.err == 0) = true := by rw [hT]; rfl
      have hbelow := Lib.hid G5.below
      clear hB hT G5 r5 obT5 obA5 obB5
      go_wp2_with (refine wpList_store_run _ rfl (.tmp 14) (.tmp 46) 42 rfl Y5 hs5 ?_)
      go_ret
      exact ⟨rfl, hbelow⟩
    · have q1 : (aB.err != 0) = false := by rw [hB]; rfl
      have q2 : (aT.err == 0) = false := beq_eq_false_iff_ne.2 hT
      have haT : aT = lstatA s other := HaT
      have haA : aA = lstatA s old := HaA
      obtain ⟨haB, hs1⟩ := HaB
      have hI1 := do_inv hI hR (by omega) h1 h2 ⟨8, old, other, 0, 0, []⟩
      rw [← hs1] at hI1
      have HP := moves_plain hI (by rw [← haB]; exact hB) (by rw [← haT]; exact hT)
      rw [← hs1, ← haA] at HP
      clear hB hT haT haA haB hs1 HaT HaA
      have HP := Lib.hid HP
      have HD := do_go0 G5 hI1.1 (by omega) h1 h2 ⟨13, other, [], 0, 0, []⟩ ⟨(by decide : (-9223372036854775808 : Int) ≤ 0), (by decide : (0 : Int) ≤ 9223372036854775807), by first | exact ho | exact hr, by first | exact ho | exact hr | simp⟩
      rw [lstat_eq] at HD
      have hnmC := lstat_names s1 other
      obtain ⟨aC, haC⟩ : ∃ x, x = lstatA s1 other := ⟨_, rfl⟩
      rw [← haC] at HD hnmC
      dsimp only at HD
      have hcC : callC ⟨13, other, [], 0, 0, []⟩ = #[.int .i64 13, .string (mk other), .string { data := #[] }, .int .i64 0, .int .i64 0, .string { data := #[] }] := rfl
      rw [hcC] at HD
      clear hcC
      have HG := Lib.hid (And.intro G5 (And.intro r5 (And.intro obT5 (And.intro obA5 obB5))))
      clear G5 r5 obT5 obA5 obB5
      go_wp2_with (refine wpList_store_run _ rfl (.tmp 14) (.tmp 46) 42 rfl Y5 hs5 ?_)
      refine HD.mono ?_
      clear HD
      rintro e w6 ⟨L6, nv, rfl, G6, _, nn, T6⟩
      obtain rfl := nn.2 hnmC
      clear nn
      obtain ⟨G5, r5, obT5, obA5, obB5⟩ := HG
      obtain ⟨Y6, hs6, bb6, hy6, hz6⟩ := put_answer (w := w6) (cs := ansC aC (.slice none 0 0)) rfl (by simp [ansC, Value.oneCell'])
      have obC6 : OffB Y6 L6 w6.heap.size (ansC aC (.slice none 0 0)) 42 := ⟨bb6, G6.sim.not_mine (Nat.le_refl _)⟩
      have r6 := (r5.step T6).below hy6
      have obT6 := (obT5.step T6).below hy6
      have obA6 := (obA5.step T6).below hy6
      have obB6 := (obB5.step T6).below hy6
      have G6 := G6.grow hy6
      rw [show ansC aC (.slice none 0 0) = #[.int .i64 aC.err, .int .i64 aC.n, .string (mk aC.data), .int .i64 aC.stat.inode, .int .i64 aC.stat.kind, .int .i64 aC.stat.links, .int .i64 aC.stat.size, .int .i64 aC.stat.blocks, .slice none 0 0, .int .i64 aC.room.freeB, .int .i64 aC.room.blocks, .int .i64 aC.room.freeI, .int .i64 aC.room.inodes] from rfl] at hs6
      clear G5 r5 obT5 obA5 obB5 T6 bb6 hy6 hz6
      unfold ansC
      rw [← haC] at HP
      clear haC hnmC hs5 eT5 eA5 eB5 q1 q2
      have eA6 : Y6.cell? ⟨w4.heap.size, 0, none⟩ = some (.int .i64 aA.err) := obA6.1.cell 0
      have iA6 : Y6.cell? ⟨w4.heap.size, 3, none⟩ = some (.int .i64 aA.stat.inode) := obA6.1.cell 3
      have eC6 : Y6.cell? ⟨w6.heap.size, 0, none⟩ = some (.int .i64 aC.err) := obC6.1.cell 0
      have iC6 : Y6.cell? ⟨w6.heap.size, 3, none⟩ = some (.int .i64 aC.stat.inode) := obC6.1.cell 3
      obtain ⟨HP1, HP2⟩ := HP
      by_cases hC : aC.err = 0
      · obtain ⟨HP3, HP4⟩ := HP2 hC
        have q1 : (aC.err != 0) = false := by rw [hC]; rfl
        have q2 : (aA.err != 0) = false := by rw [HP1]; rfl
        have q3 : (aA.stat.inode != aC.stat.inode) = false := by rw [HP3]; simp
        clear HP1 HP2 HP3 hC
        have HP4 := Lib.hid HP4
        have HD := do_go0 G6 hI1.1 (by omega) h1 h2 ⟨8, other, old, 0, 0, []⟩ ⟨(by decide : (-9223372036854775808 : Int) ≤ 0), (by decide : (0 : Int) ≤ 9223372036854775807), by first | exact ho | exact hr, by first | exact ho | exact hr | simp⟩
        have hnmD := rename_no_names n s1 other old
        obtain ⟨aD, haD⟩ : ∃ x, x = (doC n s1 ⟨8, other, old, 0, 0, []⟩).2 := ⟨_, rfl⟩
        obtain ⟨s2, hs2⟩ : ∃ x, x = (doC n s1 ⟨8, other, old, 0, 0, []⟩).1 := ⟨_, rfl⟩
        rw [← haD] at HD hnmD
        rw [← hs2] at HD
        have hcC : callC ⟨8, other, old, 0, 0, []⟩ = #[.int .i64 8, .string (mk other), .string (mk old), .int .i64 0, .int .i64 0, .string { data := #[] }] := rfl
        rw [hcC] at HD
        clear hcC
        have HG := Lib.hid (And.intro G6 (And.intro r6 (And.intro obT6 (And.intro obA6 (And.intro obB6 obC6)))))
        clear G6 r6 obT6 obA6 obB6 obC6
        go_wp2_with (refine wpList_store_run _ rfl (.tmp 15) (.tmp 58) 42 rfl Y6 hs6 ?_)
        refine HD.mono ?_
        clear HD
        rintro e w7 ⟨L7, nv, rfl, G7, _, nn, T7⟩
        obtain rfl := nn.2 hnmD
        clear nn
        obtain ⟨G6, r6, obT6, obA6, obB6, obC6⟩ := HG
        obtain ⟨Y7, hs7, bb7, hy7, hz7⟩ := put_answer (w := w7) (cs := ansC aD (.slice none 0 0)) rfl (by simp [ansC, Value.oneCell'])
        have obD7 : OffB Y7 L7 w7.heap.size (ansC aD (.slice none 0 0)) 42 := ⟨bb7, G7.sim.not_mine (Nat.le_refl _)⟩
        have r7 := (r6.step T7).below hy7
        have obT7 := (obT6.step T7).below hy7
        have obA7 := (obA6.step T7).below hy7
        have obB7 := (obB6.step T7).below hy7
        have obC7 := (obC6.step T7).below hy7
        have G7 := G7.grow hy7
        rw [show ansC aD (.slice none 0 0) = #[.int .i64 aD.err, .int .i64 aD.n, .string (mk aD.data), .int .i64 aD.stat.inode, .int .i64 aD.stat.kind, .int .i64 aD.stat.links, .int .i64 aD.stat.size, .int .i64 aD.stat.blocks, .slice none 0 0, .int .i64 aD.room.freeB, .int .i64 aD.room.blocks, .int .i64 aD.room.freeI, .int .i64 aD.room.inodes] from rfl] at hs7
        clear G6 r6 obT6 obA6 obB6 obC6 T7 bb7 hy7 hz7
        unfold ansC
        have hI2 := do_inv hI1.1 hI1.2 (by omega) h1 h2 ⟨8, other, old, 0, 0, []⟩
        rw [← hs2] at hI2
        have HP5 : aD.err = 0 → Alike s s2 := by rw [haD, hs2]; exact HP4
        clear HP4 haD hs2 hnmD hs6 eA6 iA6 eC6 iC6 q1 q2 q3
        have HP5 := Lib.hid HP5
        have HW := whole_go0 G7 hI2.1 (by omega) h1 h2
        have HG := Lib.hid (And.intro r7 obD7)
        clear G7 r7 obT7 obA7 obB7 obC7 obD7
        go_wp2_with (refine wpList_store_run _ rfl (.tmp 16) (.tmp 81) 42 rfl Y7 hs7 ?_)
        refine HW.mono ?_
        clear HW hs7
        rintro e w8 ⟨L8, v8, rfl, G8, r8, T8⟩
        obtain ⟨r7, obD7⟩ := HG
        have rr8 := r7.step T8
        have obD8 := obD7.step T8
        clear r7 obD7 T8
        have eD8 : w8.cell? ⟨w7.heap.size, 0, none⟩ = some (.int .i64 aD.err) := obD8.1.cell 0
        by_cases hD : aD.err = 0
        · have q1 : (aD.err != 0) = false := by rw [hD]; rfl
          have HA : Alike s s2 := HP5 hD
          have hlen := HA.things
          obtain ⟨⟨ba, hA⟩, _⟩ := rr8
          obtain ⟨⟨bb, hB⟩, _⟩ := r8
          have hbelow8 := Lib.hid G8.below
          have hn1 : (things s).length ≤ 1000000 := by have := hI.lst_len (K := 33) (by omega); unfold things; rw [List.length_map]; omega
          clear G8 obD8 HP5 hD
          by_cases hne : things s = []
          · have hne2 : things s2 = [] := List.eq_nil_of_length_eq_zero (by rw [hlen, hne]; rfl)
            rw [hne] at hA
            rw [hne2] at hB
            obtain ⟨ao2, ca, rfl⟩ := own_shape hA
            obtain ⟨bo2, cb, rfl⟩ := own_shape hB
            clear hne hne2 hlen hA hB hn1 HA
            go_wp2_with fail
            go_loopw [101] (fun iv wr => iv = .int .i64 0 ∧ wr = w8) (fun _ _ => 0)
            case atStart => exact ⟨rfl, rfl⟩
            case round =>
              obtain ⟨rfl, rfl⟩ := hrel
              go_wp2_with fail
              go_ret
              exact ⟨rfl, hbelow8⟩
          have hne2 : things s2 ≠ [] := fun h => hne (List.eq_nil_of_length_eq_zero (by rw [← hlen, h]; rfl))
          obtain ⟨ga, ca, rfl⟩ := row_shape7 hA hne
          obtain ⟨gb, cb, rfl⟩ := row_shape7 hB hne2
          obtain ⟨N, hN⟩ : ∃ N, N = (things s).length := ⟨_, rfl⟩
          have HH := Lib.hid (And.intro hA (And.intro hB (And.intro hN HA)))
          rw [hlen, ← hN]
          rw [← hN] at hn1
          clear hA hB hN hlen hne hne2 HA
          go_wp2_with fail
          go_loopw [101] (fun iv wr => ∃ (j : Nat) (o : Int), iv = .int .i64 o ∧ Hid (o = (j : Int)) ∧ j ≤ N ∧ Below w8.heap.size w8 wr) (fun iv _ => (N - (intOf iv).toNat))
          case atStart => exact ⟨0, 0, rfl, rfl, Nat.zero_le _, Below.refl _ _⟩
          case round =>
            obtain ⟨j, o, rfl, ho, hj, hb⟩ := hrel
            have ho' : o = (j : Int) := ho
            by_cases c1 : o < (N : Int)
            · obtain ⟨hA, hB, hN, HA⟩ := HH
              have hjl : j < (things s).length := by omega
              obtain ⟨x, hx⟩ : ∃ x, (things s)[j]? = some x := ⟨_, List.getElem?_eq_getElem hjl⟩
              obtain ⟨sz, bl, hy, hsz⟩ := HA.things_at hx
              have hA' := row_same hA (W' := wr) fun g hg => hb.block g (hA.lt g hg).2
              obtain ⟨a0, a1, a2, a3, a4, a5, a6⟩ := row_thing hA' hx
              obtain ⟨Y9, ht9, bx9, hw9, hz9⟩ := put_thing (w := wr) (cs := #[.string (mk x.path), .int .i64 x.stat.inode, .int .i64 x.stat.kind, .int .i64 x.stat.links, .int .i64 x.stat.size, .int .i64 x.stat.blocks, .string (mk x.data)]) rfl (by simp [Value.oneCell'])
              have hB' := row_same hB (W' := Y9) fun g hg => by rw [hw9.block g (Nat.lt_of_lt_of_le (hB.lt g hg).2 hb.size), hb.block g (hB.lt g hg).2]
              obtain ⟨b0, b1, b2, b3, b4, b5, b6⟩ := row_thing hB' hy
              dsimp only at b0 b1 b2 b3 b4 b5 b6
              obtain ⟨Y10, ht10, by10, hw10, hz10⟩ := put_thing (w := Y9) (cs := #[.string (mk x.path), .int .i64 x.stat.inode, .int .i64 x.stat.kind, .int .i64 x.stat.links, .int .i64 sz, .int .i64 bl, .string (mk x.data)]) rfl (by simp [Value.oneCell'])
              have bx10 := bx9.same (hw10.block _ bx9.lt)
              have hfin : Below w8.heap.size w8 Y10 := by
                refine hb.trans ?_
                have h9 := hw9.trans ⟨hw10.os, hw10.tape, hw10.output, hw10.size, fun k hk => hw10.block k (Nat.lt_of_lt_of_le hk hw9.size)⟩
                exact ⟨h9.os, h9.tape, h9.output, h9.size, fun k hk => h9.block k (Nat.lt_of_lt_of_le hk hb.size)⟩
              have hfin := Lib.hid hfin
              have hon : o.toNat = j := by omega
              have hc0 : 0 ≤ o := by omega
              have hwr : IntKind.i64.wrap (o + 1) = o + 1 := IntWalk.i64_in _ (by omega)
              have hz := Lib.hid (And.intro hz9 (And.intro hz10 (And.intro hw9.size hw10.size)))
              have k2 : Y10.cell? ⟨wr.heap.size, 2, none⟩ = some (.int .i64 x.stat.kind) := bx10.cell 2
              clear hA hB hN HA hA' hB' ho' hjl hw9 hw10 hz9 hz10 hx hy bx9
              by_cases hk : x.stat.kind = 2
              · have q2 : (x.stat.kind == 2) = true := beq_iff_eq.2 hk
                have hd1 : wr.heap.size ≠ Y9.heap.size := by obtain ⟨z1, z2, z3, z4⟩ := hz; omega
                have hz' : w8.heap.size ≤ Y9.heap.size := by obtain ⟨z1, z2, z3, z4⟩ := hz; have := hb.size; omega
                have k4 : Y10.cell? ⟨wr.heap.size, 4, none⟩ = some (.int .i64 x.stat.size) := bx10.cell 4
                obtain ⟨Z1, hZ1⟩ : ∃ z, z = Y10.setCell ⟨Y9.heap.size, 4, none⟩ (.int .i64 x.stat.size) := ⟨_, rfl⟩
                have p1 := store_one by10 (i := 4) rfl x.stat.size
                have bz1 : Blk Z1 Y9.heap.size #[.string (mk x.path), .int .i64 x.stat.inode, .int .i64 x.stat.kind, .int .i64 x.stat.links, .int .i64 x.stat.size, .int .i64 bl, .string (mk x.data)] 34 := by rw [hZ1]; exact by10.setAt _
                have bx1 : Blk Z1 wr.heap.size #[.string (mk x.path), .int .i64 x.stat.inode, .int .i64 x.stat.kind, .int .i64 x.stat.links, .int .i64 x.stat.size, .int .i64 x.stat.blocks, .string (mk x.data)] 34 := bx10.same (by rw [hZ1]; exact Below.heap_setCell _ _ _ _ hd1)
                have f1 : Below w8.heap.size w8 Z1 := by rw [hZ1]; exact Below.setCell hfin hz' _
                rw [← hZ1] at p1
                clear hZ1
                have k5 : Z1.cell? ⟨wr.heap.size, 5, none⟩ = some (.int .i64 x.stat.blocks) := bx1.cell 5
                obtain ⟨Z2, hZ2⟩ : ∃ z, z = Z1.setCell ⟨Y9.heap.size, 5, none⟩ (.int .i64 x.stat.blocks) := ⟨_, rfl⟩
                have p2 := store_one bz1 (i := 5) rfl x.stat.blocks
                have bz2 : Blk Z2 Y9.heap.size #[.string (mk x.path), .int .i64 x.stat.inode, .int .i64 x.stat.kind, .int .i64 x.stat.links, .int .i64 x.stat.size, .int .i64 x.stat.blocks, .string (mk x.data)] 34 := by rw [hZ2]; exact bz1.setAt _
                have bx2 : Blk Z2 wr.heap.size #[.string (mk x.path), .int .i64 x.stat.inode, .int .i64 x.stat.kind, .int .i64 x.stat.links, .int .i64 x.stat.size, .int .i64 x.stat.blocks, .string (mk x.data)] 34 := bx1.same (by rw [hZ2]; exact Below.heap_setCell _ _ _ _ hd1)
                have f2 : Below w8.heap.size w8 Z2 := by rw [hZ2]; exact Below.setCell f1 hz' _
                rw [← hZ2] at p2
                clear hZ2
                have f2 := Lib.hid f2
                have q2 : (x.stat.kind == 2) = true := beq_iff_eq.2 hk
                have lx := load_thing bx2 rfl
                have ly := load_thing bz2 rfl
                have e3 := neq_thing Z2 x
                unfold thC at e3
                clear hk hsz hd1 hz' f1 bx1 bz1 bx2 bz2 bx10 by10 hfin
                go_wp2_with (first | (refine wpList_store_run _ rfl (.tmp 20) (.tmp 107) 34 rfl Y9 ht9 ?_) | (refine wpList_store_run _ rfl (.tmp 21) (.tmp 111) 34 rfl Y10 ht10 ?_) | (refine wpList_store_run _ rfl (.tmp 120) (.tmp 118) 3 rfl Z1 p1 ?_) | (refine wpList_store_run _ rfl (.tmp 125) (.tmp 123) 3 rfl Z2 p2 ?_) | (refine wpList_load_run _ rfl (.tmp 20) 34 rfl _ lx ?_) | (refine wpList_load_run _ rfl (.tmp 21) 34 rfl _ ly ?_))
                go_roundw
                case rel =>
                  have ho' : o = (j : Int) := ho
                  exact ⟨j + 1, o + 1, rfl, (by show o + 1 = ((j + 1 : Nat) : Int); omega), by omega, f2⟩
                case measure => simp only [intOf]; omega
              · obtain ⟨rfl, rfl⟩ := hsz hk
                have q2 : (x.stat.kind == 2) = false := beq_eq_false_iff_ne.2 hk
                have lx := load_thing bx10 rfl
                have ly := load_thing by10 rfl
                have e3 := neq_thing Y10 x
                unfold thC at e3
                clear hk bx10 by10
                go_wp2_with (first | (refine wpList_store_run _ rfl (.tmp 20) (.tmp 107) 34 rfl Y9 ht9 ?_) | (refine wpList_store_run _ rfl (.tmp 21) (.tmp 111) 34 rfl Y10 ht10 ?_) | (refine wpList_load_run _ rfl (.tmp 20) 34 rfl _ lx ?_) | (refine wpList_load_run _ rfl (.tmp 21) 34 rfl _ ly ?_))
                go_roundw
                case rel =>
                  have ho' : o = (j : Int) := ho
                  exact ⟨j + 1, o + 1, rfl, (by show o + 1 = ((j + 1 : Nat) : Int); omega), by omega, hfin⟩
                case measure => simp only [intOf]; omega
            · have hfin : Below W.heap.size W wr := by
                have h8 : Below W.heap.size W w8 := hbelow8
                exact h8.trans ⟨hb.os, hb.tape, hb.output, hb.size, fun k hk => hb.block k (Nat.lt_of_lt_of_le hk h8.size)⟩
              clear ho'
              go_wp2_with fail
              go_ret
              exact ⟨rfl, hfin⟩
        · have q1 : (aD.err != 0) = true := bne_iff_ne.2 hD
          have hbelow := Lib.hid G8.below
          clear hD HP5 G8 r8 rr8 obD8
          go_wp2_with fail
          go_ret
          exact ⟨rfl, hbelow⟩
      · have q1 : (aC.err != 0) = true := bne_iff_ne.2 hC
        have q2 : (aA.err == 0) = true := by rw [HP1]; rfl
        have hbelow := Lib.hid G6.below
        clear hC HP1 HP2 G6 r6 obT6 obA6 obB6 obC6
        go_wp2_with (refine wpList_store_run _ rfl (.tmp 15) (.tmp 58) 42 rfl Y6 hs6 ?_)
        go_ret
        exact ⟨rfl, hbelow⟩
  · have q1 : (aB.err != 0) = true := bne_iff_ne.2 hB
    have hbelow := Lib.hid G5.below
    clear hB G5 r5 obT5 obA5 obB5
    go_wp2_with (refine wpList_store_run _ rfl (.tmp 14) (.tmp 46) 42 rfl Y5 hs5 ?_)
    go_ret
    exact ⟨rfl, hbelow⟩
end
end Fs
end Go.Proofs.YtlnnbjgfpiefdaaGreat
namespace Go.Proofs.YtlnnbjgfpiefdaaGreat.ramMoves
open Go.ChangeShapes Go.WideShapes Go.ChangeAt Go.RowKit Go.Joins

theorem own : ownKnob Tryz.prog.godebug = none := by kernel_rfl
theorem laidOut : laidOutB Tryz.prog = true := by kernel_rfl
set_option maxRecDepth 100000 in
theorem open_text {H : Type} {enc : TypeId × Value → H} {W : World} {b0 : Nat} {v : Value} {d : DataW H} {p : List MemPlace} (hv : Value.okWide Tryz.prog W .any b0 9 v) (h : DataW.Trod enc Tryz.prog W 0 (fun _ => true) true 9 v d p) (hl : Fs.Light 9 d) :
    ∃ t : Fs.Tx, v = .string (mk t) ∧ t.length ≤ 140737488355328 := by
  obtain ⟨s, rfl⟩ := okWide_string Tryz.underlying9 hv
  obtain ⟨fuel, hf⟩ := h
  obtain ⟨s', hc, hx, _⟩ := DataW.trod_string Tryz.underlying9 hf
  simp only [Value.cells, Prod.mk.injEq] at hx hc
  have e : s = s' := by simpa using hc
  subst e
  obtain ⟨rfl, _⟩ := hx
  refine ⟨bs s, rfl, ?_⟩
  have : s.data.toList.length ≤ reachBytes := hl _ (by simp [DataW.weights])
  unfold reachBytes at this
  show s.data.toList.length ≤ _
  omega

set_option maxRecDepth 100000 in
theorem lifted (os : Os) (started : os.Started) (H : Type) (enc : TypeId × Value → H) :
    ReturnsInHanded {} Tryz.checked os 5 .any (Rows.ramMovesSpec.pre6 enc Tryz.prog Tryz.f5 Rows.ramMovesRow.domain false) (Rows.ramMovesSpec.post enc Tryz.prog Tryz.f5 false true false false) := by
  refine returnsInHanded_of_change_sized (C := Tryz.checked) own started (by kernel_rfl) Tryz.func5
    (ChangeSpec.witness6 (enc := enc) (C := Tryz.checked) false ⟨#[], #[.int .i64 0, .slice none 0 0, .string ⟨#[]⟩, .string ⟨#[]⟩], []⟩ 8 (by kernel_rfl) (by kernel_rfl) (by kernel_rfl) (by kernel_rfl)) ?_
  intro W base args ds gs before hval0 hW hcnd hsz0 _
  have hsz : (DataW.weightsEach Tryz.prog (Tryz.f5.params.toList ++ Rows.ramMovesSpec.plain.varTypes Tryz.prog) (ds ++ gs)).all (· ≤ reachBytes) = true := hsz0
  clear hsz0
  have hval : ∀ (j : Nat) t v, Tryz.f5.params[j]? = some t → args[j]? = some v → Value.okWide Tryz.prog W .any base t v := hval0
  have hW' := hW
  obtain ⟨p, q, hA0, hV, rfl, hfz, hnd⟩ := hW
  have hA : DataW.TrodAll enc Tryz.prog W 0 (fun _ => true) true Tryz.f5.params.toList args.toList ds p := hA0
  rw [Tryz.params5] at hA hval hsz
  obtain ⟨v0, v1, v2, v3, d0, d1, d2, d3, p0, p1, p2, p3, rfl, rfl, rfl, h0, h1, h2, h3⟩ := trodAll_four hA
  obtain ⟨rfl, rfl⟩ := trodVars_none hV
  have k0 := h0
  have k1 := h1
  have k2 := h2
  have k3 := h3
  have lt0 : ∀ x ∈ p0, x.block < W.heap.size := by obtain ⟨m, hm⟩ := k0; exact DataW.trod_lt m _ _ _ hm
  have lt1 : ∀ x ∈ p1, x.block < W.heap.size := by obtain ⟨m, hm⟩ := k1; exact DataW.trod_lt m _ _ _ hm
  have lt2 : ∀ x ∈ p2, x.block < W.heap.size := by obtain ⟨m, hm⟩ := k2; exact DataW.trod_lt m _ _ _ hm
  have lt3 : ∀ x ∈ p3, x.block < W.heap.size := by obtain ⟨m, hm⟩ := k3; exact DataW.trod_lt m _ _ _ hm
  have fin : ∀ e W', (e = Ending.returned (.bool true) ∧ Below W.heap.size W W') → ∃ v, e = Ending.returned v ∧ Rows.ramMovesSpec.post enc Tryz.checked.prog Tryz.f5 false true false false W #[v0, v1, v2, v3] v W' := by
    intro e W' ⟨he, bel⟩
    subst he
    exact ⟨_, rfl, _, _, _, [], _, [], hW', trodAll_mk1 (shut_bool Tryz.underlying4 _), (trodAll_cons_mk (Below.trod laidOut (by kernel_rfl) (of_decide_eq_true (by kernel_rfl)) k0 bel lt0) (trodAll_cons_mk (Below.trod laidOut (by kernel_rfl) (of_decide_eq_true (by kernel_rfl)) k1 bel lt1) (trodAll_cons_mk (Below.trod laidOut (by kernel_rfl) (of_decide_eq_true (by kernel_rfl)) k2 bel lt2) (trodAll_cons_mk (Below.trod laidOut (by kernel_rfl) (of_decide_eq_true (by kernel_rfl)) k3 bel lt3) trodAll_mk0)))), rfl, bel.frame _, fun h => by cases h⟩
  obtain ⟨n, rfl, _, _, _⟩ := open_int Tryz.underlying3 (hval 0 3 v0 rfl rfl) h0
  obtain ⟨l, ao, cap, rfl, hl, hcl⟩ := Fs.open_calls (hval 1 22 v1 rfl rfl) h1 (Fs.light_of hsz (j := 1) rfl rfl)
  obtain ⟨c, rfl, hc⟩ := open_text (hval 2 9 v2 rfl rfl) h2 (Fs.light_of hsz (j := 2) rfl rfl)
  obtain ⟨d, rfl, hd⟩ := open_text (hval 3 9 v3 rfl rfl) h3 (Fs.light_of hsz (j := 3) rfl rfl)
  exact (Fs.moves_any n l ao cap c d hl hcl hc hd).mono fin

/-- The statement. -/
theorem proved : Rows.RamMovesSaid :=
  OpenClaim.holds_of_wide 5 Tryz.f5 rfl rfl rfl rfl rfl rfl rfl ⟨rfl, rfl, rfl, rfl, rfl⟩ rfl rfl rfl rfl rfl (by kernel_rfl) Tryz.func5 (by kernel_rfl)
    (of_decide_eq_true (by kernel_rfl)) (by unfold Func.isWrapper; first | (rw [if_pos (by decide +kernel)]; kernel_rfl) | (rw [if_neg (by decide +kernel)]; exact ⟨rfl, rfl⟩))
    (fun os started H enc _ => lifted os started H enc)
#print axioms proved
end Go.Proofs.YtlnnbjgfpiefdaaGreat.ramMoves
