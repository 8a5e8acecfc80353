/- The statement RamRoom, proved: behind any calls the whole tree is told, a file has as many links as names, a directory two and one for each directory right inside, all blocks and inodes are counted once; the law answers true, and what came in reads as it did. No condition. -/
import Derived.Test.YtlnnbjgfpiefdaaGreatRamD01
import Derived.Test.YtlnnbjgfpiefdaaGreatRamB41
import Derived.Test.YtlnnbjgfpiefdaaGreatRows
/- RamRoom: the walk. -/
namespace Go.Proofs.YtlnnbjgfpiefdaaGreat
open Go.RowKit Go.Maps Go.Shelf

namespace Fs
theorem path_small {n : Int} {k : Nat} {s : Tree} (hI : Inv n k s) {i : Nat} {y : Thing} (hy : (things s)[i]? = some y) : y.path.length ≤ 1000000000000 := by
  obtain ⟨cs, j, hj, rfl⟩ := things_get hy
  have hw := hI.lst_way (List.mem_of_getElem? hj)
  have h1 := path_len (hI.way_names hw)
  have h2 := hI.way_len hw
  show (pathOf cs).length ≤ _
  omega
section
variable {W : World}
set_option maxRecDepth 100000 in
set_option maxHeartbeats 16000000 in
theorem rooms_any (v : Int) (l : List Call) (ao : Option Addr) (cap : Nat) (hl : CallsAt W ao l) (hcl : ∀ c ∈ l, CallOk c) :
    Calls Tryz.prog 3 #[.int .i64 v, .slice ao l.length cap] W fun e W' => e = .returned (.bool true) ∧ Below W.heap.size W W' := by
  have HM := made_go0 v l ao cap hl hcl
  go_enter Tryz.func3, Tryz.ntmps3
  go_wp2_with fail
  refine HM.mono ?_
  rintro e w1 ⟨fb, n, nb, L1, k, rfl, G1, hI, hR, hk, h1, h2⟩
  clear HM
  generalize stOf L1 nb = s at *
  have HW := whole_go0 G1 hI (by omega) h1 h2
  clear G1
  go_wp2_with fail
  refine HW.mono ?_
  clear HW
  rintro e w2 ⟨L2, v2, rfl, G2, r2, T2⟩
  have HR := room_go0 G2 hI (by omega) h1 h2
  have HG := Lib.hid r2
  clear G2 r2 T2
  go_wp2_with fail
  refine HR.mono ?_
  clear HR
  rintro e w3 ⟨L3, rfl, G3, T3⟩
  have r3 : OffT w3 L3 v2 (things s) := OffT.step HG T3
  obtain ⟨Y3, hs3, br3, hy3, hz3⟩ := put_room (w := w3) (cs := roomC (roomN n s)) rfl (by simp [roomC, Value.oneCell'])
  have hbelow := Lib.hid (G3.grow hy3).below
  obtain ⟨⟨base, hA⟩, _⟩ := r3.below hy3
  have hne : things s ≠ [] := by unfold things lst; simp
  have hlen := hI.lst_len (K := 33) (by omega)
  have hnl : (things s).length ≤ 61 := by unfold things; rw [List.length_map]; omega
  obtain ⟨ga, ca, rfl⟩ := row_shape7 hA hne
  obtain ⟨N, hN⟩ : ∃ N, N = (things s).length := ⟨_, rfl⟩
  have HH := Lib.hid (And.intro hA (And.intro hN br3))
  rw [← hN] at hnl
  rw [← hN]
  clear HG G3 T3 r3 hA hN hne hlen hy3 hz3 br3
  unfold roomC at hs3 ⊢
  go_wp2_with (refine wpList_store_run _ rfl (.tmp 8) (.tmp 34) 29 rfl Y3 hs3 ?_)
  clear hs3
  go_loopw [9, 10, 37] (fun mv bv iv wr => ∃ (j : Nat) (o p q : Int), iv = .int .i64 o ∧ mv = .int .i64 p ∧ bv = .int .i64 q ∧ Hid (Sums s j o p q) ∧ j ≤ N ∧ Below Y3.heap.size Y3 wr) (fun _ _ iv _ => (N - (intOf iv).toNat))
  case atStart => exact ⟨0, 0, 0, 0, rfl, rfl, rfl, Sums.start s, Nat.zero_le _, Below.refl _ _⟩
  case round =>
    obtain ⟨j, o, p, q, rfl, rfl, rfl, hsum, hj, hb⟩ := hrel
    have ho' : o = (j : Int) := hsum.o
    have hle := Sums.le hI (by omega) hsum
    obtain ⟨wo, rfl⟩ : ∃ wo : World, wo = wr := ⟨_, rfl⟩
    by_cases c1 : o < (N : Int)
    · obtain ⟨hA, hN, br3⟩ := HH
      have hjl : j < (things s).length := by omega
      obtain ⟨x, hx⟩ : ∃ x, (things s)[j]? = some x := ⟨_, List.getElem?_eq_getElem hjl⟩
      have hA' := row_same hA (W' := wo) fun g hg => hb.block g (hA.lt g hg).2
      rw [← hN] at hA'
      obtain ⟨a0, a1, a2, a3, a4, a5, a6⟩ := row_thing (by rw [← hN]; exact hA') hx
      obtain ⟨Y, hst, bx, hwY, hzY⟩ := put_thing (w := wo) (cs := #[.string (mk x.path), .int .i64 x.stat.inode, .int .i64 x.stat.kind, .int .i64 x.stat.links, .int .i64 x.stat.size, .int .i64 x.stat.blocks, .string (mk x.data)]) rfl (by simp [Value.oneCell'])
      have hon : o.toNat = j := by omega
      have hc0 : 0 ≤ o := by omega
      have hwr : IntKind.i64.wrap (o + 1) = o + 1 := IntWalk.i64_in _ (by omega)
      have hAY := row_same hA' (W' := Y) fun g hg => hwY.block g (hA'.lt g hg).2
      have HB := Lib.hid (And.intro hAY (And.intro hN (And.intro hx (And.intro bx (And.intro hwY (And.intro hb ho'))))))
      clear hA hA' hAY ho' hjl hx bx hwY hzY hb hN br3
      go_wp2_with (refine wpList_store_run _ rfl (.tmp 12) (.tmp 41) 34 rfl Y hst ?_)
      clear hst a0 a1 a2 a3 a4 a5 a6
      go_loopw [13, 14, 44] (fun lv fv iv wr => ∃ (i : Nat) (o2 p2 : Int) (f : Bool), iv = .int .i64 o2 ∧ lv = .int .i64 p2 ∧ fv = .bool f ∧ Hid (One (things s) x.stat.inode j i o2 p2 f) ∧ i ≤ N ∧ Below Y.heap.size Y wr) (fun _ _ iv _ => (N - (intOf iv).toNat))
      case atStart => exact ⟨0, 0, 0, true, rfl, rfl, rfl, One.start _ _ _, Nat.zero_le _, Below.refl _ _⟩
      case round =>
        obtain ⟨i, o2, p2, f, rfl, rfl, rfl, hone, hi, hb2⟩ := hrel
        have ho2 : o2 = (i : Int) := hone.o
        have hle2 := One.le hone
        by_cases c2 : o2 < (N : Int)
        · obtain ⟨hAY, hN, hx, bx, hwY, hb, ho'⟩ := HB
          have hil : i < (things s).length := by omega
          obtain ⟨y, hy⟩ : ∃ y, (things s)[i]? = some y := ⟨_, List.getElem?_eq_getElem hil⟩
          have hA2 := row_same hAY (W' := wr) fun g hg => hb2.block g (hAY.lt g hg).2
          obtain ⟨a0, a1, a2, a3, a4, a5, a6⟩ := row_thing (by rw [← hN]; exact hA2) hy
          obtain ⟨Z, hst, by1, hwZ, hzZ⟩ := put_thing (w := wr) (cs := #[.string (mk y.path), .int .i64 y.stat.inode, .int .i64 y.stat.kind, .int .i64 y.stat.links, .int .i64 y.stat.size, .int .i64 y.stat.blocks, .string (mk y.data)]) rfl (by simp [Value.oneCell'])
          have bxZ := (bx.same (hb2.block _ bx.lt)).same (hwZ.block _ (Nat.lt_of_lt_of_le bx.lt hb2.size))
          obtain ⟨x0, x1, x2, x3, x4, x5, x6⟩ := thing_cells bxZ
          obtain ⟨y0, y1, y2, y3, y4, y5, y6⟩ := thing_cells by1
          have hon2 : o2.toNat = i := by omega
          have hc2 : 0 ≤ o2 := by omega
          have hwr2 : IntKind.i64.wrap (o2 + 1) = o2 + 1 := IntWalk.i64_in _ (by omega)
          have hwp2 : IntKind.i64.wrap (p2 + 1) = p2 + 1 := IntWalk.i64_in _ (by omega)
          have hfin : Below Y.heap.size Y Z := hb2.trans ⟨hwZ.os, hwZ.tape, hwZ.output, hwZ.size, fun k hk => hwZ.block k (Nat.lt_of_lt_of_le hk hb2.size)⟩
          have hfin := Lib.hid hfin
          by_cases hxy : y.stat.inode = x.stat.inode
          · obtain ⟨hs1, hs2⟩ := things_same hx hy hxy
            have hone' := Lib.hid (hone.yes hy hxy)
            have hji : decide (j ≤ i) = decide (o ≤ o2) := decide_eq_decide.2 (by omega)
            rw [hji] at hone'
            rw [hs1] at y1 y2 y3 y4 y5
            rw [hs2] at y6
            have ns := neq_stat_any Z x.stat.inode x.stat.kind x.stat.links x.stat.size x.stat.blocks
            clear hAY hA2 hN hx bx hwY hb ho' hil hy by1 hwZ hzZ bxZ hone ho2 hxy hs1 hs2 hle2 hji hb2
            cases f with
            | true =>
              go_wp2_with (refine wpList_store_run _ rfl (.tmp 16) (.tmp 48) 34 rfl Z hst ?_)
              go_roundw
              case rel => exact ⟨i + 1, o2 + 1, p2 + 1, _, rfl, rfl, rfl, hone', by omega, hfin⟩
              case measure => simp only [intOf]; omega
            | false =>
              go_wp2_with (refine wpList_store_run _ rfl (.tmp 16) (.tmp 48) 34 rfl Z hst ?_)
              go_roundw
              case rel => exact ⟨i + 1, o2 + 1, p2 + 1, _, rfl, rfl, rfl, hone', by omega, hfin⟩
              case measure => simp only [intOf]; omega
          · have hone' := Lib.hid (hone.no hy hxy)
            have hnq : (y.stat.inode != x.stat.inode) = true := bne_iff_ne.2 hxy
            clear hAY hA2 hN hx bx hwY hb ho' hil hy by1 hwZ hzZ bxZ hone ho2 hxy hle2 hb2
            go_wp2_with (refine wpList_store_run _ rfl (.tmp 16) (.tmp 48) 34 rfl Z hst ?_)
            go_roundw
            case rel => exact ⟨i + 1, o2 + 1, p2, f, rfl, rfl, rfl, hone', by omega, hfin⟩
            case measure => simp only [intOf]; omega
        · obtain ⟨lk, hlk⟩ : ∃ q, q = p2 := ⟨_, rfl⟩
          have hdone := Lib.hid (show p2 = ((things s).countP fun y => decide (y.stat.inode = x.stat.inode) : Nat) ∧ f = decide (x.stat.inode ∉ (inos (things s)).take j) from by
            have hN := HB.2.1
            exact hone.done (by omega) (by omega))
          have hb2' := Lib.hid hb2
          obtain ⟨w5, rfl⟩ : ∃ w5 : World, w5 = wr := ⟨_, rfl⟩
          clear hlk hone ho2 hi hle2 hb2
          go_wp2_with fail
          go_loopw [17, 18, 79] (fun nv dv iv wr => ∃ (i : Nat) (o3 p3 q3 : Int), iv = .int .i64 o3 ∧ nv = .int .i64 p3 ∧ dv = .int .i64 q3 ∧ Hid (Two (things s) x i o3 p3 q3) ∧ i ≤ N ∧ Below w5.heap.size w5 wr) (fun _ _ iv _ => (N - (intOf iv).toNat))
          case atStart => exact ⟨0, 0, 0, 0, rfl, rfl, rfl, Two.start _ _, Nat.zero_le _, Below.refl _ _⟩
          case round =>
            obtain ⟨i, o3, p3, q3, rfl, rfl, rfl, htwo, hi, hb3⟩ := hrel
            have ho3 : o3 = (i : Int) := htwo.o
            have hle3 := Two.le htwo
            by_cases c3 : o3 < (N : Int)
            · obtain ⟨hAY, hN, hx, bx, hwY, hb, ho'⟩ := HB
              have hil : i < (things s).length := by omega
              obtain ⟨y, hy⟩ : ∃ y, (things s)[i]? = some y := ⟨_, List.getElem?_eq_getElem hil⟩
              have hBY : Below Y.heap.size Y wr := (show Below Y.heap.size Y w5 from hb2').trans ⟨hb3.os, hb3.tape, hb3.output, hb3.size, fun k hk => hb3.block k (Nat.lt_of_lt_of_le hk (show Below Y.heap.size Y w5 from hb2').size)⟩
              have hA2 := row_same hAY (W' := wr) fun g hg => hBY.block g (hAY.lt g hg).2
              obtain ⟨a0, a1, a2, a3, a4, a5, a6⟩ := row_thing (by rw [← hN]; exact hA2) hy
              obtain ⟨Z, hst, by1, hwZ, hzZ⟩ := put_thing (w := wr) (cs := #[.string (mk y.path), .int .i64 y.stat.inode, .int .i64 y.stat.kind, .int .i64 y.stat.links, .int .i64 y.stat.size, .int .i64 y.stat.blocks, .string (mk y.data)]) rfl (by simp [Value.oneCell'])
              have bxZ := (bx.same (hBY.block _ bx.lt)).same (hwZ.block _ (Nat.lt_of_lt_of_le bx.lt hBY.size))
              obtain ⟨x0, x1, x2, x3, x4, x5, x6⟩ := thing_cells bxZ
              obtain ⟨y0, y1, y2, y3, y4, y5, y6⟩ := thing_cells by1
              have hon3 : o3.toNat = i := by omega
              have hc30 : 0 ≤ o3 := by omega
              have hwr3 : IntKind.i64.wrap (o3 + 1) = o3 + 1 := IntWalk.i64_in _ (by omega)
              have hwp3 : IntKind.i64.wrap (p3 + 1) = p3 + 1 := IntWalk.i64_in _ (by omega)
              have hwq3 : IntKind.i64.wrap (q3 + 1) = q3 + 1 := IntWalk.i64_in _ (by omega)
              have hfin : Below w5.heap.size w5 Z := hb3.trans ⟨hwZ.os, hwZ.tape, hwZ.output, hwZ.size, fun k hk => hwZ.block k (Nat.lt_of_lt_of_le hk hb3.size)⟩
              have hfin := Lib.hid hfin
              have HHL := Lib.hid (held_any x.path y.path (path_small hI hy) Z)
              have htwo' := fun b c hb hc => htwo.more hy (b := b) (c := c) hb hc
              have htwo' := Lib.hid htwo'
              clear hAY hA2 hN hx bx hwY hb ho' hil hy by1 hwZ hzZ bxZ htwo ho3 hle3 hb3 hBY
              by_cases hk2 : x.stat.kind = 2
              · have k2 : (x.stat.kind == 2) = true := beq_iff_eq.2 hk2
                by_cases hp : y.path = x.path
                · have hpe : (mk y.path).toList = (mk x.path).toList := by rw [hp]
                  have HE := Lib.hid ((show _ from htwo') false (decide (y.stat.kind = 2)) (by simp [hp]) rfl)
                  simp only [Bool.false_and, Bool.false_eq_true, if_false] at HE
                  clear hp hk2
                  go_wp2_with (refine wpList_store_run _ rfl (.tmp 20) (.tmp 82) 34 rfl Z hst ?_)
                  go_roundw
                  case rel => exact ⟨i + 1, o3 + 1, p3, q3, rfl, rfl, rfl, HE, by omega, hfin⟩
                  case measure => simp only [intOf]; omega
                · have hpe : ((mk y.path).toList == (mk x.path).toList) = false := by rw [mk_list, mk_list]; exact beq_eq_false_iff_ne.2 hp
                  obtain ⟨h, hh⟩ : ∃ h, h = heldB x.path y.path := ⟨_, rfl⟩
                  rw [← hh] at HHL
                  cases h with
                  | false =>
                    have HE := Lib.hid ((show _ from htwo') false (decide (y.stat.kind = 2)) (by rw [← hh]; simp) rfl)
                    simp only [Bool.false_and, Bool.false_eq_true, if_false] at HE
                    clear hp hk2 hh
                    go_wp2_with (first | (go_at_call 10; have hc' := HHL; unfold Hid at hc'; refine hc'.mono ?_; clear hc'; rintro e w6 ⟨rfl, rfl⟩) | (refine wpList_store_run _ rfl (.tmp 20) (.tmp 82) 34 rfl Z hst ?_))
                    go_roundw
                    case rel => exact ⟨i + 1, o3 + 1, p3, q3, rfl, rfl, rfl, HE, by omega, hfin⟩
                    case measure => simp only [intOf]; omega
                  | true =>
                    by_cases hk3 : y.stat.kind = 2
                    · have k3 : (y.stat.kind == 2) = true := beq_iff_eq.2 hk3
                      have HE := Lib.hid ((show _ from htwo') true true (by rw [← hh]; simp [hk2, hp]) (by simp [hk3]))
                      simp only [Bool.and_self, if_true] at HE
                      clear hp hk2 hh hk3
                      go_wp2_with (first | (go_at_call 10; have hc' := HHL; unfold Hid at hc'; refine hc'.mono ?_; clear hc'; rintro e w6 ⟨rfl, rfl⟩) | (refine wpList_store_run _ rfl (.tmp 20) (.tmp 82) 34 rfl Z hst ?_))
                      go_roundw
                      case rel => exact ⟨i + 1, o3 + 1, p3 + 1, q3 + 1, rfl, rfl, rfl, HE, by omega, hfin⟩
                      case measure => simp only [intOf]; omega
                    · have k3 : (y.stat.kind == 2) = false := beq_eq_false_iff_ne.2 hk3
                      have HE := Lib.hid ((show _ from htwo') true false (by rw [← hh]; simp [hk2, hp]) (by simp [hk3]))
                      simp only [Bool.and_false, Bool.false_eq_true, if_true, if_false] at HE
                      clear hp hk2 hh hk3
                      go_wp2_with (first | (go_at_call 10; have hc' := HHL; unfold Hid at hc'; refine hc'.mono ?_; clear hc'; rintro e w6 ⟨rfl, rfl⟩) | (refine wpList_store_run _ rfl (.tmp 20) (.tmp 82) 34 rfl Z hst ?_))
                      go_roundw
                      case rel => exact ⟨i + 1, o3 + 1, p3 + 1, q3, rfl, rfl, rfl, HE, by omega, hfin⟩
                      case measure => simp only [intOf]; omega
              · have k2 : (x.stat.kind == 2) = false := beq_eq_false_iff_ne.2 hk2
                have HE := Lib.hid ((show _ from htwo') false (decide (y.stat.kind = 2)) (by simp [hk2]) rfl)
                simp only [Bool.false_and, Bool.false_eq_true, if_false] at HE
                clear hk2
                go_wp2_with (refine wpList_store_run _ rfl (.tmp 20) (.tmp 82) 34 rfl Z hst ?_)
                go_roundw
                case rel => exact ⟨i + 1, o3 + 1, p3, q3, rfl, rfl, rfl, HE, by omega, hfin⟩
                case measure => simp only [intOf]; omega
            · obtain ⟨hAY, hN, hx, bx, hwY, hb, ho'⟩ := HB
              have FT := things_fit hI (by omega) hx
              obtain ⟨e1, e2⟩ := hdone
              obtain ⟨e3, e4⟩ := htwo.done (by omega)
              generalize ((things s).countP fun y => decide (y.stat.inode = x.stat.inode)) = n1 at *
              generalize ((things s).countP fun y => decide (x.stat.kind = 2) && (decide (y.path ≠ x.path) && heldB x.path y.path)) = n2 at *
              generalize ((things s).countP fun y => (decide (x.stat.kind = 2) && (decide (y.path ≠ x.path) && heldB x.path y.path)) && decide (y.stat.kind = 2)) = n3 at *
              have hBY : Below Y.heap.size Y wr := (show Below Y.heap.size Y w5 from hb2').trans ⟨hb3.os, hb3.tape, hb3.output, hb3.size, fun k hk => hb3.block k (Nat.lt_of_lt_of_le hk (show Below Y.heap.size Y w5 from hb2').size)⟩
              have bxr := bx.same (hBY.block _ bx.lt)
              obtain ⟨x0, x1, x2, x3, x4, x5, x6⟩ := thing_cells bxr
              have hsum' := Lib.hid (hsum.more hx e2)
              have hfin : Below Y3.heap.size Y3 wr := hb.trans ⟨hwY.os.symm ▸ hBY.os, hBY.tape.trans hwY.tape, hBY.output.trans hwY.output, Nat.le_trans hwY.size hBY.size, fun k hk => (hBY.block k (by have := hwY.size; have := hb.size; omega)).trans (hwY.block k (by have := hb.size; omega))⟩
              have hfin := Lib.hid hfin
              have hwp : IntKind.i64.wrap (p + 1) = p + 1 := IntWalk.i64_in _ (by omega)
              have hsm := FT.small
              have hwq : IntKind.i64.wrap (q + x.stat.blocks) = q + x.stat.blocks := IntWalk.i64_in _ (by omega)
              have hle3 := Two.le htwo
              clear hAY hN hx bx hwY hb hb3 hBY bxr htwo ho3 e2 hb2'
              have hsum : Sums s (j + 1) (o + 1) (if f then p + 1 else p) (if f then q + x.stat.blocks else q) := hsum'
              rcases FT.kind with hkd | hkd | hkd
              · obtain ⟨f1, f2⟩ := FT.file hkd
                have g0 : (x.stat.kind == 2) = false := by rw [hkd]; rfl
                have g1 : (x.stat.kind == 1) = true := by rw [hkd]; rfl
                have g2 : (x.stat.links != p2) = false := by rw [f1, e1]; simp
                by_cases hz : x.stat.size = 0
                · have g3 : (x.stat.size == 0) = true := beq_iff_eq.2 hz
                  have g4 : (x.stat.blocks != 0) = false := by rw [f2 hz]; rfl
                  clear f1 f2 FT hkd hz hsum' e1 e3 e4 hsm hle3 ho'
                  cases f with
                  | true =>
                    simp only [if_true] at hsum
                    have hsum := Lib.hid hsum
                    go_wp2_with fail
                    go_roundw
                    case rel => exact ⟨j + 1, o + 1, p + 1, q + x.stat.blocks, rfl, rfl, rfl, hsum, by omega, hfin⟩
                    case measure => simp only [intOf]; omega
                  | false =>
                    simp only [Bool.false_eq_true, if_false] at hsum
                    have hsum := Lib.hid hsum
                    go_wp2_with fail
                    go_roundw
                    case rel => exact ⟨j + 1, o + 1, p, q, rfl, rfl, rfl, hsum, by omega, hfin⟩
                    case measure => simp only [intOf]; omega
                · have g3 : (x.stat.size == 0) = false := beq_eq_false_iff_ne.2 hz
                  clear f1 f2 FT hkd hz hsum' e1 e3 e4 hsm hle3 ho'
                  cases f with
                  | true =>
                    simp only [if_true] at hsum
                    have hsum := Lib.hid hsum
                    go_wp2_with fail
                    go_roundw
                    case rel => exact ⟨j + 1, o + 1, p + 1, q + x.stat.blocks, rfl, rfl, rfl, hsum, by omega, hfin⟩
                    case measure => simp only [intOf]; omega
                  | false =>
                    simp only [Bool.false_eq_true, if_false] at hsum
                    have hsum := Lib.hid hsum
                    go_wp2_with fail
                    go_roundw
                    case rel => exact ⟨j + 1, o + 1, p, q, rfl, rfl, rfl, hsum, by omega, hfin⟩
                    case measure => simp only [intOf]; omega
              · obtain ⟨f1, f2, f3, f4, f5, f6⟩ := FT.dir hkd
                have g0 : (x.stat.kind == 2) = true := by rw [hkd]; rfl
                have g1 : (p2 != 1) = false := by rw [e1, f1]; rfl
                have hw2 : IntKind.i64.wrap (2 + q3) = 2 + q3 := IntWalk.i64_in _ (by omega)
                have g2 : (x.stat.links != 2 + q3) = false := by rw [f2, e4]; simp
                have g3 : (x.stat.size.tmod 512 != 0) = false := by rw [Int.tmod_eq_emod_of_nonneg f6, f3]; rfl
                have g3b : (x.stat.size % 512 != 0) = false := by rw [f3]; rfl
                have g4 : ¬ x.stat.size / 32 < p3 := by omega
                have g5 : ¬ x.stat.blocks < x.stat.size / 512 := by omega
                have d32 : RowKit.wrap64 (x.stat.size.tdiv 32) = x.stat.size / 32 := by rw [Int.tdiv_eq_ediv_of_nonneg f6]; exact IntWalk.wrap64_in _ (by omega)
                have d512 : RowKit.wrap64 (x.stat.size.tdiv 512) = x.stat.size / 512 := by rw [Int.tdiv_eq_ediv_of_nonneg f6]; exact IntWalk.wrap64_in _ (by omega)
                have g6 := f6
                clear f1 f2 f3 f4 f5 FT hkd hsum' e1 e3 e4 hsm hle3 ho'
                cases f with
                | true =>
                  simp only [if_true] at hsum
                  have hsum := Lib.hid hsum
                  go_wp2_with fail
                  go_roundw
                  case rel => exact ⟨j + 1, o + 1, p + 1, q + x.stat.blocks, rfl, rfl, rfl, hsum, by omega, hfin⟩
                  case measure => simp only [intOf]; omega
                | false =>
                  simp only [Bool.false_eq_true, if_false] at hsum
                  have hsum := Lib.hid hsum
                  go_wp2_with fail
                  go_roundw
                  case rel => exact ⟨j + 1, o + 1, p, q, rfl, rfl, rfl, hsum, by omega, hfin⟩
                  case measure => simp only [intOf]; omega
              · obtain ⟨f1, f2, f3⟩ := FT.link hkd
                have g0 : (x.stat.kind == 2) = false := by rw [hkd]; rfl
                have g1 : (x.stat.kind == 1) = false := by rw [hkd]; rfl
                have g1b : (x.stat.kind == 3) = true := by rw [hkd]; rfl
                have g2 : (x.stat.links != p2) = false := by rw [f1, e1]; simp
                have hw2 : IntKind.i64.wrap (x.stat.size + 511) = x.stat.size + 511 := IntWalk.i64_in _ (by omega)
                have g3 : (x.stat.blocks != (x.stat.size + 511) / 512) = false := by rw [f2]; simp
                have d512 : RowKit.wrap64 ((x.stat.size + 511).tdiv 512) = (x.stat.size + 511) / 512 := by rw [Int.tdiv_eq_ediv_of_nonneg (by omega)]; exact IntWalk.wrap64_in _ (by omega)
                have g5 : 0 ≤ x.stat.size + 511 := by omega
                clear f1 f2 FT hkd hsum' e1 e3 e4 hsm hle3 ho'
                cases f with
                | true =>
                  simp only [if_true] at hsum
                  have hsum := Lib.hid hsum
                  go_wp2_with fail
                  go_roundw
                  case rel => exact ⟨j + 1, o + 1, p + 1, q + x.stat.blocks, rfl, rfl, rfl, hsum, by omega, hfin⟩
                  case measure => simp only [intOf]; omega
                | false =>
                  simp only [Bool.false_eq_true, if_false] at hsum
                  have hsum := Lib.hid hsum
                  go_wp2_with fail
                  go_roundw
                  case rel => exact ⟨j + 1, o + 1, p, q, rfl, rfl, rfl, hsum, by omega, hfin⟩
                  case measure => simp only [intOf]; omega
    · obtain ⟨hA, hN, br3⟩ := HH
      have hz := hsum.done hI (by omega)
      obtain ⟨z1, z2⟩ := hz
      have brw := br3.same (hb.block _ br3.lt)
      have r0 : wo.cell? ⟨w3.heap.size, 0, none⟩ = some (.int .i64 (roomN n s).freeB) := brw.cell 0
      have r1 : wo.cell? ⟨w3.heap.size, 1, none⟩ = some (.int .i64 (roomN n s).blocks) := brw.cell 1
      have r2 : wo.cell? ⟨w3.heap.size, 2, none⟩ = some (.int .i64 (roomN n s).freeI) := brw.cell 2
      have r3 : wo.cell? ⟨w3.heap.size, 3, none⟩ = some (.int .i64 (roomN n s).inodes) := brw.cell 3
      have hcn := nodes_room hI
      have htk := (hI.taken (by omega)).1
      have hRn : Fs.taken s ≤ n - dataAt n := hR
      have e0 : (roomN n s).freeB = (roomN n s).blocks - q := by rw [z2]; rfl
      have e2 : (roomN n s).freeI = (roomN n s).inodes - p := by rw [z1]; rfl
      have b0 : 0 ≤ (roomN n s).freeB := by show 0 ≤ n - dataAt n - taken s; omega
      have b2 : 0 ≤ (roomN n s).freeI := by show 0 ≤ countOf n - 1 - (s.length : Int); omega
      have hbb : (roomN n s).blocks = n - dataAt n := rfl
      have hbi : (roomN n s).inodes = countOf n - 1 := rfl
      unfold dataAt at hbb
      unfold countOf at hbi
      have u0 : IntKind.i64.wrap ((roomN n s).blocks - q) = (roomN n s).blocks - q := IntWalk.i64_in _ (by omega)
      have u2 : IntKind.i64.wrap ((roomN n s).inodes - p) = (roomN n s).inodes - p := IntWalk.i64_in _ (by omega)
      have g0 : ((roomN n s).freeB == (roomN n s).blocks - q) = true := by rw [e0]; simp
      have g2 : ((roomN n s).freeI == (roomN n s).inodes - p) = true := by rw [e2]; simp
      have hfin : Below W.heap.size W wo := by
        have h8 : Below W.heap.size W Y3 := hbelow
        exact h8.trans ⟨hb.os, hb.tape, hb.output, hb.size, fun k hk => hb.block k (Nat.lt_of_lt_of_le hk h8.size)⟩
      have hfin := Lib.hid hfin
      clear e0 e2 hbb hbi z1 z2 hA hN br3 brw hcn htk hRn ho' hsum hle hb
      generalize (roomN n s).freeB = rb at *
      generalize (roomN n s).blocks = rB at *
      generalize (roomN n s).freeI = ri at *
      generalize (roomN n s).inodes = rI at *
      go_wp2_with fail
      go_ret
      exact ⟨rfl, hfin⟩
end
end Fs
end Go.Proofs.YtlnnbjgfpiefdaaGreat
namespace Go.Proofs.YtlnnbjgfpiefdaaGreat.ramRoom
open Go.ChangeShapes Go.WideShapes Go.ChangeAt Go.RowKit Go.Joins

theorem own : ownKnob Tryz.prog.godebug = none := by kernel_rfl
theorem laidOut : laidOutB Tryz.prog = true := by kernel_rfl
set_option maxRecDepth 100000 in
theorem lifted (os : Os) (started : os.Started) (H : Type) (enc : TypeId × Value → H) :
    ReturnsInHanded {} Tryz.checked os 3 .any (Rows.ramRoomSpec.pre6 enc Tryz.prog Tryz.f3 Rows.ramRoomRow.domain false) (Rows.ramRoomSpec.post enc Tryz.prog Tryz.f3 false true false false) := by
  refine returnsInHanded_of_change_sized (C := Tryz.checked) own started (by kernel_rfl) Tryz.func3
    (ChangeSpec.witness6 (enc := enc) (C := Tryz.checked) false ⟨#[], #[.int .i64 0, .slice none 0 0], []⟩ 8 (by kernel_rfl) (by kernel_rfl) (by kernel_rfl) (by kernel_rfl)) ?_
  intro W base args ds gs before hval0 hW hcnd hsz0 _
  have hsz : (DataW.weightsEach Tryz.prog (Tryz.f3.params.toList ++ Rows.ramRoomSpec.plain.varTypes Tryz.prog) (ds ++ gs)).all (· ≤ reachBytes) = true := hsz0
  clear hsz0
  have hval : ∀ (j : Nat) t v, Tryz.f3.params[j]? = some t → args[j]? = some v → Value.okWide Tryz.prog W .any base t v := hval0
  have hW' := hW
  obtain ⟨p, q, hA0, hV, rfl, hfz, hnd⟩ := hW
  have hA : DataW.TrodAll enc Tryz.prog W 0 (fun _ => true) true Tryz.f3.params.toList args.toList ds p := hA0
  rw [Tryz.params3] at hA hval hsz
  obtain ⟨v0, v1, d0, d1, p0, p1, rfl, rfl, rfl, h0, h1⟩ := trodAll_two hA
  obtain ⟨rfl, rfl⟩ := trodVars_none hV
  have k0 := h0
  have k1 := h1
  have lt0 : ∀ x ∈ p0, x.block < W.heap.size := by obtain ⟨m, hm⟩ := k0; exact DataW.trod_lt m _ _ _ hm
  have lt1 : ∀ x ∈ p1, x.block < W.heap.size := by obtain ⟨m, hm⟩ := k1; exact DataW.trod_lt m _ _ _ hm
  have fin : ∀ e W', (e = Ending.returned (.bool true) ∧ Below W.heap.size W W') → ∃ v, e = Ending.returned v ∧ Rows.ramRoomSpec.post enc Tryz.checked.prog Tryz.f3 false true false false W #[v0, v1] v W' := by
    intro e W' ⟨he, bel⟩
    subst he
    exact ⟨_, rfl, _, _, _, [], _, [], hW', trodAll_mk1 (shut_bool Tryz.underlying4 _), (trodAll_cons_mk (Below.trod laidOut (by kernel_rfl) (of_decide_eq_true (by kernel_rfl)) k0 bel lt0) (trodAll_cons_mk (Below.trod laidOut (by kernel_rfl) (of_decide_eq_true (by kernel_rfl)) k1 bel lt1) trodAll_mk0)), rfl, bel.frame _, fun h => by cases h⟩
  obtain ⟨n, rfl, _, _, _⟩ := open_int Tryz.underlying3 (hval 0 3 v0 rfl rfl) h0
  obtain ⟨l, ao, cap, rfl, hl, hcl⟩ := Fs.open_calls (hval 1 22 v1 rfl rfl) h1 (Fs.light_of hsz (j := 1) rfl rfl)
  exact (Fs.rooms_any n l ao cap hl hcl).mono fin

/-- The statement. -/
theorem proved : Rows.RamRoomSaid :=
  OpenClaim.holds_of_wide 3 Tryz.f3 rfl rfl rfl rfl rfl rfl rfl ⟨rfl, rfl, rfl, rfl, rfl⟩ rfl rfl rfl rfl rfl (by kernel_rfl) Tryz.func3 (by kernel_rfl)
    (of_decide_eq_true (by kernel_rfl)) (by unfold Func.isWrapper; first | (rw [if_pos (by decide +kernel)]; kernel_rfl) | (rw [if_neg (by decide +kernel)]; exact ⟨rfl, rfl⟩))
    (fun os started H enc _ => lifted os started H enc)
#print axioms proved
end Go.Proofs.YtlnnbjgfpiefdaaGreat.ramRoom
