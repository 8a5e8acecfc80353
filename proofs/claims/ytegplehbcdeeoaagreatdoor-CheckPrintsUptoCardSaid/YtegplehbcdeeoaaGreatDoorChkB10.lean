/- The image behind the log. -/
import Derived.Test.YtegplehbcdeeoaaGreatDoorChkB09
import Derived.StillTailTactics
namespace Go.Proofs.YtegplehbcdeeoaaGreatDoor
open Go.RowKit

namespace Ck
open Pk Pw
/-- Blocks laid into an image. -/
def layAll : B → List Nat → List B → B
  | l, n :: ns, d :: ds => layAll (lay l (512 * n) d) ns ds
  | l, _, _ => l
/-- The image behind the log. -/
def behindP (n : Nat) (l : B) : Option B := (logP n l).map fun nums => lay (layAll l nums (dataOf l nums.length)) 512 zs512
/-- Bytes copied into the front of a block. -/
theorem copy_ext {w : World} {g o dLen dCap g' o' sLen sCap : Nat} {l x : B} {ext : Array Value} {t : TypeId} (dT sT ty elem : TypeId) (hu : Tryz.prog.underlying dT = some (.slice elem)) (hs : (Tryz.prog.info? elem).map (·.size) = some 1)
    (hb : Blk w g (bytesC l ++ ext) t) (hx : x.length = min sLen dLen) (hsrc : SeenAt w g' o' x) (hfit : o + x.length ≤ l.length) :
    (Builtin.copy_ #[dT, sT] ty #[.slice (some ⟨g, o, none⟩) dLen dCap, .slice (some ⟨g', o', none⟩) sLen sCap]).run Tryz.prog w = .ok (goInt x.length) (w.setRow g (bytesC (lay l o x) ++ ext)) := by
  have := run_copy_row (P := Tryz.prog) w dT sT ty elem g o dLen dCap ⟨g', o', none⟩ sLen sCap (bytesC l ++ ext) t (bytesV x) hu hs hb (by rw [bytesV_len, hx])
    (fun j v hj => by
      rw [bytesV_get] at hj
      cases hc : x[j]? with
      | none => rw [hc] at hj; cases hj
      | some c =>
        rw [hc] at hj
        cases hj
        rw [addr_plain]
        exact hsrc j c hc) (by rw [bytesV_len, Array.size_append, bytesC_size]; omega) (bytesV_one x)
  have e : ((bytesC l ++ ext).toList.take o ++ bytesV x ++ (bytesC l ++ ext).toList.drop (o + x.length)).toArray = bytesC (lay l o x) ++ ext := by
    have h1 : (bytesC l ++ ext).toList = bytesV l ++ ext.toList := by unfold bytesC; simp
    rw [h1, List.take_append_of_le_length (by rw [bytesV_len]; omega), List.drop_append_of_le_length (by rw [bytesV_len]; omega)]
    unfold bytesC lay
    apply Array.toList_inj.1
    simp [bytesV, List.map_take, List.map_drop]
  rw [this, bytesV_len, e]
/-- A row of bytes that is owned is the front of a block. -/
theorem own_blk {w : World} {base : Nat} {e : TypeId} {v : Value} {n : Nat} {l : B} (h : w.ownsRow base e 1 v n (bytesV l)) (hn : 0 < n) : ∃ g cap ext, v = .slice (some ⟨g, 0, none⟩) n cap ∧ base ≤ g ∧ Blk w g (bytesC l ++ ext) e ∧ n ≤ cap ∧ cap ≤ 9223372036854775807 := by
  rcases h.2 with ⟨_, hz⟩ | ⟨g, cap, cur, rfl, hb, hh, hc, hm, hsz, ht⟩
  · omega
  · refine ⟨g, cap, (cur.toList.drop n).toArray, rfl, hb, ?_, hc, by unfold maxLen at hm; omega⟩
    rw [Nat.mul_one] at ht
    have e2 : bytesC l ++ (cur.toList.drop n).toArray = cur := by
      unfold bytesC
      rw [← ht]
      simp
    rw [e2]
    exact hh
theorem rowsOf_get : ∀ {ns gs : List Nat} {j n g : Nat}, ns[j]? = some n → gs[j]? = some g → (rowsOf ns gs)[2 * j]? = some (.int .i64 n) ∧ (rowsOf ns gs)[2 * j + 1]? = some (sl g)
  | [], _, j, n, g, h, _ => by simp at h
  | _ :: _, [], j, n, g, _, h => by simp at h
  | a :: ns, b :: gs, 0, n, g, h1, h2 => by
    simp only [List.getElem?_cons_zero, Option.some.injEq] at h1 h2
    subst h1; subst h2
    exact ⟨rfl, rfl⟩
  | a :: ns, b :: gs, j + 1, n, g, h1, h2 => by
    simp only [List.getElem?_cons_succ] at h1 h2
    have := rowsOf_get h1 h2
    exact this
theorem rises_all : ∀ {l : List Nat} {last n : Int}, rises last n l = true → ∀ x ∈ l, last < (x : Int) ∧ (x : Int) < n
  | [], _, _, _, x, hx => by cases hx
  | i :: l, last, n, h, x, hx => by
    unfold rises at h
    simp only [Bool.and_eq_true, decide_eq_true_eq] at h
    rcases List.mem_cons.1 hx with rfl | hx
    · exact h.1
    · have := rises_all h.2 x hx
      exact ⟨by omega, this.2⟩
theorem headNums_in {n : Int} {h : B} {nums : List Nat} (e : headNums n h = some nums) : ∀ x ∈ nums, 97 < (x : Int) ∧ (x : Int) < n := by
  unfold headNums at e
  dsimp only at e
  split at e
  · cases e; intro x hx; cases hx
  · split at e
    · rename_i k
      cases e
      have := k.2.2.2.2
      unfold mayN at this
      simp only [Bool.and_eq_true] at this
      exact rises_all this.1.1
    · cases e
theorem logP_in {n : Nat} {l : B} {nums : List Nat} (e : logP n l = some nums) : nums.length ≤ 96 ∧ ∀ x ∈ nums, 97 < x ∧ x < n := by
  unfold logP at e
  cases hn : headNums n (blk l 1) with
  | none => rw [hn] at e; cases e
  | some k =>
    rw [hn] at e
    dsimp only at e
    split at e
    · cases e
      exact ⟨nums_len hn, fun x hx => by have := headNums_in hn x hx; omega⟩
    · cases e
theorem take_blk (l : B) (i : Nat) : l.take (512 * (i + 1)) = l.take (512 * i) ++ blk l i := by
  unfold blk sub
  rw [show 512 * (i + 1) = 512 * i + 512 by omega, List.take_add]
theorem news_blk {w : World} {g : Nat} {l : B} {t : TypeId} (h : Blk w g (bytesC l) t) : ∀ j u, (bytesV l)[j]? = some u → w.cell? ((⟨g, 0, none⟩ : Addr).add j) = some u := fun j u hj => by
  rw [addr_plain, Nat.zero_add, h.cell]
  unfold bytesC
  rw [List.getElem?_toArray]
  exact hj
theorem own_shape {w : World} {base : Nat} {e : TypeId} {size : Nat} {v : Value} {n : Nat} {xs : List Value} (h : w.ownsRow base e size v n xs) : ∃ ao cap, v = .slice ao n cap ∧ n ≤ cap := by
  rcases h.2 with ⟨h1, h2⟩ | ⟨g, cap, cur, h1, _, _, h3, _⟩
  · exact ⟨none, 0, by rw [h1, h2], by omega⟩
  · exact ⟨some ⟨g, 0, none⟩, cap, h1, h3⟩
theorem layAll_step {l : B} {ns : List Nat} {ds : List B} {j n : Nat} {d : B} (h1 : ns[j]? = some n) (h2 : ds[j]? = some d) : layAll l (ns.drop j) (ds.drop j) = layAll (lay l (512 * n) d) (ns.drop (j + 1)) (ds.drop (j + 1)) := by
  have i1 := (List.getElem?_eq_some_iff.1 h1)
  have i2 := (List.getElem?_eq_some_iff.1 h2)
  obtain ⟨a1, b1⟩ := i1
  obtain ⟨a2, b2⟩ := i2
  rw [List.drop_eq_getElem_cons a1, List.drop_eq_getElem_cons a2, b1, b2]
  rfl
def BehindP (n : Nat) (l : B) (w : World) (e : Ending) (w' : World) : Prop :=
  Below w.heap.size w w' ∧ match behindP n l with
  | some x => ∃ g cap, e = .returned (.tuple #[.slice (some ⟨g, 0, none⟩) (512 * n) cap, .int .i64 0]) ∧ w.heap.size ≤ g ∧ g < w'.heap.size ∧ SeenAt w' g 0 x ∧ 512 * n ≤ cap ∧ cap ≤ 9223372036854775807
  | none => e = .returned (.tuple #[.slice none 0 0, .int .i64 41])
theorem info_u8b : (Tryz.prog.info? 5).map (fun i => (i.zero, i.size, i.bytes)) = some (some (.int .u8 0), 1, 1) := by kernel_rfl
set_option maxRecDepth 100000 in
set_option maxHeartbeats 1000000 in
theorem behindW_any {w : World} {d g n : Nat} {l : B} (h : DiskAt w d g n l) (h1 : 128 ≤ n) (h2 : n ≤ 16384) (hw : KVars w) : Calls Tryz.prog 56 #[.pointer (some ⟨d, 0, none⟩)] w fun e w' => BehindP n l w e w' := by
  have hD := Lib.hid h
  have hK := Lib.hid hw
  clear h hw
  go_enter_defers Tryz.func56, Tryz.ntmps56
  go_wp2_with fail
  have hb0 : Below w.heap.size w (w.alloc (.cells #[.int .i64 0] 41)) := (Below.refl _ _).alloc (Nat.le_refl _) _
  have hpe : Blk (w.alloc (.cells #[.int .i64 0] 41)) w.heap.size #[.int .i64 0] 41 := Blk.new _ _ _
  have hsz0 : (w.alloc (.cells #[.int .i64 0] 41)).heap.size = w.heap.size + 1 := alloc_size _ _
  generalize w.alloc (.cells #[.int .i64 0] 41) = w0 at *
  have hD0 := Lib.hid (hD.out.below hb0)
  have hK0 := Lib.hid (hK.out.below hb0)
  refine (held_any hD0.out h1 h2 hK0.out).mono ?_
  rintro e w1 ⟨hb1, hm⟩
  have hpe1 := hpe.same (hb1.block _ (by omega))
  have hb01 := hb0.trans (hb1.mono (by omega))
  cases hp : logP n l with
  | none =>
    rw [hp] at hm
    obtain rfl := hm
    have hq : behindP n l = none := by unfold behindP; rw [hp]; rfl
    go_wp2_with fail
    refine doorW_gave rfl rfl (hpe1.cell 0) (hpe1.free 0) ?_
    unfold BehindP
    rw [hq]
    exact ⟨((hb01).setCell (Nat.le_refl _) _).drew, rfl⟩
  | some nums =>
    rw [hp] at hm
    obtain ⟨v, gs, rfl, hown, hng, hbl⟩ := hm
    have hq : behindP n l = some (lay (layAll l nums (dataOf l nums.length)) 512 zs512) := by unfold behindP; rw [hp]; rfl
    obtain ⟨hn96, hnin⟩ := logP_in hp
    have hD1 := Lib.hid (hD0.out.below hb1)
    have hK1 := Lib.hid (hK0.out.below hb1)
    have HB := blocks_any hD1.out
    have hll := Lib.hid hD1.out.len
    obtain ⟨i0, hi, hz0, hz1, hz2⟩ := info_parts info_u8b
    have hB1 := Lib.hid hb01
    have hP1 := Lib.hid hpe1
    have hO1 := Lib.hid (And.intro hown (And.intro hng hbl))
    have hq := Lib.hid hq
    have hin := Lib.hid (And.intro hp hnin)
    have hsz1 : w.heap.size < w1.heap.size := hP1.out.lt
    clear hown hng hbl hp hnin hb01 hpe1 hb1 hpe hb0
    go_wp2_with (go_at_call 99; refine HB.mono ?_; clear HB; rintro e w2 ⟨rfl, rfl⟩)
    go_loopw [14, 5] (fun iv v5 wr => ∃ i : Nat, iv = .int .i64 i ∧ i ≤ n ∧ wr.ownsRow w1.heap.size 5 1 v5 (512 * i) (bytesV (l.take (512 * i))) ∧ Below w1.heap.size w1 wr) (fun iv _ _ => n - (intOf iv).toNat)
    case atStart => exact ⟨0, rfl, Nat.zero_le _, World.ownsRow_nil _ _ _ _, Below.refl _ _⟩
    case round =>
      obtain ⟨i, rfl, hin', hown, hbw⟩ := hrel
      by_cases c : i < n
      · have HR := readW_any (hD1.out.below hbw) i c
        have hci : (i : Int) < (n : Int) := by omega
        have hbs := hbw.size
        go_wp2_with fail
        refine HR.mono ?_
        clear HR
        rintro e w3 ⟨rfl, hb3, hbb3⟩
        have hO3 := own_below hown hbb3
        have hbl : (blk l i).length = 512 := sub_len (by have := hll.out; omega)
        have hnw := news_blk hb3
        have hs3 := hbb3.size
        have HB3 := Lib.hid hbb3
        have hbl' := bytesV_len (blk l i)
        clear hb3 hbb3
        go_wp2_with (at_builtin; go_must (refine wpList_append_own_at _ rfl (.tmp 17) (.tmp 20) 24 rfl w1.heap.size 5 i0 (.int .u8 0) 1 1 Tryz.underlying24 hi hz0 hz1 hz2 rfl (by decide) u5 (512 * i) (bytesV (l.take (512 * i))) rfl hO3 ⟨wr.heap.size, 0, none⟩ 512 512 (bytesV (blk l i)) rfl (by rw [hbl', hbl]) hnw (bytesV_one _) (by unfold maxLen; omega) (by omega) (by omega) ?_); intro v2 w4 hown2 hg2 _ hloc)
        go_roundw
        case rel =>
          refine ⟨i + 1, rfl, by omega, ?_, ?_⟩
          · rw [take_blk, bytesV_app, show 512 * (i + 1) = 512 * i + 512 by omega]; exact hown2
          · exact below_grown (hbw.trans (HB3.out.mono hbs)) (Nat.le_refl _) hO3 hg2
        case measure => simp only [intOf]; omega
      · obtain rfl : i = n := by omega
        have hci : ¬ (i : Int) < (i : Int) := by omega
        have htk : l.take (512 * i) = l := List.take_of_length_le (by have := hll.out; omega)
        rw [htk] at hown
        obtain ⟨g5, cap5, ext, rfl, hg5, hblk5, hc5, hc6⟩ := own_blk hown (by omega)
        obtain ⟨ao, cap4, rfl, hc4⟩ := own_shape hO1.out.1
        obtain ⟨N, hN⟩ : ∃ N, 512 * i = N := ⟨_, rfl⟩
        rw [hN] at hown hc5 ⊢
        have hN := Lib.hid hN
        have hF5 := Lib.hid hblk5
        have hgl : gs.length ≤ 96 := by have := hO1.out.2.1; omega
        clear hblk5 hown htk c
        go_wp2_with fail
        go_loopw [25] (fun iv wr => ∃ (j : Nat) (L : B), iv = .int .i64 j ∧ j ≤ gs.length ∧ Hid (Blk wr g5 (bytesC L ++ ext) 5) ∧ Hid (L.length = N ∧ layAll l nums (dataOf l nums.length) = layAll L (nums.drop j) ((dataOf l nums.length).drop j)) ∧ Below w1.heap.size w1 wr) (fun iv _ => gs.length - (intOf iv).toNat)
        case atStart => exact ⟨0, l, rfl, Nat.zero_le _, hF5, Lib.hid ⟨by rw [← hN.out]; exact hll.out, rfl⟩, hbw⟩
        case round =>
          obtain ⟨j, L, rfl, hjl, hBL, hLL, hbw2⟩ := hrel
          by_cases c : j < gs.length
          · obtain ⟨hown, hng, hbl⟩ := hO1.out
            obtain ⟨x, hx⟩ : ∃ x, gs[j]? = some x := ⟨_, List.getElem?_eq_getElem c⟩
            obtain ⟨m, hm⟩ : ∃ m, nums[j]? = some m := ⟨_, List.getElem?_eq_getElem (by omega)⟩
            obtain ⟨q1, q2⟩ := rowsOf_get hm hx
            obtain ⟨g4, cap4', e4, hg4, hg4', _, _, hcells, _⟩ := own_at hown (by omega)
            cases e4
            have hcb := hbw2.block g4 hg4'
            have k1 : wr.cell? ⟨g4, j * 2, none⟩ = some (.int .i64 m) := by rw [World.cell?_of_block hcb, hcells _ (by omega), Nat.mul_comm, q1]
            have k2 : wr.cell? ⟨g4, j * 2 + 1, none⟩ = some (sl x) := by rw [World.cell?_of_block hcb, hcells _ (by omega), Nat.mul_comm, q2]
            have hcj : (j : Int) < (gs.length : Int) := by omega
            have hmi := hin.out.2 m (List.mem_of_getElem? hm)
            have hNo := hN.out
            obtain ⟨b1, b2⟩ := hbl j x hx
            have b3 := (hO1.out.1.lt g4 rfl)
            have b2' : Blk wr x (bytesC (blk l (2 + j))) 156 := b2.same (hbw2.block _ b2.lt)
            have hbl5 : (blk l (2 + j)).length = 512 := sub_len (by have := hll.out; omega)
            have hY : Blk (wr.alloc (.cells #[.int .i64 m, .slice (some ⟨x, 0, none⟩) 512 512] 162)).drew g5 (bytesC L ++ ext) 5 := hBL.out.alloc _
            have hX : SeenAt (wr.alloc (.cells #[.int .i64 m, .slice (some ⟨x, 0, none⟩) 512 512] 162)).drew x 0 (blk l (2 + j)) := SeenAt.of_blk (b2'.alloc _)
            have hcp := fun ty => copy_ext (o := m * 512) (dLen := N - m * 512) (dCap := cap5 - m * 512) (sLen := 512) (sCap := 512) 24 24 ty 5 Tryz.underlying24 (by kernel_rfl) hY (by omega) hX (by have := hLL.out.1; omega)
            rw [hbl5] at hcp
            have hwm : IntKind.i64.wrap ((m : Int) * 512) = (m : Int) * 512 := IntWalk.i64_in _ (by omega)
            have hil : (m : Int) * 512 ≤ (N : Int) := by omega
            have hmn : ¬ (m : Int) * 512 < 0 := by omega
            have hto : ((m : Int) * 512).toNat = m * 512 := by omega
            have hlc : (N : Int) ≤ (cap5 : Int) := by omega
            have hcn : ¬ cap5 = m * 512 := by omega
            have hgd : (dataOf l nums.length)[j]? = some (blk l (2 + j)) := dataOf_get l (by omega)
            have HE := Lib.hid (And.intro (hY.setRow (bytesC (lay L (m * 512) (blk l (2 + j))) ++ ext)) (And.intro (show (lay L (m * 512) (blk l (2 + j))).length = N ∧ layAll l nums (dataOf l nums.length) = layAll (lay L (m * 512) (blk l (2 + j))) (nums.drop (j + 1)) ((dataOf l nums.length).drop (j + 1)) from
              ⟨by rw [lay_len (by have := hLL.out.1; omega)]; exact hLL.out.1, by rw [hLL.out.2, layAll_step hm hgd, Nat.mul_comm]⟩) (below_setRow ((hbw2.alloc (by have := hbw2.size; omega) (.cells #[.int .i64 m, .slice (some ⟨x, 0, none⟩) 512 512] 162)).drew) hg5 (bytesC (lay L (m * 512) (blk l (2 + j))) ++ ext))))
            have y0 : (wr.alloc (.cells #[.int .i64 m, .slice (some ⟨x, 0, none⟩) 512 512] 162)).drew.cell? ⟨wr.heap.size, 0, none⟩ = some (.int .i64 m) := (Blk.new wr _ _).cell 0
            have y1 : (wr.alloc (.cells #[.int .i64 m, .slice (some ⟨x, 0, none⟩) 512 512] 162)).drew.cell? ⟨wr.heap.size, 1, none⟩ = some (.slice (some ⟨x, 0, none⟩) 512 512) := (Blk.new wr _ _).cell 1
            clear hown hng hbl hcells hcb hY hX b1 b2 b2' b3 hbl5 hNo hmi q1 q2 hx hm hBL hLL hgd hbw2 hg4 hg4'
            go_wp2_with fail
            generalize wr.alloc (.cells #[.int .i64 m, .slice (some ⟨x, 0, none⟩) 512 512] 162) = Y at *
            go_still_tail 7, (by kernel_rfl)
            change wpList _ _ _ _ _ Y.drew
            go_wp2_with fail
            refine ⟨⟨j + 1, _, rfl, by omega, Lib.hid HE.out.1, Lib.hid HE.out.2.1, HE.out.2.2⟩, ?_⟩
            simp only [intOf]; omega
          · obtain rfl : j = gs.length := by omega
            have hci : ¬ (gs.length : Int) < (gs.length : Int) := by omega
            have hNo := hN.out
            have hLe : layAll l nums (dataOf l nums.length) = L := by
              rw [hLL.out.2, List.drop_of_length_le (by have := hO1.out.2.1; omega)]
              rfl
            have HEm := fun W => empty_any W
            have hlc : (N : Int) ≤ (cap5 : Int) := by omega
            have hl5 : (512 : Int) ≤ (N : Int) := by omega
            have hzl : zs512.length = 512 := by unfold zs512 zs; rw [List.length_replicate]
            have hL5 := hLL.out.1
            have HB5 := Lib.hid (And.intro hBL.out hbw2)
            have HLe := Lib.hid hLe
            have hzl := Lib.hid hzl
            have hcn : ¬ cap5 = 512 := by omega
            have hcp := fun ty => copy_ext (o := 512) (dLen := N - 512) (dCap := cap5 - 512) (sLen := 512) (sCap := 512) (x := zs512) 24 24 ty 5 Tryz.underlying24 (by kernel_rfl) (show Blk (wr.alloc (.cells (bytesC zs512) 5)).drew g5 (bytesC L ++ ext) 5 from Blk.alloc HB5.out.1 _) (by rw [hzl.out]; omega) (show SeenAt (wr.alloc (.cells (bytesC zs512) 5)).drew wr.heap.size 0 zs512 from SeenAt.of_blk (Blk.new wr (bytesC zs512) 5)) (by rw [hzl.out]; omega)
            rw [hzl.out] at hcp
            have hB2 := HB5.out.2.alloc (by have := HB5.out.2.size; omega) (.cells (bytesC zs512) 5)
            have hpe2 : Blk (wr.alloc (.cells (bytesC zs512) 5)) w.heap.size #[.int .i64 0] 41 := hP1.out.same (hB2.block _ hsz1)
            have hfin := Lib.hid (And.intro (below_setRow hB2.drew hg5 (bytesC (lay L 512 zs512) ++ ext)) (And.intro ((show Blk (wr.alloc (.cells (bytesC zs512) 5)).drew g5 (bytesC L ++ ext) 5 from Blk.alloc HB5.out.1 _).setRow (bytesC (lay L 512 zs512) ++ ext)) ((show Blk (wr.alloc (.cells (bytesC zs512) 5)).drew w.heap.size #[.int .i64 0] 41 from hpe2).same (setRow_heap _ g5 _ (bytesC (lay L 512 zs512) ++ ext) (by omega)))))
            clear hBL hLL hbw2 hNo hLe hL5 c hjl hB2 hpe2
            generalize ((wr.alloc (.cells (bytesC zs512) 5)).drew.setRow g5 (bytesC (lay L 512 zs512) ++ ext)) = Z at *
            have c0 := hfin.out.2.2.cell 0
            have f0 := hfin.out.2.2.free 0
            have hend : BehindP i l w (.returned (.tuple #[.slice (some ⟨g5, 0, none⟩) N cap5, .int .i64 0])) ((Z.setCell ⟨w.heap.size, 0, none⟩ (.int .i64 0)).setCell ⟨w.heap.size, 0, none⟩ (.int .i64 0)).drew := by
              unfold BehindP
              rw [hq.out, HLe.out, hN.out]
              obtain ⟨z1, z2, _⟩ := hfin.out
              have hZs := z1.size
              have e1 : ∀ x, x ≠ w.heap.size → ((Z.setCell ⟨w.heap.size, 0, none⟩ (.int .i64 0)).setCell ⟨w.heap.size, 0, none⟩ (.int .i64 0)).drew.heap[x]? = Z.heap[x]? := fun x hx => (setCell_heap _ _ _ _ _ hx).trans (setCell_heap _ _ _ _ _ hx)
              refine ⟨(((hB1.out.trans (z1.mono (by omega))).setCell (Nat.le_refl _) _).setCell (Nat.le_refl _) _).drew, g5, cap5, rfl, by omega, ?_, seen_left (z2.same (e1 g5 (by omega))), hc5, hc6⟩
              show g5 < ((Z.setCell ⟨w.heap.size, 0, none⟩ (.int .i64 0)).setCell ⟨w.heap.size, 0, none⟩ (.int .i64 0)).heap.size
              rw [setCell_size, setCell_size]
              exact z2.lt
            have hend := Lib.hid hend
            have c1 : (Z.setCell ⟨w.heap.size, 0, none⟩ (.int .i64 0)).cell? ⟨w.heap.size, 0, none⟩ = some (.int .i64 0) := World.cell?_setCell_same _ _ _ c0
            have f1 : (Z.setCell ⟨w.heap.size, 0, none⟩ (.int .i64 0)).frozen? ⟨w.heap.size, 0, none⟩ = false := (World.frozen?_setCell _ _ _ _).trans f0
            have c1 := Lib.hid c1
            have f1 := Lib.hid f1
            go_wp2_with fail
            refine Dr.wp_region_orders (by kernel_rfl) [[0, 1, 2, 3], [0, 2, 1, 3], [2, 0, 1, 3]] (by kernel_rfl) (by kernel_rfl) ?_
            intro o ho
            simp only [List.mem_cons, List.not_mem_nil, or_false] at ho
            rcases ho with rfl | rfl | rfl
            all_goals
              simp only [Dr.pick, List.drop_succ_cons, List.drop_zero, List.take_succ_cons, List.take_zero, List.cons_append, List.nil_append]
              go_wp2_with fail
              refine (HEm _).mono ?_
              rintro e y ⟨rfl, rfl⟩
              go_wp2_with fail
              exact doorW_yes rfl rfl c1.out f1.out hend.out
end Ck
end Go.Proofs.YtegplehbcdeeoaaGreatDoor
/- Bits in bytes. -/
namespace Go.Proofs.YtegplehbcdeeoaaGreatDoor
open Go.RowKit

namespace Ck
open Pk Pw
/-- A bit. -/
def bitAt (l : B) (i : Nat) : Bool := ((l.getD (i / 8) 0).toNat / 2 ^ (i % 8)) % 2 == 1
theorem and1_u8 (x : Nat) (h : x < 256) : bits .and .u8 (x : Int) 1 = ((x % 2 : Nat) : Int) := by
  have := Go.u8_and_nat x 1 h (by decide)
  rw [show ((1 : Nat) : Int) = 1 from rfl] at this
  rw [this]
  congr 1
  exact Nat.and_two_pow_sub_one_eq_mod x 1
set_option maxRecDepth 100000 in
theorem bitOn_any (l : B) (g o cap i : Nat) (w : World) (hs : SeenAt w g o l) (hi : i < 8 * l.length) (hle : l.length ≤ 1000000000000000) :
    Calls Tryz.prog 138 #[.slice (some ⟨g, o, none⟩) l.length cap, .int .i64 i] w fun e w' => e = .returned (.bool (bitAt l i)) ∧ w = w' := by
  obtain ⟨c, hc⟩ : ∃ c, l[i / 8]? = some c := ⟨_, List.getElem?_eq_getElem (by omega)⟩
  have hcell := hs (i / 8) c hc
  have hb : bitAt l i = ((c.toNat / 2 ^ (i % 8)) % 2 == 1) := by unfold bitAt; rw [List.getD_eq_getElem?_getD, hc]; rfl
  rw [hb]
  have hlt : (i : Int) / 8 < (l.length : Int) := by omega
  clear hs hc hb
  go_enter Tryz.func138, Tryz.ntmps138
  go_wp2_with fail
  go_ret
  refine ⟨?_, rfl⟩
  have hp : (c.toNat : Int) / 2 ^ (i % 8) = ((c.toNat / 2 ^ (i % 8) : Nat) : Int) := by simp
  have hlt2 : c.toNat / 2 ^ (i % 8) < 256 := Nat.lt_of_le_of_lt (Nat.div_le_self _ _) c.toNat_lt
  show Ending.returned (.bool (bits .and .u8 ((c.toNat : Int) / 2 ^ (i % 8)) 1 == 1)) = _
  rw [hp, and1_u8 _ hlt2]
  congr 2
  rcases Nat.mod_two_eq_zero_or_one (c.toNat / 2 ^ (i % 8)) with e | e <;> rw [e] <;> rfl
theorem bitHas_any (n cap : Nat) (ao : Option Addr) (i : Nat) (w : World) (hi : i < 8 * n) (hle : n ≤ 1000000000000000) :
    Calls Tryz.prog 137 #[.slice ao n cap, .int .i64 i] w fun e w' => e = .returned (.bool true) ∧ w = w' := by
  have h0 : (0 : Int) ≤ i := by omega
  have h1 : (i : Int) < 8 * (n : Int) := by omega
  go_enter Tryz.func137, Tryz.ntmps137
  go_wp2_with fail
  go_ret
  exact ⟨rfl, rfl⟩
theorem bitGet_any (l : B) (g o cap i : Nat) (w : World) (hs : SeenAt w g o l) (hi : i < 8 * l.length) (hle : l.length ≤ 1000000000000000) :
    Calls Tryz.prog 102 #[.slice (some ⟨g, o, none⟩) l.length cap, .int .i64 i] w fun e w' => e = .returned (.tuple #[.bool (bitAt l i), .int .i64 0]) ∧ w = w' := by
  have HH := bitHas_any l.length cap (some ⟨g, o, none⟩) i w hi hle
  have HO := bitOn_any l g o cap i w hs hi hle
  generalize bitAt l i = b at *
  clear hs
  go_enter Tryz.func102, Tryz.ntmps102
  go_wp2_with (first | (go_at_call 137; refine HH.mono ?_; clear HH; rintro e w2 ⟨rfl, rfl⟩) | (go_at_call 138; refine HO.mono ?_; clear HO; rintro e w2 ⟨rfl, rfl⟩))
  go_ret2
  exact ⟨rfl, rfl⟩
end Ck
end Go.Proofs.YtegplehbcdeeoaaGreatDoor
/- An inode's record, read. -/
namespace Go.Proofs.YtegplehbcdeeoaaGreatDoor
open Go.RowKit

namespace Ck
open Pk Pw
/-- A record. -/
structure Rc where
  kind : Nat
  links : Nat
  size : Nat
  dir : List Nat
  one : Nat
  two : Nat
deriving DecidableEq
/-- All its numbers, as they lie. -/
def Rc.all (x : Rc) : List Nat := x.kind :: x.links :: x.size :: (x.dir ++ [x.one, x.two])
def natC (l : List Nat) : Array Value := (l.map fun n : Nat => Value.int .i64 n).toArray
def recC (x : Rc) : Array Value := natC x.all
theorem natC_size (l : List Nat) : (natC l).size = l.length := by simp [natC]
theorem natC_get (l : List Nat) (j : Nat) : (natC l)[j]? = (l[j]?).map fun n : Nat => Value.int .i64 n := by simp [natC]
theorem natC_one (l : List Nat) : (natC l).all (·.oneCell') = true := by
  simp only [natC, List.all_toArray, List.all_map, List.all_eq_true]
  intro x _
  rfl
/-- The world, named. -/
theorem gen_world {P : Program} {c : Code} {Q : Exit → Act → World → Prop} {a : Act} (w0 : World) (h : ∀ W, W = w0 → c.wp P Q a W) : c.wp P Q a w0 := h _ rfl
theorem within_any (a b c : Int) (w : World) : Calls Tryz.prog 141 #[.int .i64 a, .int .i64 b, .int .i64 c] w fun e w' => e = .returned (.bool (decide (b ≤ a) && decide (a ≤ c))) ∧ w = w' := by
  by_cases h : b ≤ a
  · by_cases k : a ≤ c
    · go_enter Tryz.func141, Tryz.ntmps141
      go_wp2_with fail
      go_ret
      exact ⟨by simp [h, k], rfl⟩
    · go_enter Tryz.func141, Tryz.ntmps141
      go_wp2_with fail
      go_ret
      exact ⟨by simp [k], rfl⟩
  · go_enter Tryz.func141, Tryz.ntmps141
    go_wp2_with fail
    go_ret
    exact ⟨by simp; omega, rfl⟩
set_option maxRecDepth 100000 in
theorem numbers_any (x : Rc) (hd : x.dir.length = 10) (w : World) : Calls Tryz.prog 140 #[.agg (recC x)] w fun e w' => e = .returned (.agg (natC (x.dir ++ [x.one, x.two]))) ∧ Below w.heap.size w w' := by
  obtain ⟨k, l, s, d, o, t⟩ := x
  obtain ⟨d0, d1, d2, d3, d4, d5, d6, d7, d8, d9, rfl⟩ : ∃ d0 d1 d2 d3 d4 d5 d6 d7 d8 d9, d = [d0, d1, d2, d3, d4, d5, d6, d7, d8, d9] := by
    match d, hd with
    | [d0, d1, d2, d3, d4, d5, d6, d7, d8, d9], _ => exact ⟨_, _, _, _, _, _, _, _, _, _, rfl⟩
  clear hd
  simp only [recC, Rc.all, natC, List.map, List.cons_append, List.nil_append]
  go_enter Tryz.func140, Tryz.ntmps140
  go_wp2_with fail
  refine gen_world _ ?_
  intro W hW
  have hR : Blk W w.heap.size #[.int .i64 k, .int .i64 l, .int .i64 s, .int .i64 d0, .int .i64 d1, .int .i64 d2, .int .i64 d3, .int .i64 d4, .int .i64 d5, .int .i64 d6, .int .i64 d7, .int .i64 d8, .int .i64 d9, .int .i64 o, .int .i64 t] 74 := by
    rw [hW]; exact ((Blk.new w _ _).alloc _).alloc _
  have hN : Blk W (w.heap.size + 1) (Array.replicate 12 (.int .i64 0)) 205 := by
    rw [hW]; exact (Blk.newAt (W := w.alloc _) _ _ (alloc_size _ _).symm).alloc _
  have hL : Blk W (w.heap.size + 1 + 1) (Array.replicate 12 (.int .i64 0)) 205 := by
    rw [hW]; exact Blk.newAt _ _ (by rw [alloc_size, alloc_size])
  have hB : Below w.heap.size w W := by
    rw [hW]; exact (((Below.refl _ _).alloc (Nat.le_refl _) _).alloc (by rw [alloc_size]; omega) _).alloc (by rw [alloc_size, alloc_size]; omega) _
  clear hW
  have hcp := fun ty => run_copy_row (P := Tryz.prog) W.drew 90 90 ty 3 (w.heap.size + 1 + 1) 0 12 12 ⟨w.heap.size, 3, none⟩ 10 10 (Array.replicate 12 (.int .i64 0)) 205 [.int .i64 d0, .int .i64 d1, .int .i64 d2, .int .i64 d3, .int .i64 d4, .int .i64 d5, .int .i64 d6, .int .i64 d7, .int .i64 d8, .int .i64 d9] Tryz.underlying90 (by kernel_rfl) hL rfl
    (fun j v hj => by
      rw [addr_plain]
      have hlt := (List.getElem?_eq_some_iff.1 hj).1
      rw [(show Blk W.drew w.heap.size _ _ from hR).cell]
      match j, hlt with
      | 0, _ | 1, _ | 2, _ | 3, _ | 4, _ | 5, _ | 6, _ | 7, _ | 8, _ | 9, _ => exact hj) (by simp) (by simp [Value.oneCell'])
  have hA := (show Blk W.drew (w.heap.size + 1 + 1) _ _ from hL).setRow #[.int .i64 d0, .int .i64 d1, .int .i64 d2, .int .i64 d3, .int .i64 d4, .int .i64 d5, .int .i64 d6, .int .i64 d7, .int .i64 d8, .int .i64 d9, .int .i64 0, .int .i64 0]
  replace hcp : ∀ ty, (Builtin.copy_ #[90, 90] ty #[.slice (some ⟨w.heap.size + 1 + 1, 0, none⟩) 12 12, .slice (some ⟨w.heap.size, 3, none⟩) 10 10]).run Tryz.prog W.drew = .ok (.int .i64 10) (W.drew.setRow (w.heap.size + 1 + 1) #[.int .i64 d0, .int .i64 d1, .int .i64 d2, .int .i64 d3, .int .i64 d4, .int .i64 d5, .int .i64 d6, .int .i64 d7, .int .i64 d8, .int .i64 d9, .int .i64 0, .int .i64 0]) := hcp
  have hR2 := (show Blk W.drew w.heap.size _ _ from hR).same (setRow_heap W.drew (w.heap.size + 1 + 1) w.heap.size #[.int .i64 d0, .int .i64 d1, .int .i64 d2, .int .i64 d3, .int .i64 d4, .int .i64 d5, .int .i64 d6, .int .i64 d7, .int .i64 d8, .int .i64 d9, .int .i64 0, .int .i64 0] (by omega))
  have hN2 := (show Blk W.drew (w.heap.size + 1) _ _ from hN).same (setRow_heap W.drew (w.heap.size + 1 + 1) (w.heap.size + 1) #[.int .i64 d0, .int .i64 d1, .int .i64 d2, .int .i64 d3, .int .i64 d4, .int .i64 d5, .int .i64 d6, .int .i64 d7, .int .i64 d8, .int .i64 d9, .int .i64 0, .int .i64 0] (by omega))
  have hB2 := below_setRow hB.drew (b := w.heap.size + 1 + 1) (by omega) #[.int .i64 d0, .int .i64 d1, .int .i64 d2, .int .i64 d3, .int .i64 d4, .int .i64 d5, .int .i64 d6, .int .i64 d7, .int .i64 d8, .int .i64 d9, .int .i64 0, .int .i64 0]
  generalize W.drew.setRow (w.heap.size + 1 + 1) #[.int .i64 d0, .int .i64 d1, .int .i64 d2, .int .i64 d3, .int .i64 d4, .int .i64 d5, .int .i64 d6, .int .i64 d7, .int .i64 d8, .int .i64 d9, .int .i64 0, .int .i64 0] = Z at *
  have q13 := hR2.cell 13
  have q14 := hR2.cell 14
  have c10 := hA.cell 10
  have c11 := hA.cell 11
  have f10 := hA.free 10
  have f11 := hA.free 11
  have hA2 := (hA.setAt 10 (.int .i64 o)).setAt 11 (.int .i64 t)
  have hN3 : Blk ((Z.setCell ⟨w.heap.size + 1 + 1, 10, none⟩ (.int .i64 o)).setCell ⟨w.heap.size + 1 + 1, 11, none⟩ (.int .i64 t)) (w.heap.size + 1) _ _ := hN2.same ((setCell_heap _ _ _ _ _ (by omega)).trans (setCell_heap _ _ _ _ _ (by omega)))
  have hB3 : Below w.heap.size w ((Z.setCell ⟨w.heap.size + 1 + 1, 10, none⟩ (.int .i64 o)).setCell ⟨w.heap.size + 1 + 1, 11, none⟩ (.int .i64 t)) := (hB2.setCell (by simp; omega) _).setCell (by simp; omega) _
  have hld := load_arr (ty := 205) hA2 (by exact Tryz.underlying205) (by kernel_rfl)
  replace hld : (Instr.loadAt 205 (.pointer (some ⟨w.heap.size + 1 + 1, 0, none⟩))).run Tryz.prog ((Z.setCell ⟨w.heap.size + 1 + 1, 10, none⟩ (.int .i64 o)).setCell ⟨w.heap.size + 1 + 1, 11, none⟩ (.int .i64 t)) = .ok (.agg #[.int .i64 d0, .int .i64 d1, .int .i64 d2, .int .i64 d3, .int .i64 d4, .int .i64 d5, .int .i64 d6, .int .i64 d7, .int .i64 d8, .int .i64 d9, .int .i64 o, .int .i64 t]) _ := hld
  have hst := store_row (ty := 205) (ys := #[.int .i64 d0, .int .i64 d1, .int .i64 d2, .int .i64 d3, .int .i64 d4, .int .i64 d5, .int .i64 d6, .int .i64 d7, .int .i64 d8, .int .i64 d9, .int .i64 o, .int .i64 t]) hN3 (by kernel_rfl) rfl (by simp [Value.oneCell'])
  have hres := hN3.setRow #[.int .i64 d0, .int .i64 d1, .int .i64 d2, .int .i64 d3, .int .i64 d4, .int .i64 d5, .int .i64 d6, .int .i64 d7, .int .i64 d8, .int .i64 d9, .int .i64 o, .int .i64 t]
  have hB4 := below_setRow hB3 (b := w.heap.size + 1) (by omega) #[.int .i64 d0, .int .i64 d1, .int .i64 d2, .int .i64 d3, .int .i64 d4, .int .i64 d5, .int .i64 d6, .int .i64 d7, .int .i64 d8, .int .i64 d9, .int .i64 o, .int .i64 t]
  have HE := Lib.hid (And.intro hres hB4)
  clear hR hN hL hB hA hR2 hN2 hB2 hA2 hN3 hB3 hres hB4
  go_still_tail 3, (by kernel_rfl)
  change wpList _ _ _ _ _ W.drew
  go_wp2_with (first | (refine wpList_load_run _ rfl (.tmp 3) 205 rfl _ hld ?_) | (refine wpList_store_run _ rfl (.tmp 2) (.tmp 14) 205 rfl _ hst ?_))
  have hlr := load_arr (ty := 205) HE.out.1 (by exact Tryz.underlying205) (by kernel_rfl)
  simp only [Instr.loadAt, Instr.sureAddr, Sem.run_bind, Sem.run_pure, Result.andThen] at hlr
  exact bodyPost_ret (results_cell rfl rfl hlr) rfl ⟨rfl, HE.out.2⟩
end Ck
end Go.Proofs.YtegplehbcdeeoaaGreatDoor
