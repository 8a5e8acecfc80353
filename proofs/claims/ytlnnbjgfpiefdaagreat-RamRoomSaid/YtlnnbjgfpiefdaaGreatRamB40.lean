/- A file system on which calls were made. -/
import Derived.Test.YtlnnbjgfpiefdaaGreatRamB39
import Derived.Test.YtlnnbjgfpiefdaaGreatRamB33
import Derived.Test.YtlnnbjgfpiefdaaGreatRamB18
import Derived.BigRegion
import Derived.Laws.Cover1
namespace Go.Proofs.YtlnnbjgfpiefdaaGreat
open Go.RowKit Go.Maps Go.Shelf

namespace Fs
/-- Calls that came in. -/
def CallsAt (W : World) (ao : Option Addr) (l : List Call) : Prop := ∀ j c, l[j]? = some c → ∃ g o, ao = some ⟨g, o, none⟩ ∧ g < W.heap.size ∧ ∀ i v, (callC c)[i]? = some v → W.cell? ⟨g, o + (j * 6 + i), none⟩ = some v
/-- A file system that a law made. -/
structure Made1 (W0 : World) (k : Nat) (n : Int) (fb nb : Nat) (W : World) (L : Lay) : Prop where
  sim : Sim W L fb n nb (.slice none 0 0) []
  wf : WF L nb
  inv : Inv n k (stOf L nb)
  room : Roomy n (stOf L nb)
  own : ∀ b, Mine L (.slice none 0 0) b → W0.heap.size ≤ b
  below : Below W0.heap.size W0 W
theorem Step.from {W0 W W' : World} {L L' : Lay} (hB : Below W0.heap.size W0 W) (hT : Step W (Mine L (.slice none 0 0)) W' (Mine L' (.slice none 0 0))) (ho : ∀ b, Mine L (.slice none 0 0) b → W0.heap.size ≤ b) :
    (∀ b, Mine L' (.slice none 0 0) b → W0.heap.size ≤ b) ∧ Below W0.heap.size W0 W' := by
  have hn : ∀ b, b < W0.heap.size → ¬ Mine L (.slice none 0 0) b := fun b hb hm => by have := ho b hm; omega
  refine ⟨fun b hb => ?_, hT.os.trans hB.os, hT.tape.trans hB.tape, hT.output.trans hB.output, Nat.le_trans hB.size hT.size, fun b hb => ?_⟩
  · rcases Nat.lt_or_ge b W0.heap.size with e | e
    · exact absurd hb (hT.block b (Nat.lt_of_lt_of_le e hB.size) (hn b e)).2
    · exact e
  · exact (hT.block b (Nat.lt_of_lt_of_le hb hB.size) (hn b hb)).1.trans (hB.block b hb)
theorem Made1.told {W0 W W' : World} {k : Nat} {n : Int} {fb nb : Nat} {L L' : Lay} (h : Made1 W0 k n fb nb W L) (hS : Sim W' L' fb n nb (.slice none 0 0) []) (hw : WF L' nb) (hst : stOf L' nb = stOf L nb) (hT : Step W (Mine L (.slice none 0 0)) W' (Mine L' (.slice none 0 0))) : Made1 W0 k n fb nb W' L' := by
  obtain ⟨h1, h2⟩ := Step.from h.below hT h.own
  exact ⟨hS, hw, by rw [hst]; exact h.inv, by rw [hst]; exact h.room, h1, h2⟩
theorem Made1.grow {W0 W W' : World} {k : Nat} {n : Int} {fb nb : Nat} {L : Lay} (h : Made1 W0 k n fb nb W L) (hb : Below W.heap.size W W') : Made1 W0 k n fb nb W' L :=
  ⟨h.sim.below hb, h.wf, h.inv, h.room, h.own, h.below.trans ⟨hb.os, hb.tape, hb.output, hb.size, fun k hk => hb.block k (Nat.lt_of_lt_of_le hk h.below.size)⟩⟩
theorem loadC {w : World} {g o : Nat} {c : Call} (h : ∀ i v, (callC c)[i]? = some v → w.cell? ⟨g, o + i, none⟩ = some v) : (Instr.loadAt 38 (.pointer (some ⟨g, o, none⟩))).run Tryz.prog w = .ok (.agg (callC c)) w := by
  have c0 : w.cell? ⟨g, o, none⟩ = some (.int .i64 c.kind) := h 0 _ rfl
  have c1 : w.cell? ⟨g, o + 1, none⟩ = some (.string (mk c.path)) := h 1 _ rfl
  have c2 : w.cell? ⟨g, o + 2, none⟩ = some (.string (mk c.other)) := h 2 _ rfl
  have c3 : w.cell? ⟨g, o + 3, none⟩ = some (.int .i64 c.off) := h 3 _ rfl
  have c4 : w.cell? ⟨g, o + 4, none⟩ = some (.int .i64 c.size) := h 4 _ rfl
  have c5 : w.cell? ⟨g, o + 5, none⟩ = some (.string (mk c.data)) := h 5 _ rfl
  simp [Instr.loadAt, Instr.sureAddr, go_sem, callC, c0, c1, c2, c3, c4, c5]
theorem neq_stat (w : World) : (binOp .neq 32 (.agg #[.int .i64 1, .int .i64 2, .int .i64 2, .int .i64 0, .int .i64 0]) (.agg #[.int .i64 1, .int .i64 2, .int .i64 2, .int .i64 0, .int .i64 0])).run Tryz.prog w = .ok (.bool false) w := by kernel_rfl
/-- What made comes to. -/
def MadeR (W : World) (e : Ending) (W' : World) : Prop := ∃ fb nb n L k, e = .returned (.pointer (some ⟨fb, 0, none⟩)) ∧ Made1 W k n fb nb W' L ∧ k ≤ 60 ∧ 128 ≤ n ∧ n ≤ 16384
set_option maxRecDepth 100000 in
set_option maxHeartbeats 4000000 in
theorem made_st (v : Int) (l : List Call) (ao : Option Addr) (cap : Nat) (W : World) (hl : CallsAt W ao l) (hc : ∀ c ∈ l, CallOk c) :
    Calls Tryz.prog 7 #[.int .i64 v, .slice ao l.length cap] W fun e W' => MadeR W e W' := by
  go_enter Tryz.func7, Tryz.ntmps7
  go_wp2_with fail
  refine (mod_any v W).mono ?_
  rintro e w1 ⟨r, rfl, h1, h2, rfl⟩
  have hwr : IntKind.i64.wrap (128 + r) = 128 + r := IntWalk.i64_in _ (by omega)
  go_wp2_with fail
  refine (new_st (128 + r) w1 (by omega) (by omega)).mono ?_
  rintro e w2 ⟨B, F, hB1, hB2, rfl, S2, hb2⟩
  have hst2 := newLay_st hB2
  have n1 : 128 ≤ 128 + r := by omega
  have n2 : 128 + r ≤ 16384 := by omega
  have M2 : Made1 w1 0 (128 + r) F (B + 3) w2 (newLay B F) := ⟨S2, newLay_wf hB2, by rw [hst2]; exact root_inv n1, by rw [hst2]; exact root_room n1 n2, (fun b hb => by
    rcases hb with e | e
    · cases hr : newLay B F b with
      | none => exact absurd hr e
      | some r => rcases newLay_some hr with ⟨h, _⟩ | ⟨h, _⟩ | ⟨h, _⟩ | ⟨h, _⟩ <;> omega
    · cases e), hb2⟩
  have HR := do_st (k := 0) M2.sim M2.wf M2.inv (by omega) n1 n2 ⟨14, [47], [], 0, 0, []⟩ ⟨by decide, by decide, by simp, by simp⟩
  have HT := fun W L (M : Made1 w1 0 (128 + r) F (B + 3) W L) => do_st (k := 0) M.sim M.wf M.inv (by omega) n1 n2 ⟨12, [47], [], 0, 0, []⟩ ⟨by decide, by decide, by simp, by simp⟩
  rw [hst2, show doC (128 + r) root ⟨14, [47], [], 0, 0, []⟩ = (root, { names := [] }) from told_dir (root_inv n1) (.nil 1) rfl] at HR
  unfold Done callC ansC at HR
  dsimp only at HR
  rw [show mk [] = { data := #[] } from rfl] at HR
  generalize hn : 128 + r = n at *
  generalize B + 3 = nb at *
  go_wp2_with fail
  refine HR.mono ?_
  rintro e w3 ⟨L3, nv, S3, F3, st3, T3, rfl, A3⟩
  obtain rfl := A3.2.1.2 rfl
  have M3 := M2.told S3 F3 (st3.trans hst2.symm) T3
  obtain ⟨Y3, hs3, ba3, hb3, hz3⟩ := put_answer (w := w3) (cs := #[.int .i64 0, .int .i64 0, .string { data := #[] }, .int .i64 0, .int .i64 0, .int .i64 0, .int .i64 0, .int .i64 0, .slice none 0 0, .int .i64 0, .int .i64 0, .int .i64 0, .int .i64 0]) rfl (by simp [Value.oneCell'])
  have M3' := M3.grow hb3
  have HT' := HT Y3 L3 M3'
  rw [st3, show doC n root ⟨12, [47], [], 0, 0, []⟩ = (root, { stat := ⟨1, 2, 2, 0, 0⟩ }) from told_stat (root_inv n1) (.nil 1) (by decide)] at HT'
  unfold Done callC ansC at HT'
  dsimp only at HT'
  rw [show mk [] = { data := #[] } from rfl] at HT'
  have hm3 : ¬ Mine L3 (.slice none 0 0) w3.heap.size := S3.not_mine (Nat.le_refl _)
  have lt3 := ba3.lt
  clear HT HR hz3 hb3
  go_wp2_with (refine wpList_store_run _ rfl (.tmp 7) (.tmp 25) 42 rfl Y3 hs3 ?_)
  refine HT'.mono ?_
  rintro e w4 ⟨L4, nv, S4, F4, st4, T4, rfl, A4⟩
  obtain rfl := A4.2.1.2 rfl
  have M4 := M3'.told S4 F4 (st4.trans st3.symm) T4
  obtain ⟨Y4, hs4, ba4, hb4, hz4⟩ := put_answer (w := w4) (cs := #[.int .i64 0, .int .i64 0, .string { data := #[] }, .int .i64 1, .int .i64 2, .int .i64 2, .int .i64 0, .int .i64 0, .slice none 0 0, .int .i64 0, .int .i64 0, .int .i64 0, .int .i64 0]) rfl (by simp [Value.oneCell'])
  have M4' := M4.grow hb4
  have bb4 := (ba3.same (T4.block _ lt3 hm3).1).same (hb4.block _ (Nat.lt_of_lt_of_le lt3 T4.size))
  have a0 : Y4.cell? ⟨w3.heap.size, 0, none⟩ = some (.int .i64 0) := bb4.cell 0
  have a8 : Y4.cell? ⟨w3.heap.size, 8, none⟩ = some (.slice none 0 0) := bb4.cell 8
  have b3 : Y4.cell? ⟨w4.heap.size, 3, none⟩ = some (.int .i64 1) := ba4.cell 3
  have b4 : Y4.cell? ⟨w4.heap.size, 4, none⟩ = some (.int .i64 2) := ba4.cell 4
  have b5 : Y4.cell? ⟨w4.heap.size, 5, none⟩ = some (.int .i64 2) := ba4.cell 5
  have b6 : Y4.cell? ⟨w4.heap.size, 6, none⟩ = some (.int .i64 0) := ba4.cell 6
  have b7 : Y4.cell? ⟨w4.heap.size, 7, none⟩ = some (.int .i64 0) := ba4.cell 7
  have hns := neq_stat Y4
  have HM := Lib.hid M4'
  clear M4' M4 M3' M3 M2 ba4 hb4 hz4 bb4 ba3 lt3 hm3 S4 F4 st4 T4 S3 F3 st3 T3 hst2 S2 hb2 HT'
  go_wp2_with (refine wpList_store_run _ rfl (.tmp 8) (.tmp 28) 42 rfl Y4 hs4 ?_)
  go_loopw [9] (fun iv wr => ∃ (j : Nat) (o : Int) (Lr : Lay) (k : Nat), iv = .int .i64 o ∧ Hid (o = (j : Int)) ∧ j ≤ 60 ∧ Made1 w1 k n F nb wr Lr ∧ k ≤ j) (fun iv _ => (60 - intOf iv).toNat)
  case atStart => exact ⟨0, 0, L4, 0, rfl, rfl, by omega, HM, Nat.le_refl _⟩
  case round =>
    obtain ⟨j, o, Lr, k, rfl, ho, hj, Mr, hkj⟩ := hrel
    have ho' : o = (j : Int) := ho
    have Mh := Lib.hid Mr
    clear Mr
    have hk60 : k ≤ 60 := by omega
    by_cases c1 : o < (l.length : Int)
    · by_cases c2 : o < 60
      · have hjl : j < l.length := by omega
        obtain ⟨c, hcj⟩ : ∃ c, l[j]? = some c := ⟨_, List.getElem?_eq_getElem hjl⟩
        obtain ⟨g, oo, rfl, hg, hcells⟩ := hl j c hcj
        have Mr := Mh
        unfold Hid at Mr
        have hload := loadC (w := wr) (g := g) (o := oo + j * 6) (c := c) (fun i v hv => (Mr.below.cell (p := ⟨g, oo + j * 6 + i, none⟩) hg).trans (by rw [Nat.add_assoc]; exact hcells i v hv))
        have HD := do_st Mr.sim Mr.wf Mr.inv (by omega) n1 n2 c (hc c (List.mem_of_getElem? hcj))
        have hdi := do_inv Mr.inv Mr.room (by omega) n1 n2 c
        generalize doC n (stOf Lr nb) c = rr at *
        obtain ⟨s', a⟩ := rr
        unfold Done at HD
        dsimp only at HD hdi
        have ht : o.toNat = j := by omega
        have hc0 : 0 ≤ o := by omega
        have hwr2 : IntKind.i64.wrap (o + 1) = o + 1 := IntWalk.i64_in _ (by omega)
        have Hdi := Lib.hid (And.intro hdi (And.intro Mr.own Mr.below))
        clear Mr hdi ho' hjl hcj hcells hl
        unfold callC at hload HD
        go_wp2_with (refine wpList_load_run _ rfl (.tmp 57) 38 rfl _ hload ?_)
        refine HD.mono ?_
        rintro e w6 ⟨L6, nv6, S6, F6, st6, T6, rfl, _⟩
        go_wp2_with fail
        go_roundw
        case rel =>
          obtain ⟨⟨hi, hr⟩, hown, hbel⟩ := Hdi
          obtain ⟨g1, g2⟩ := Step.from hbel T6 hown
          have ho' : o = (j : Int) := ho
          exact ⟨j + 1, o + 1, L6, k + 1, rfl, (by show o + 1 = ((j + 1 : Nat) : Int); omega), by omega, ⟨S6, F6, by rw [st6]; exact hi, by rw [st6]; exact hr, g1, g2⟩, by omega⟩
        case measure => simp only [intOf]; omega
      · clear ho'
        go_wp2_with fail
        go_ret
        exact ⟨F, nb, n, Lr, k, rfl, Mh, hk60, n1, n2⟩
    · clear ho'
      go_wp2_with fail
      go_ret
      exact ⟨F, nb, n, Lr, k, rfl, Mh, hk60, n1, n2⟩
end Fs
end Go.Proofs.YtlnnbjgfpiefdaaGreat
/- Rows of things, and answers, held against each other. -/
namespace Go.Proofs.YtlnnbjgfpiefdaaGreat
open Go.RowKit Go.Maps Go.Shelf

namespace Fs
theorem thsC_at : ∀ {l : List Thing} {j : Nat} {t : Thing}, l[j]? = some t → ∀ i, i < 7 → (thsC l)[j * 7 + i]? = (thC t)[i]?
  | [], _, _, h, _, _ => by cases h
  | x :: r, 0, t, h, i, hi => by
    cases h
    have : thsC (x :: r) = thC x ++ thsC r := rfl
    rw [this, Nat.zero_mul, Nat.zero_add, List.getElem?_append_left (by show i < 7; exact hi)]
  | x :: r, j + 1, t, h, i, hi => by
    have : thsC (x :: r) = thC x ++ thsC r := rfl
    rw [this, List.getElem?_append_right (by show 7 ≤ _; omega)]
    rw [show (j + 1) * 7 + i - (thC x).length = j * 7 + i by show (j + 1) * 7 + i - 7 = _; omega]
    exact thsC_at (by simpa using h) i hi
theorem row_shape7 {w : World} {base : Nat} {e : TypeId} {v : Value} {l : List Thing} (h : w.ownsRow base e 7 v l.length (thsC l)) (hne : l ≠ []) : ∃ g cap, v = .slice (some ⟨g, 0, none⟩) l.length cap := by
  rcases h.2 with ⟨_, h2⟩ | ⟨g, cap, _, h1, _⟩
  · exact absurd (List.eq_nil_of_length_eq_zero h2) hne
  · exact ⟨g, cap, h1⟩
theorem row_thing {w : World} {base g cap : Nat} {e : TypeId} {l : List Thing} (h : w.ownsRow base e 7 (.slice (some ⟨g, 0, none⟩) l.length cap) l.length (thsC l)) {j : Nat} {t : Thing} (hj : l[j]? = some t) :
    w.cell? ⟨g, j * 7, none⟩ = some (.string (mk t.path)) ∧ w.cell? ⟨g, j * 7 + 1, none⟩ = some (.int .i64 t.stat.inode) ∧ w.cell? ⟨g, j * 7 + 2, none⟩ = some (.int .i64 t.stat.kind) ∧ w.cell? ⟨g, j * 7 + 3, none⟩ = some (.int .i64 t.stat.links) ∧ w.cell? ⟨g, j * 7 + 4, none⟩ = some (.int .i64 t.stat.size) ∧ w.cell? ⟨g, j * 7 + 5, none⟩ = some (.int .i64 t.stat.blocks) ∧ w.cell? ⟨g, j * 7 + 6, none⟩ = some (.string (mk t.data)) := by
  have hl : j < l.length := (List.getElem?_eq_some_iff.1 hj).1
  have hc : ∀ i, i < 7 → w.cell? ⟨g, j * 7 + i, none⟩ = (thC t)[i]? := fun i hi => by
    rw [h.cellAt (j * 7 + i) (by omega), thsC_at hj i hi]
  exact ⟨hc 0 (by omega), hc 1 (by omega), hc 2 (by omega), hc 3 (by omega), hc 4 (by omega), hc 5 (by omega), hc 6 (by omega)⟩
set_option maxRecDepth 100000 in
theorem neq_thing (w : World) (t : Thing) : (binOp .neq 34 (.agg (thC t).toArray) (.agg (thC t).toArray)).run Tryz.prog w = .ok (.bool false) w := by
  simp [thC, go_sem]
set_option maxRecDepth 100000 in
set_option maxHeartbeats 4000000 in
/-- The same things, twice. -/
theorem same_things {W : World} {ba bb : Nat} {va vb : Value} {l : List Thing} (hA : W.ownsRow ba 34 7 va l.length (thsC l)) (hB : W.ownsRow bb 34 7 vb l.length (thsC l)) (hl : l.length ≤ 1000000) :
    Calls Tryz.prog 12 #[va, vb] W fun e W' => e = .returned (.bool true) ∧ Below W.heap.size W W' := by
  by_cases hne : l = []
  · subst hne
    obtain ⟨ao, ca, rfl⟩ := own_shape hA
    obtain ⟨bo, cb, rfl⟩ := own_shape hB
    go_enter Tryz.func12, Tryz.ntmps12
    go_wp2_with fail
    go_loopw [13] (fun iv wr => iv = .int .i64 0 ∧ wr = W) (fun _ _ => 0)
    case atStart => exact ⟨rfl, rfl⟩
    case round =>
      obtain ⟨rfl, rfl⟩ := hrel
      go_wp2_with fail
      go_ret
      exact ⟨rfl, Below.refl _ _⟩
  obtain ⟨ga, ca, rfl⟩ := row_shape7 hA hne
  obtain ⟨gb, cb, rfl⟩ := row_shape7 hB hne
  obtain ⟨N, hN⟩ : ∃ N, N = l.length := ⟨_, rfl⟩
  have HH := Lib.hid (And.intro hA (And.intro hB hN))
  rw [← hN]
  clear hA hB hN
  go_enter Tryz.func12, Tryz.ntmps12
  go_wp2_with fail
  go_loopw [13] (fun iv wr => ∃ (j : Nat) (o : Int), iv = .int .i64 o ∧ Hid (o = (j : Int)) ∧ j ≤ N ∧ Below W.heap.size W wr) (fun iv _ => (N - (intOf iv).toNat))
  case atStart => exact ⟨0, 0, rfl, rfl, Nat.zero_le _, Below.refl _ _⟩
  case round =>
    obtain ⟨j, o, rfl, ho, hj, hb⟩ := hrel
    have ho' : o = (j : Int) := ho
    by_cases c1 : o < (N : Int)
    · obtain ⟨hA, hB, hN⟩ := HH
      have hjl : j < l.length := by omega
      obtain ⟨t, ht⟩ : ∃ t, l[j]? = some t := ⟨_, List.getElem?_eq_getElem hjl⟩
      have hA' := row_same hA (W' := wr.drew) fun g hg => hb.block g (hA.lt g hg).2
      have hB' := row_same hB (W' := wr.drew) fun g hg => hb.block g (hB.lt g hg).2
      obtain ⟨a0, a1, a2, a3, a4, a5, a6⟩ := row_thing hA' ht
      obtain ⟨b0, b1, b2, b3, b4, b5, b6⟩ := row_thing hB' ht
      have e3 := neq_thing wr.drew t
      unfold thC at e3
      have hon : o.toNat = j := by omega
      have hc0 : 0 ≤ o := by omega
      have hwr : IntKind.i64.wrap (o + 1) = o + 1 := IntWalk.i64_in _ (by omega)
      clear hA' hB' ho' hjl ht hA hB hN
      go_wp2_with fail
      go_region
      go_wp2_with fail
      go_roundw
      case rel =>
        have ho' : o = (j : Int) := ho
        exact ⟨j + 1, o + 1, rfl, (by show o + 1 = ((j + 1 : Nat) : Int); omega), by omega, hb.drew⟩
      case measure => simp only [intOf]; omega
    · clear ho'
      go_wp2_with fail
      go_ret
      exact ⟨rfl, hb⟩
/-- The same texts, twice. -/
theorem load_row_text {w : World} {base g cap : Nat} {e : TypeId} {l : List Tx} (h : w.ownsRow base e 1 (.slice (some ⟨g, 0, none⟩) l.length cap) l.length (strsV l)) {j : Nat} {t : Tx} (hj : l[j]? = some t) : w.cell? ⟨g, j, none⟩ = some (.string (mk t)) := by
  have hl : j < l.length := (List.getElem?_eq_some_iff.1 hj).1
  rw [h.cellAt j (by omega)]
  unfold strsV
  rw [List.getElem?_map, hj]; rfl
theorem row_shape1 {w : World} {base : Nat} {e : TypeId} {v : Value} {l : List Tx} (h : w.ownsRow base e 1 v l.length (strsV l)) (hne : l ≠ []) : ∃ g cap, v = .slice (some ⟨g, 0, none⟩) l.length cap := by
  rcases h.2 with ⟨_, h2⟩ | ⟨g, cap, _, h1, _⟩
  · exact absurd (List.eq_nil_of_length_eq_zero h2) hne
  · exact ⟨g, cap, h1⟩
set_option maxRecDepth 100000 in
set_option maxHeartbeats 4000000 in
theorem same_texts {W : World} {ba bb : Nat} {va vb : Value} {l : List Tx} (hA : W.ownsRow ba 9 1 va l.length (strsV l)) (hB : W.ownsRow bb 9 1 vb l.length (strsV l)) (hl : l.length ≤ 1000000) :
    Calls Tryz.prog 19 #[va, vb] W fun e W' => e = .returned (.bool true) ∧ Below W.heap.size W W' := by
  by_cases hne : l = []
  · subst hne
    obtain ⟨ao, ca, rfl⟩ := own_shape hA
    obtain ⟨bo, cb, rfl⟩ := own_shape hB
    go_enter Tryz.func19, Tryz.ntmps19
    go_wp2_with fail
    go_loopw [13] (fun iv wr => iv = .int .i64 0 ∧ wr = W) (fun _ _ => 0)
    case atStart => exact ⟨rfl, rfl⟩
    case round =>
      obtain ⟨rfl, rfl⟩ := hrel
      go_wp2_with fail
      go_ret
      exact ⟨rfl, Below.refl _ _⟩
  obtain ⟨ga, ca, rfl⟩ := row_shape1 hA hne
  obtain ⟨gb, cb, rfl⟩ := row_shape1 hB hne
  obtain ⟨N, hN⟩ : ∃ N, N = l.length := ⟨_, rfl⟩
  have HH := Lib.hid (And.intro hA (And.intro hB hN))
  rw [← hN]
  clear hA hB hN
  go_enter Tryz.func19, Tryz.ntmps19
  go_wp2_with fail
  go_loopw [13] (fun iv wr => ∃ (j : Nat) (o : Int), iv = .int .i64 o ∧ Hid (o = (j : Int)) ∧ j ≤ N ∧ Below W.heap.size W wr) (fun iv _ => (N - (intOf iv).toNat))
  case atStart => exact ⟨0, 0, rfl, rfl, Nat.zero_le _, Below.refl _ _⟩
  case round =>
    obtain ⟨j, o, rfl, ho, hj, hb⟩ := hrel
    have ho' : o = (j : Int) := ho
    by_cases c1 : o < (N : Int)
    · obtain ⟨hA, hB, hN⟩ := HH
      have hjl : j < l.length := by omega
      obtain ⟨t, ht⟩ : ∃ t, l[j]? = some t := ⟨_, List.getElem?_eq_getElem hjl⟩
      have hA' := row_same hA (W' := wr.drew) fun g hg => hb.block g (hA.lt g hg).2
      have hB' := row_same hB (W' := wr.drew) fun g hg => hb.block g (hB.lt g hg).2
      have e1 := load_row_text hA' ht
      have e2 := load_row_text hB' ht
      have hon : o.toNat = j := by omega
      have hc0 : 0 ≤ o := by omega
      have hwr : IntKind.i64.wrap (o + 1) = o + 1 := IntWalk.i64_in _ (by omega)
      clear hA' hB' ho' hjl ht hA hB hN
      go_wp2_with fail
      go_region
      go_wp2_with fail
      go_roundw
      case rel =>
        have ho' : o = (j : Int) := ho
        exact ⟨j + 1, o + 1, rfl, (by show o + 1 = ((j + 1 : Nat) : Int); omega), by omega, hb.drew⟩
      case measure => simp only [intOf]; omega
    · clear ho'
      go_wp2_with fail
      go_ret
      exact ⟨rfl, hb⟩
set_option maxRecDepth 100000 in
theorem eql_stat (w : World) (a b c d e : Int) : (binOp .eql 32 (.agg #[.int .i64 a, .int .i64 b, .int .i64 c, .int .i64 d, .int .i64 e]) (.agg #[.int .i64 a, .int .i64 b, .int .i64 c, .int .i64 d, .int .i64 e])).run Tryz.prog w = .ok (.bool true) w := by
  simp [go_sem]
set_option maxRecDepth 100000 in
theorem eql_room (w : World) (a b c d : Int) : (binOp .eql 29 (.agg #[.int .i64 a, .int .i64 b, .int .i64 c, .int .i64 d]) (.agg #[.int .i64 a, .int .i64 b, .int .i64 c, .int .i64 d])).run Tryz.prog w = .ok (.bool true) w := by
  simp [go_sem]
set_option maxRecDepth 100000 in
set_option maxHeartbeats 4000000 in
/-- The same answer, twice. -/
theorem same_answers {W : World} {ba bb : Nat} {va vb : Value} {a : Ans} (hA : W.ownsRow ba 9 1 va a.names.length (strsV a.names)) (hB : W.ownsRow bb 9 1 vb a.names.length (strsV a.names)) (hl : a.names.length ≤ 1000000) :
    Calls Tryz.prog 13 #[.agg (ansC a va), .agg (ansC a vb)] W fun e W' => e = .returned (.bool true) ∧ Below W.heap.size W W' := by
  have hb : Below W.heap.size W ((W.alloc (.cells (ansC a va) 42)).alloc (.cells (ansC a vb) 42)) := ((Below.refl _ _).alloc (Nat.le_refl _) _).alloc (by simp) _
  have HC := same_texts (W := (W.alloc (.cells (ansC a va) 42)).alloc (.cells (ansC a vb) 42)) (row_same hA fun g hg => hb.block g (hA.lt g hg).2) (row_same hB fun g hg => hb.block g (hB.lt g hg).2) hl
  have e1 := fun w => eql_stat w a.stat.inode a.stat.kind a.stat.links a.stat.size a.stat.blocks
  have e2 := fun w => eql_room w a.room.freeB a.room.blocks a.room.freeI a.room.inodes
  have Hb := Lib.hid hb
  clear hb hA hB
  unfold ansC at *
  go_enter Tryz.func13, Tryz.ntmps13
  go_wp2_with fail
  refine HC.mono ?_
  rintro e w2 ⟨rfl, hb2⟩
  go_wp2_with fail
  go_ret
  exact ⟨rfl, Below.after Hb hb2⟩
end Fs
end Go.Proofs.YtlnnbjgfpiefdaaGreat
/- What the laws carry from call to call. -/
namespace Go.Proofs.YtlnnbjgfpiefdaaGreat
open Go.RowKit Go.Maps Go.Shelf

namespace Fs
theorem Step.weak {W W' : World} {X X' Y' : Nat → Prop} (h : Step W X W' X') (hy : ∀ b, Y' b → X' b) : Step W X W' Y' := ⟨h.os, h.tape, h.output, h.size, fun k hk hx => ⟨(h.block k hk hx).1, fun e => (h.block k hk hx).2 (hy k e)⟩⟩
/-- A file system under a law, that was made behind block W.heap.size. -/
structure Go1 (W : World) (fb : Nat) (n : Int) (nb : Nat) (s : Tree) (w : World) (L : Lay) : Prop where
  sim : Sim w L fb n nb (.slice none 0 0) []
  wf : WF L nb
  st : stOf L nb = s
  own : ∀ b, Mine L (.slice none 0 0) b → W.heap.size < b
  below : Below W.heap.size W w
section
variable {W w w' : World} {fb : Nat} {n : Int} {nb : Nat} {s s' : Tree} {L L' : Lay} {k : Nat}
theorem Go1.step (h : Go1 W fb n nb s w L) (hlt : W.heap.size < w.heap.size) (hS : Sim w' L' fb n nb (.slice none 0 0) []) (hw : WF L' nb) (hst : stOf L' nb = s') (hT : Step w (Mine L (.slice none 0 0)) w' (Mine L' (.slice none 0 0))) : Go1 W fb n nb s' w' L' := by
  have hn : ∀ b, b ≤ W.heap.size → ¬ Mine L (.slice none 0 0) b := fun b hb hm => by have := h.own b hm; omega
  refine ⟨hS, hw, hst, fun b hb => ?_, hT.os.trans h.below.os, hT.tape.trans h.below.tape, hT.output.trans h.below.output, Nat.le_trans h.below.size hT.size, fun b hb => ?_⟩
  · rcases Nat.lt_or_ge W.heap.size b with e | e
    · exact e
    · exact absurd hb (hT.block b (by omega) (hn b e)).2
  · exact (hT.block b (by omega) (hn b (by omega))).1.trans (h.below.block b hb)
theorem Go1.grow (h : Go1 W fb n nb s w L) (hb : Below w.heap.size w w') : Go1 W fb n nb s w' L :=
  ⟨h.sim.below hb, h.wf, h.st, h.own, h.below.trans ⟨hb.os, hb.tape, hb.output, hb.size, fun k hk => hb.block k (Nat.lt_of_lt_of_le hk h.below.size)⟩⟩
/-- A row of things beside the file system. -/
def OffT (w : World) (L : Lay) (v : Value) (l : List Thing) : Prop := (∃ base, w.ownsRow base 34 7 v l.length (thsC l)) ∧ ∀ g, v.ownBlock = some g → ¬ Mine L (.slice none 0 0) g
theorem OffT.step {v : Value} {l : List Thing} (h : OffT w L v l) (hs : Step w (Mine L (.slice none 0 0)) w' (Mine L' (.slice none 0 0))) : OffT w' L' v l := by
  obtain ⟨⟨base, hb⟩, hg⟩ := h
  exact ⟨⟨base, row_same hb fun g e => (hs.block g (hb.lt g e).2 (hg g e)).1⟩, fun g e => (hs.block g (hb.lt g e).2 (hg g e)).2⟩
theorem OffT.below {v : Value} {l : List Thing} (h : OffT w L v l) (hb : Below w.heap.size w w') : OffT w' L v l := by
  obtain ⟨⟨base, h1⟩, hg⟩ := h
  exact ⟨⟨base, row_same h1 fun g e => hb.block g (h1.lt g e).2⟩, hg⟩
/-- A row of texts beside the file system. -/
def OffN (w : World) (L : Lay) (v : Value) (l : List Tx) : Prop := (∃ base, w.ownsRow base 9 1 v l.length (strsV l)) ∧ ∀ g, v.ownBlock = some g → ¬ Mine L (.slice none 0 0) g
theorem OffN.step {v : Value} {l : List Tx} (h : OffN w L v l) (hs : Step w (Mine L (.slice none 0 0)) w' (Mine L' (.slice none 0 0))) : OffN w' L' v l := by
  obtain ⟨⟨base, hb⟩, hg⟩ := h
  exact ⟨⟨base, row_same hb fun g e => (hs.block g (hb.lt g e).2 (hg g e)).1⟩, fun g e => (hs.block g (hb.lt g e).2 (hg g e)).2⟩
theorem OffN.below {v : Value} {l : List Tx} (h : OffN w L v l) (hb : Below w.heap.size w w') : OffN w' L v l := by
  obtain ⟨⟨base, h1⟩, hg⟩ := h
  exact ⟨⟨base, row_same h1 fun g e => hb.block g (h1.lt g e).2⟩, hg⟩
/-- A block beside the file system. -/
abbrev OffB (w : World) (L : Lay) (b : Nat) (xs : Array Value) (t : TypeId) : Prop := Off w L (.slice none 0 0) b xs t
/-- made, for a law. -/
theorem made_go {W X : World} (hX : Below W.heap.size W X) (hXs : X.heap.size = W.heap.size + 1) (v : Int) (l : List Call) (ao : Option Addr) (cap : Nat) (hl : CallsAt W ao l) (hc : ∀ c ∈ l, CallOk c) :
    Calls Tryz.prog 7 #[.int .i64 v, .slice ao l.length cap] X fun e W' => ∃ fb n nb L k, e = .returned (.pointer (some ⟨fb, 0, none⟩)) ∧ Go1 W fb n nb (stOf L nb) W' L ∧ Inv n k (stOf L nb) ∧ Roomy n (stOf L nb) ∧ k ≤ 60 ∧ 128 ≤ n ∧ n ≤ 16384 ∧ Below X.heap.size X W' := by
  refine (made_st v l ao cap X (fun j c hj => ?_) hc).mono ?_
  · obtain ⟨g, o, h1, h2, h3⟩ := hl j c hj
    exact ⟨g, o, h1, by omega, fun i v hv => (hX.cell (p := ⟨g, _, none⟩) h2).trans (h3 i v hv)⟩
  · rintro e W' ⟨fb, nb, n, L, k, rfl, M, hk, h1, h2⟩
    exact ⟨fb, n, nb, L, k, rfl, ⟨M.sim, M.wf, rfl, fun b hb => by have := M.own b hb; omega, hX.trans ⟨M.below.os, M.below.tape, M.below.output, M.below.size, fun k hk => M.below.block k (by omega)⟩⟩, M.inv, M.room, hk, h1, h2, M.below⟩
/-- whole, for a law. -/
theorem whole_go (h : Go1 W fb n nb s w L) (hlt : W.heap.size < w.heap.size) (hI : Inv n k s) (hk : k ≤ 300) (hn1 : 128 ≤ n) (hn2 : n ≤ 16384) :
    Calls Tryz.prog 8 #[.pointer (some ⟨fb, 0, none⟩)] w fun e W' => ∃ L' v', e = .returned (.tuple #[v', .bool true]) ∧ Go1 W fb n nb s W' L' ∧ OffT W' L' v' (things s) ∧ Step w (Mine L (.slice none 0 0)) W' (Mine L' (.slice none 0 0)) ∧ W.heap.size < W'.heap.size := by
  have hst := h.st
  refine (whole_st h.sim h.wf (by rw [hst]; exact hI) hk hn1 hn2).mono ?_
  rintro e W' ⟨L', v', rfl, B, T⟩
  have T' := T.weak (Y' := Mine L' (.slice none 0 0)) fun b hb => .inl hb
  rw [hst] at B
  exact ⟨L', v', rfl, h.step hlt B.sim B.wf B.st T', ⟨⟨_, B.row⟩, B.off⟩, T', Nat.lt_of_lt_of_le hlt T.size⟩
theorem room_go (h : Go1 W fb n nb s w L) (hlt : W.heap.size < w.heap.size) (hI : Inv n k s) (hk : k ≤ 300) (hn1 : 128 ≤ n) (hn2 : n ≤ 16384) :
    Calls Tryz.prog 9 #[.pointer (some ⟨fb, 0, none⟩)] w fun e W' => ∃ L', e = .returned (.agg (roomC (roomN n s))) ∧ Go1 W fb n nb s W' L' ∧ Step w (Mine L (.slice none 0 0)) W' (Mine L' (.slice none 0 0)) ∧ W.heap.size < W'.heap.size := by
  have hst := h.st
  refine (room_of_st h.sim h.wf (by rw [hst]; exact hI) hk hn1 hn2).mono ?_
  rintro e W' ⟨L', rfl, S', F', st', T'⟩
  rw [hst] at st' ⊢
  exact ⟨L', rfl, h.step hlt S' F' st' T', T', Nat.lt_of_lt_of_le hlt T'.size⟩
theorem do_go (h : Go1 W fb n nb s w L) (hlt : W.heap.size < w.heap.size) (hI : Inv n k s) (hk : k ≤ 300) (hn1 : 128 ≤ n) (hn2 : n ≤ 16384) (c : Call) (hc : CallOk c) :
    Calls Tryz.prog 11 #[.pointer (some ⟨fb, 0, none⟩), .agg (callC c)] w fun e W' => ∃ L' nv, e = .returned (.agg (ansC (doC n s c).2 nv)) ∧ Go1 W fb n nb (doC n s c).1 W' L' ∧ OffN W' L' nv (doC n s c).2.names ∧ (nv = .slice none 0 0 ↔ (doC n s c).2.names = []) ∧ Step w (Mine L (.slice none 0 0)) W' (Mine L' (.slice none 0 0)) ∧ W.heap.size < W'.heap.size := by
  have hst := h.st
  have := do_st h.sim h.wf (by rw [hst]; exact hI) (by omega) hn1 hn2 c hc
  rw [hst] at this
  refine this.mono ?_
  rintro e W' ⟨L', nv, S', F', st', T', rfl, A1, A2, A3⟩
  exact ⟨L', nv, rfl, h.step hlt S' F' st' T', ⟨⟨_, A1⟩, A3⟩, A2, T', Nat.lt_of_lt_of_le hlt T'.size⟩
/-- A whole answer of the room behind an alloc. -/
theorem put_room {w : World} {cs : Array Value} (hc : cs.size = 4) (h1 : cs.all (·.oneCell') = true) : ∃ Y, (Instr.storeAt 29 (.pointer (some ⟨w.heap.size, 0, none⟩)) (.agg cs)).run Tryz.prog (w.alloc (.cells #[.int .i64 0, .int .i64 0, .int .i64 0, .int .i64 0] 29)) = .ok () Y ∧ Blk Y w.heap.size cs 29 ∧ Below w.heap.size w Y ∧ Y.heap.size = w.heap.size + 1 :=
  ⟨_, store_row (ty := 29) (Blk.new _ _ _) (by rw [hc]; exact info_room) (by rw [hc]; rfl) h1, (Blk.new _ _ _).setRow cs, below_setRow ((Below.refl _ _).alloc (Nat.le_refl _) _) (Nat.le_refl _) _, by simp⟩
/-- What tells, or is refused, leaves the tree. -/
theorem doC_same (n : Int) (s : Tree) (c : Call) (h : (doC n s c).2.err ≠ 0 ∨ c.kind = 3 ∨ (11 ≤ c.kind ∧ c.kind ≤ 15)) : (doC n s c).1 = s := by
  have fN : ∀ r : Did, (ansN (fin n s r)).2.err ≠ 0 → (ansN (fin n s r)).1 = s := fun r hr => by
    unfold fin at hr ⊢
    cases r with
    | error e => rfl
    | ok x =>
      obtain ⟨s', t, v⟩ := x
      dsimp only at hr ⊢
      split
      · rfl
      · rename_i e; rw [if_neg e] at hr; exact absurd rfl hr
  have fE : ∀ (v : Int) (r : Did), (ansE v (fin n s r)).2.err ≠ 0 → (ansE v (fin n s r)).1 = s := fun v r hr => by
    unfold fin at hr ⊢
    cases r with
    | error e => rfl
    | ok x =>
      obtain ⟨s', t, v⟩ := x
      dsimp only at hr ⊢
      split
      · rfl
      · rename_i e; rw [if_neg e] at hr; exact absurd rfl hr
  by_cases c1 : c.kind = 1
  · have h := h.resolve_right (by omega)
    rw [doC_1 n s c1] at h ⊢; exact fN _ h
  by_cases c2 : c.kind = 2
  · have h := h.resolve_right (by omega)
    rw [doC_2 n s c2] at h ⊢; exact fN _ h
  by_cases c10 : c.kind = 10
  · have h := h.resolve_right (by omega)
    rw [doC_10 n s c10] at h ⊢
    cases ht : textP c.other with
    | error z => rfl
    | ok l => rw [ht] at h; exact fN _ h
  by_cases c3 : c.kind = 3
  · rw [read_eq n s c3]
  by_cases c4 : c.kind = 4
  · have h := h.resolve_right (by omega)
    rw [doC_4 n s c4] at h ⊢
    by_cases e1 : c.off < 0 ∨ 16384 < c.data.length
    · rw [if_pos e1]
    · rw [if_neg e1] at h ⊢
      cases hf : fileP s c.path with
      | error z => rfl
      | ok i =>
        rw [hf] at h
        dsimp only at h ⊢
        cases ho : openP s i with
        | error z => rfl
        | ok j => rw [ho] at h; exact fE _ _ h
  by_cases c5 : c.kind = 5
  · have h := h.resolve_right (by omega)
    rw [doC_5 n s c5] at h ⊢
    by_cases e1 : c.size < 0
    · rw [if_pos e1]
    · rw [if_neg e1] at h ⊢
      cases hf : fileP s c.path with
      | error z => rfl
      | ok i =>
        rw [hf] at h
        dsimp only at h ⊢
        cases ho : openP s i with
        | error z => rfl
        | ok j => rw [ho] at h; exact fE _ _ h
  by_cases c6 : c.kind = 6
  · have h := h.resolve_right (by omega)
    rw [doC_6 n s c6] at h ⊢; exact fE _ _ h
  by_cases c7 : c.kind = 7
  · have h := h.resolve_right (by omega)
    rw [doC_7 n s c7] at h ⊢; exact fE _ _ h
  by_cases c8 : c.kind = 8
  · have h := h.resolve_right (by omega)
    rw [doC_8 n s c8] at h ⊢; exact fE _ _ h
  by_cases c9 : c.kind = 9
  · have h := h.resolve_right (by omega)
    rw [doC_9 n s c9] at h ⊢; exact fE _ _ h
  by_cases ct : c.kind = 11 ∨ c.kind = 12 ∨ c.kind = 13 ∨ c.kind = 14
  · rw [doC_tell n s ct]
  by_cases c15 : c.kind = 15
  · rw [doC_room n s c15]
  · rw [doC_else n s (by omega)]
/-- No answer has too many names. -/
theorem doC_names {n : Int} {s : Tree} {k : Nat} (hI : Inv n k s) (hk : k ≤ 1000) (c : Call) : (doC n s c).2.names.length ≤ 1000000 := by
  have fN : ∀ r, (ansN r).2.names.length ≤ 1000000 := fun r => by obtain ⟨t, r⟩ := r; cases r <;> exact Nat.zero_le _
  have fE : ∀ v r, (ansE v r).2.names.length ≤ 1000000 := fun v r => by obtain ⟨t, r⟩ := r; cases r <;> exact Nat.zero_le _
  by_cases c1 : c.kind = 1
  · rw [doC_1 n s c1]; exact fN _
  by_cases c2 : c.kind = 2
  · rw [doC_2 n s c2]; exact fN _
  by_cases c10 : c.kind = 10
  · rw [sym_eq n s c10]; exact fN _
  by_cases c3 : c.kind = 3
  · rw [read_eq n s c3]
    unfold readA
    cases readPathR s c <;> exact Nat.zero_le _
  by_cases c4 : c.kind = 4
  · rw [write_eq n s c4]; exact fE _ _
  by_cases c5 : c.kind = 5
  · rw [cut_eq n s c5]; exact fE _ _
  by_cases c6 : c.kind = 6
  · rw [doC_6 n s c6]; exact fE _ _
  by_cases c7 : c.kind = 7
  · rw [doC_7 n s c7]; exact fE _ _
  by_cases c8 : c.kind = 8
  · rw [doC_8 n s c8]; exact fE _ _
  by_cases c9 : c.kind = 9
  · rw [doC_9 n s c9]; exact fE _ _
  by_cases ct : c.kind = 11 ∨ c.kind = 12 ∨ c.kind = 13 ∨ c.kind = 14
  · rw [doC_tell n s ct]
    unfold tell
    cases toP s c.path (decide (c.kind = 12 ∨ c.kind = 14)) with
    | error z => exact Nat.zero_le _
    | ok q =>
      dsimp only
      by_cases e1 : c.kind = 11
      · rw [if_pos e1]
        by_cases e2 : (ndAt s q.inode).kind ≠ 3
        · rw [if_pos e2]; exact Nat.zero_le _
        · rw [if_neg e2]; exact Nat.zero_le _
      · rw [if_neg e1]
        by_cases e2 : c.kind = 14
        · rw [if_pos e2]
          by_cases e3 : (ndAt s q.inode).kind ≠ 2
          · rw [if_pos e3]; exact Nat.zero_le _
          · rw [if_neg e3]
            show ((ndAt s q.inode).names.map (·.1)).length ≤ _
            rw [List.length_map]
            cases hx : get s q.inode with
            | none => unfold ndAt; rw [hx]; exact Nat.zero_le _
            | some x =>
              rw [ndAt_of hx]
              rw [ndAt_of hx] at e3
              have := (hI.nd _ x hx).dir (Decidable.of_not_not e3)
              omega
        · rw [if_neg e2]; exact Nat.zero_le _
  by_cases c15 : c.kind = 15
  · rw [doC_room n s c15]; exact Nat.zero_le _
  · rw [doC_else n s (by omega)]; exact Nat.zero_le _
end
end Fs
end Go.Proofs.YtlnnbjgfpiefdaaGreat
