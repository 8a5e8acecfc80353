/- All that is wrong with an image: the walk. -/
import Derived.Test.YtegplehbcdeeoaaGreatDoorChkB26
import Derived.Deep.DeepMust
import Derived.Test.YtegplehbcdeeoaaGreatDoorChkB16
import Derived.Test.YtegplehbcdeeoaaGreatDoorChkB17
namespace Go.Proofs.YtegplehbcdeeoaaGreatDoor
open Go.RowKit Go.Maps

attribute [local go_sem] Oper.semAt_some
namespace Ck
open Pk Pw
/-- A map is made, fenced: the world behind it under a name. -/
theorem wpListIn_makeMap2 {F : Fence} {n : Nat} {P : Program} (w : World) {ops : Array Oper} {rest : List Oper} {o : Oper} {a : Act} {Q : Exit → Act → World → Prop}
    (hw : o.guard = none) (t : TypeId) (hop : o.op = Op.makeMap t none) (hK : ∀ W', Hid (W' = w.alloc (.map #[] 0)) → wpListIn F n P ops Q rest (a.put o.dst (.map (some w.heap.size))) W') : wpListIn F n P ops Q (o :: rest) a w :=
  wpListIn_makeMap w hw t hop (hK _ (Lib.hid rfl))
def ImageP (l : B) (w : World) (e : Ending) (W' : World) : Prop :=
  Below w.heap.size w W' ∧ ∃ v, e = .returned v ∧ W'.ownsRow w.heap.size 34 4 v (imageP l).length (fndsV (imageP l))
/-- What opened comes to. -/
def OpenE (l : B) (ll : Nat) (w : World) (e : Ending) (w' : World) : Prop :=
  Below w.heap.size w w' ∧ match openP l with
  | .ok x => ∃ g cap, e = .returned (.tuple #[.slice (some ⟨g, 0, none⟩) ll cap, .agg (geoC (l.length / 512)), .int .i64 0]) ∧ w.heap.size ≤ g ∧ g < w'.heap.size ∧ SeenAt w' g 0 x ∧ ll ≤ cap ∧ cap ≤ 9223372036854775807
  | .error k => k ≠ 0 ∧ ∃ G : Array Value, (G.size = 5 ∧ G.all (·.oneCell') = true) ∧ e = .returned (.tuple #[.slice none 0 0, .agg G, .int .i64 k])
theorem opened_all (l : B) (ll : Nat) (hll : l.length = ll) (ao : Option Addr) (cap : Nat) (hcap : ll ≤ cap ∧ cap ≤ 9223372036854775807) (w : World) (hs : okLen l → ∃ g o, ao = some ⟨g, o, none⟩ ∧ g < w.heap.size ∧ SeenAt w g o l) (hw : KVars w) :
    Calls Tryz.prog 27 #[.slice ao ll cap] w fun e w' => OpenE l ll w e w' := by
  by_cases h : okLen l
  · obtain ⟨g, o, rfl, hg, hsn⟩ := hs h
    obtain ⟨h1, h2, h3⟩ := h
    refine (opened_at l (l.length / 512) ll hll (by omega) h1 h2 g o cap hcap w hg hsn hw).mono ?_
    intro e w' hE
    unfold OpenAt OpenC at hE
    obtain ⟨hb, hE⟩ := hE
    refine ⟨hb, ?_⟩
    unfold openP
    by_cases c : sub l 0 512 = superP (l.length / 512)
    · rw [if_pos ⟨⟨h1, h2, h3⟩, c⟩]
      rw [if_pos c] at hE
      cases hp : behindP (l.length / 512) l with
      | none => rw [hp] at hE; obtain ⟨G, hG, rfl⟩ := hE; exact ⟨by decide, G, hG, rfl⟩
      | some x => rw [hp] at hE; exact hE
    · rw [if_neg (fun e => c e.2)]
      rw [if_neg c] at hE
      obtain ⟨G, hG, rfl⟩ := hE
      exact ⟨by decide, G, hG, rfl⟩
  · refine (opened_bad ao ll cap (by omega) w (by rw [← hll]; exact h)).mono ?_
    rintro e w' ⟨hb, G, hG, rfl⟩
    refine ⟨hb, ?_⟩
    unfold openP
    rw [if_neg (fun e => h e.1)]
    exact ⟨by decide, G, hG, rfl⟩
/-- What is deferred. -/
abbrev defI (b : Nat) : Deferred := { target := .fn (.func 26) #[.pointer (some ⟨b, 0, none⟩)], args := #[] }
theorem alloc_get (w : World) (o : Obj) (b : Nat) : (w.alloc o).heap[b]? = if b = w.heap.size then some o else w.heap[b]? := by
  show (w.heap.push o)[b]? = _
  rw [Array.getElem?_push]
theorem image_results {tmps : Array Value} {W : World} {b : Nat} {v : Value} (h2 : tmps[2]? = some (.pointer (some ⟨b, 0, none⟩))) (hc : W.cell? ⟨b, 0, none⟩ = some v) :
    (results Tryz.f16 tmps).run Tryz.prog W = .ok v W := by
  simp [results, Tryz.results16, go_sem, h2, hc]
set_option maxRecDepth 100000 in
theorem leave_image {n : Nat} {R : Ending → World → Prop} {tmps : Array Value} {W : World} {b : Nat} {v : Value} (h2 : tmps[2]? = some (.pointer (some ⟨b, 0, none⟩))) (hc : W.cell? ⟨b, 0, none⟩ = some v) (hR : R (.returned v) W) :
    LeavesInM Fence.wide n Tryz.prog Tryz.f16 tmps R [defI b] .returning W := by
  refine ⟨by simp, .inr ⟨by simp [Fence.wide], .func 26, #[.pointer (some ⟨b, 0, none⟩)], 26, #[.pointer (some ⟨b, 0, none⟩)], rfl, by simp [go_sem], fun _ _ => trivial, ?_⟩⟩
  refine (image1_idle b (n - 1) W).mono ?_
  rintro e u' w' ⟨rfl, rfl, rfl⟩
  exact ⟨v, image_results h2 hc, hR⟩
set_option maxRecDepth 100000 in
set_option maxHeartbeats 4000000 in
theorem image_any (l : B) (ll : Nat) (hll : l.length = ll) (ao : Option Addr) (cap : Nat) (hcap : ll ≤ cap ∧ cap ≤ 9223372036854775807) (w : World) (hs : okLen l → ∃ g o, ao = some ⟨g, o, none⟩ ∧ g < w.heap.size ∧ SeenAt w g o l) (hw : KVars w) :
    Calls Tryz.prog 16 #[.slice ao ll cap] w fun e W' => ImageP l w e W' := by
  have hb0 := (Below.refl w.heap.size w).alloc (Nat.le_refl _) (.cells #[.slice none 0 0] 32)
  have hw0 := hw.below hb0
  have hbx0 := Blk.new w #[.slice none 0 0] 32
  have hbs0 : w.heap.size < (w.alloc (.cells #[.slice none 0 0] 32)).heap.size := hbx0.lt
  refine (callsIn_wide (n := 5)).1 ?_
  refine callsIn_of_wp_marks Tryz.func16 rfl trivial ?_ rfl
  simp only [Tryz.ntmps16, List.size_toArray, List.length_cons, List.length_nil, Nat.reduceAdd, Nat.reduceSub, Array.replicate_succ, Array.replicate_zero, List.push_toArray, List.append_toArray, List.nil_append, List.cons_append]
  gi_wp2
  have HO := opened_all l ll hll ao cap hcap (w.alloc (.cells #[.slice none 0 0] 32)) (fun h => by
    obtain ⟨g, o, e, hg, hsn⟩ := hs h
    exact ⟨g, o, e, Nat.lt_of_lt_of_le hg hb0.size, hsn.below hg hb0⟩) hw0
  have hwK := hw
  clear hs hw hcap
  refine ⟨trivial, (callsIn_wide.2 HO).mono ?_⟩
  clear HO
  rintro e w1 ⟨hb1, hE⟩
  have hbx1 := hbx0.same (hb1.block _ hbs0)
  have hb01 := hb0.trans (hb1.mono hb0.size)
  have hw1 := hw0.below hb1
  cases hop : openP l with
  | error k =>
    rw [hop] at hE
    obtain ⟨hk, G, ⟨hG1, hG2⟩, rfl⟩ := hE
    have hki : ((k : Int) != 0) = true := by simp; omega
    have hP := Lib.hid (show imageP l = [fnd k 0 0] by unfold imageP; rw [hop])
    have hst := store_new w1 40 #[.int .i64 0, .int .i64 0, .int .i64 0, .int .i64 0, .int .i64 0] G (by rw [hG1]; kernel_rfl) (by rw [hG1]; rfl) hG2
    have hb2 := hb01.alloc hb01.size (.cells G 40)
    have hbx2 := hbx1.alloc (.cells G 40)
    have c2 : ∀ ob, ((w1.alloc (.cells G 40)).alloc ob).cell? ⟨w.heap.size, 0, none⟩ = some (.slice none 0 0) := fun ob => (hbx2.alloc ob).cell 0
    have f2 : ∀ ob, ((w1.alloc (.cells G 40)).alloc ob).frozen? ⟨w.heap.size, 0, none⟩ = false := fun ob => (hbx2.alloc ob).free 0
    have c3 : ∀ ob, (((w1.alloc (.cells G 40)).alloc ob).drew).cell? ⟨w.heap.size, 0, none⟩ = some (.slice none 0 0) := fun ob => (hbx2.alloc ob).cell 0
    have f3 : ∀ ob, (((w1.alloc (.cells G 40)).alloc ob).drew).frozen? ⟨w.heap.size, 0, none⟩ = false := fun ob => (hbx2.alloc ob).free 0
    clear hop hw1 hw0 hb0 hb1 hbs0 hbx0 hbx1
    gi_wp2_with (refine wpListIn_store_run _ rfl (.tmp 4) (.tmp 14) 40 rfl _ hst ?_)
    obtain ⟨V, hV⟩ : ∃ V, ((w1.alloc (.cells G 40)).alloc (.cells #[.int .i64 k, .int .i64 0, .int .i64 0, .string ⟨#[]⟩] 34)) = V := ⟨_, rfl⟩
    have hbV : Below w.heap.size w V := by rw [← hV]; exact hb2.alloc hb2.size _
    have hfV : Blk V (w1.heap.size + 1) #[.int .i64 k, .int .i64 0, .int .i64 0, .string ⟨#[]⟩] 34 := by rw [← hV]; exact Blk.newAt _ _ (by simp)
    have hbxV : Blk V w.heap.size #[.slice none 0 0] 32 := by rw [← hV]; exact hbx2.alloc _
    have hsz := hb01.size
    rw [hV]
    refine leave_image rfl (v := .slice (some ⟨w1.heap.size + 1, 0, none⟩) 1 1) ((hbxV.setAt 0 _).cell 0) ⟨hbV.setCell (Nat.le_refl _) _, _, rfl, ?_⟩
    rw [hP.out]
    have hf2 : Blk (V.setCell ⟨w.heap.size, 0, none⟩ (.slice (some ⟨w1.heap.size + 1, 0, none⟩) 1 1)) (w1.heap.size + 1) #[.int .i64 k, .int .i64 0, .int .i64 0, .string ⟨#[]⟩] 34 := hfV.same (setCell_heap _ _ _ _ _ (by omega))
    exact ⟨rfl, .inr ⟨w1.heap.size + 1, 1, _, rfl, by omega, hf2, Nat.le_refl _, by unfold maxLen; omega, rfl, rfl⟩⟩
  | ok x =>
    rw [hop] at hE
    obtain ⟨g, cap2, rfl, hg1, hg2, hsx, hc1, hc2⟩ := hE
    obtain ⟨n, hn⟩ : ∃ n, l.length / 512 = n := ⟨_, rfl⟩
    rw [hn]
    obtain ⟨c0, c1, c2, c3, c4, hC, h1⟩ : ∃ c0 c1 c2 c3 c4 : Value, geoC n = #[c0, c1, c2, c3, c4] ∧ (c0.cells = #[c0] ∧ c1.cells = #[c1] ∧ c2.cells = #[c2] ∧ c3.cells = #[c3] ∧ c4.cells = #[c4]) := ⟨_, _, _, _, _, rfl, by refine ⟨?_, ?_, ?_, ?_, ?_⟩ <;> rfl⟩
    obtain ⟨h10, h11, h12, h13, h14⟩ := h1
    have hst := store_new w1 40 #[.int .i64 0, .int .i64 0, .int .i64 0, .int .i64 0, .int .i64 0] (geoC n) (by kernel_rfl) rfl (by simp [geoC, Value.oneCell'])
    have hbG := Blk.new w1 (geoC n) 40
    have hld := load_str (ty := 40) hbG (by exact Tryz.underlying40) (by kernel_rfl)
    have hb2 := hb01.alloc hb01.size (.cells (geoC n) 40)
    have hbx2 := hbx1.alloc (.cells (geoC n) 40)
    clear hw0 hb0 hb1 hbs0 hbx0 hbx1
    rw [hC] at hst hbG hld hb2 hbx2 ⊢
    generalize hw2 : w1.alloc (.cells #[c0, c1, c2, c3, c4] 40) = w2 at *
    replace hC := Lib.hid hC
    gi_wp2_with (first | (refine wpListIn_store_run _ rfl (.tmp 4) (.tmp 14) 40 rfl _ hst ?_) | (refine wpListIn_load_when _ rfl (.tmp 4) 40 rfl _ hld ?_) | (guard_target =~ wpListIn _ _ _ _ _ (Oper.mk (some 23) (Op.makeMap _ _) _ _ _ _ :: _) _ _; refine wpListIn_makeMap2 _ rfl _ rfl ?_; intro m23 hm23; simp only [Act.put, List.setIfInBounds_toArray, List.set_cons_succ, List.set_cons_zero]) | (guard_target =~ wpListIn _ _ _ _ _ (Oper.mk (some 24) (Op.makeMap _ _) _ _ _ _ :: _) _ _; refine wpListIn_makeMap2 _ rfl _ rfl ?_; intro m24 hm24; simp only [Act.put, List.setIfInBounds_toArray, List.set_cons_succ, List.set_cons_zero]) | (guard_target =~ wpListIn _ _ _ _ _ (Oper.mk (some 25) (Op.makeMap _ _) _ _ _ _ :: _) _ _; refine wpListIn_makeMap2 _ rfl _ rfl ?_; intro m25 hm25; simp only [Act.put, List.setIfInBounds_toArray, List.set_cons_succ, List.set_cons_zero]) | (guard_target =~ wpListIn _ _ _ _ _ (Oper.mk (some 26) (Op.makeMap _ _) _ _ _ _ :: _) _ _; refine wpListIn_makeMap2 _ rfl _ rfl ?_; intro m26 hm26; simp only [Act.put, List.setIfInBounds_toArray, List.set_cons_succ, List.set_cons_zero]) | (guard_target =~ wpListIn _ _ _ _ _ (Oper.mk (some 27) (Op.makeMap _ _) _ _ _ _ :: _) _ _; refine wpListIn_makeMap2 _ rfl _ rfl ?_; intro m27 hm27; simp only [Act.put, List.setIfInBounds_toArray, List.set_cons_succ, List.set_cons_zero]) | (guard_target =~ wpListIn _ _ _ _ _ (Oper.mk (some 28) (Op.makeMap _ _) _ _ _ _ :: _) _ _; refine wpListIn_makeMap2 _ rfl _ rfl ?_; intro m28 hm28; simp only [Act.put, List.setIfInBounds_toArray, List.set_cons_succ, List.set_cons_zero]) | (guard_target =~ wpListIn _ _ _ _ _ (Oper.mk (some 29) (Op.makeMap _ _) _ _ _ _ :: _) _ _; refine wpListIn_makeMap2 _ rfl _ rfl ?_; intro m29 hm29; simp only [Act.put, List.setIfInBounds_toArray, List.set_cons_succ, List.set_cons_zero]))
    obtain ⟨V, hV⟩ : ∃ V, V = (m29.alloc (.cells #[.slice (some ⟨g, 0, none⟩) ll cap2, c0, c1, c2, c3, c4, .slice none 0 0, .map (some w2.heap.size), .map (some m23.heap.size), .map (some m24.heap.size), .map (some m25.heap.size), .map (some m26.heap.size), .map (some m27.heap.size), .map (some m28.heap.size)] 70)).alloc (.cells #[.pointer (some ⟨m29.heap.size, 0, none⟩)] 64) := ⟨_, rfl⟩
    obtain ⟨o1, o2, o3, o4⟩ := open_len hop
    rw [hn] at o1 o2 o3 o4
    have hx512 : ll = 512 * n := by rw [← hll]; exact o3
    obtain ⟨A, hA⟩ : ∃ A : Adr, A = ⟨w.heap.size, m29.heap.size, g, cap2, n, x, w2.heap.size, m23.heap.size, m24.heap.size, m25.heap.size, m26.heap.size, m27.heap.size, m28.heap.size⟩ := ⟨_, rfl⟩
    have a3 : m23.heap.size = w2.heap.size + 1 := by rw [hm23.out, alloc_size]
    have a4 : m24.heap.size = w2.heap.size + 2 := by rw [hm24.out, alloc_size, a3]
    have a5 : m25.heap.size = w2.heap.size + 3 := by rw [hm25.out, alloc_size, a4]
    have a6 : m26.heap.size = w2.heap.size + 4 := by rw [hm26.out, alloc_size, a5]
    have a7 : m27.heap.size = w2.heap.size + 5 := by rw [hm27.out, alloc_size, a6]
    have a8 : m28.heap.size = w2.heap.size + 6 := by rw [hm28.out, alloc_size, a7]
    have a9 : m29.heap.size = w2.heap.size + 7 := by rw [hm29.out, alloc_size, a8]
    have q3 : Below w2.heap.size w2 m23 := by rw [hm23.out]; exact (Below.refl _ _).alloc (Nat.le_refl _) _
    have hbV2 : ∀ (u : World), Below w.heap.size w u → ∀ ob, Below w.heap.size w (u.alloc ob) := fun u hu ob => hu.alloc hu.size ob
    have r2 : Below w.heap.size w w2 := hb2
    have r9 : Below w.heap.size w m29 := by
      rw [hm29.out, hm28.out, hm27.out, hm26.out, hm25.out, hm24.out, hm23.out]
      exact hbV2 _ (hbV2 _ (hbV2 _ (hbV2 _ (hbV2 _ (hbV2 _ (hbV2 _ r2 _) _) _) _) _) _) _
    have rV : Below w.heap.size w V := by rw [hV]; exact hbV2 _ (hbV2 _ r9 _) _
    have hF : Fresh0 w V A := by
      rw [hA]
      have hgx : g < w2.heap.size := by rw [← hw2, alloc_size]; omega
      refine { base := rfl, blk := ?_, img := ?_, nodes := ?_, had := ?_, blocks := ?_, cells := ?_, depth := ?_, seen := ?_, names := ?_, low := ?_, lt := hgx, e1 := a3, e2 := a4, e3 := a5, e4 := a6, e5 := a7, e6 := a8, e7 := a9, len := o4, n1 := o1, n2 := o2, cap := ⟨by rw [← hx512]; exact hc1, hc2⟩ }
      · rw [hV]
        have := (Blk.new m29 (chkC ⟨w.heap.size, m29.heap.size, g, cap2, n, x, w2.heap.size, m23.heap.size, m24.heap.size, m25.heap.size, m26.heap.size, m27.heap.size, m28.heap.size⟩ (.slice none 0 0)) 70).alloc (.cells #[.pointer (some ⟨m29.heap.size, 0, none⟩)] 64)
        have hC2 := hC.out
        unfold geoC at hC2
        cases hC2
        unfold chkC at this ⊢
        dsimp only at this ⊢
        rw [hx512]
        exact this
      · have hs2 : SeenAt w2 g 0 x := by rw [← hw2]; exact hsx.same (alloc_at _ _ hg2)
        rw [hV, hm29.out, hm28.out, hm27.out, hm26.out, hm25.out, hm24.out, hm23.out]
        refine hs2.same ?_
        simp only [alloc_get, alloc_size]
        rw [if_neg (by omega), if_neg (by omega), if_neg (by omega), if_neg (by omega), if_neg (by omega), if_neg (by omega), if_neg (by omega), if_neg (by omega), if_neg (by omega)]
      all_goals first
        | (rw [hV, hm29.out, hm28.out, hm27.out, hm26.out, hm25.out, hm24.out, hm23.out]
           simp only [alloc_get, alloc_size]
           simp
           try rw [if_neg (by omega), if_neg (by omega)])
        | (show w.heap.size ≤ g; have := alloc_size w (.cells #[.slice none 0 0] 32); omega)
    have hS0 := sim_start hF hwK rV
    have hgw : w.heap.size < g := by have := alloc_size w (.cells #[.slice none 0 0] 32); omega
    have hAn : A.n = n := by rw [hA]
    have hAb : A.bytes = x := by rw [hA]
    have hAB : A.base = w.heap.size := by rw [hA]
    have hw2s : w.heap.size < w2.heap.size := by
      have h8 := hF.lt
      have h9 : A.img = g := by rw [hA]
      have h10 : A.nodes = w2.heap.size := by rw [hA]
      omega
    have hbL : Blk V w.heap.size #[.slice none 0 0] 32 := by
      refine hbx2.same ?_
      rw [hV, hm29.out, hm28.out, hm27.out, hm26.out, hm25.out, hm24.out, hm23.out]
      simp only [alloc_get, alloc_size]
      rw [if_neg (by omega), if_neg (by omega), if_neg (by omega), if_neg (by omega), if_neg (by omega), if_neg (by omega), if_neg (by omega), if_neg (by omega), if_neg (by omega)]
    have hbT : Blk V (A.c + 1) #[.pointer (some ⟨A.c, 0, none⟩)] 64 := by
      rw [hV, hA]
      exact Blk.newAt _ _ (by simp)
    have hwT : (gh0 A).who (A.c + 1) = .other := by
      have h1 := hF.e1; have h2 := hF.e2; have h3 := hF.e3; have h4 := hF.e4; have h5 := hF.e5; have h6 := hF.e6; have h7 := hF.e7; have h8 := hF.lt
      simp only [gh0]
      rw [if_neg (by omega), if_neg (by omega), if_neg (by omega), if_neg (by omega), if_neg (by omega), if_neg (by omega), if_neg (by omega), if_neg (by omega), if_neg (by omega)]
    have hwL : (gh0 A).who w.heap.size = .other := by
      have h1 := hF.e1; have h2 := hF.e2; have h3 := hF.e3; have h4 := hF.e4; have h5 := hF.e5; have h6 := hF.e6; have h7 := hF.e7; have h8 := hF.lt
      have h9 : A.img = g := by rw [hA]
      simp only [gh0]
      rw [if_neg (by omega), if_neg (by omega), if_neg (by omega), if_neg (by omega), if_neg (by omega), if_neg (by omega), if_neg (by omega), if_neg (by omega), if_neg (by omega)]
    have hcA : m29.heap.size = A.c := by rw [hA]
    rw [← hV, hcA]
    have hPi := Lib.hid (show imageP l = (stH A.n A.bytes).found by unfold imageP; rw [hop, hAn, hAb, hn])
    clear hF hA hAn hAb hV hop hC hst hld hbG hb2 hbx2 h10 h11 h12 h13 h14 hw2 hm23 hm24 hm25 hm26 hm27 hm28 hm29 a3 a4 a5 a6 a7 a8 a9 q3 hbV2 r2 r9 hb01 hw1 hg1 hg2 hsx hc1 hc2 o1 o2 o3 o4 hx512 hll hn hcA hgw
    generalize gh0 A = G0 at *
    have hlow : ∀ b, b < w.heap.size → G0.who b = .other := fun b hb => hS0.other_of (.inr (by rw [hAB]; exact hb))
    have cT := hbT.cell 0
    have HM := meta_any hS0 (by omega)
    refine ⟨trivial, (callsIn_wide.2 HM).mono ?_⟩
    clear HM
    rintro e W1 ⟨rfl, G1, hS1, hT1⟩
    have hbT1 := hbT.same (hT1.block _ hbT.lt hwT)
    have cT1 := hbT1.cell 0
    have HR := records_any hS1 (by omega)
    clear cT
    gi_wp2_with fail
    refine ⟨trivial, (callsIn_wide.2 HR).mono ?_⟩
    clear HR cT1
    rintro e W2 ⟨rfl, G2, hS2, hT2⟩
    have hT02 := hT1.trans hT2
    have hbT2 := hbT.same (hT02.block _ hbT.lt hwT)
    have cT2 := hbT2.cell 0
    gi_wp2_with fail
    have hw02 := hT02.who _ hbT.lt hwT
    have hcn : countN A.n ≤ 2048 := count_le hS2.n2
    have hfB := fresh_B A.n A.bytes
    have hS2' : Sim (20480 + countN A.n) W2 A G2 (stB A.n A.bytes) := by
      have := hS2
      rw [Nat.zero_add] at this
      exact this
    clear hS2 hS1 hS0 cT2
    refine wpIn_range_boxed (F := Fence.wide) (α := Nat × Rc) rfl (by omega) (gf := 30) (rv := .pointer (some ⟨A.c, 0, none⟩)) rfl trivial (enters_of Tryz.func30 (by kernel_rfl) rfl)
      (fun x => #[.int .i64 x.1, .agg (recC x.2)]) (fun _ => rfl) (eachTo (stB A.n A.bytes).nodes (countN A.n)) (fun pre x => pre = eachTo (stB A.n A.bytes).nodes x.1 ∧ (stB A.n A.bytes).nodes x.1 = some x.2 ∧ 1 ≤ x.1 ∧ x.1 < countN A.n)
      (fun pre V => InL W2 G2 A (20480 + countN A.n + 50000 * pre.length) (pre.foldl (nums1 A.n A.bytes) (stB A.n A.bytes)) V) (inL_own _ _ hS2'.base) (InL.start (by simpa using hS2')) ?_
      (fun x => .cells (recC x.2) 74)
      (fun x b => { tmps := #[.slice ao ll cap, undef, .pointer (some ⟨w.heap.size, 0, none⟩), .slice (some ⟨g, 0, none⟩) ll cap2, .pointer (some ⟨w1.heap.size, 0, none⟩), .int .i64 0, .pointer (some ⟨A.c + 1, 0, none⟩), .int .i64 x.1, .pointer (some ⟨b, 0, none⟩), .func (.func 26) #[] #[.pointer (some ⟨w.heap.size, 0, none⟩)], .tuple #[.slice (some ⟨g, 0, none⟩) ll cap2, .agg #[c0, c1, c2, c3, c4], .int .i64 0], .slice ao ll cap, .tuple #[.slice (some ⟨g, 0, none⟩) ll cap2, .agg #[c0, c1, c2, c3, c4], .int .i64 0], .slice (some ⟨g, 0, none⟩) ll cap2, .agg #[c0, c1, c2, c3, c4], .int .i64 0, .int .i64 0, .bool false, undef, undef, undef, .slice (some ⟨g, 0, none⟩) ll cap2, .agg #[c0, c1, c2, c3, c4], .map (some w2.heap.size), .map (some m23.heap.size), .map (some m24.heap.size), .map (some m25.heap.size), .map (some m26.heap.size), .map (some m27.heap.size), .map (some m28.heap.size), .agg #[.slice (some ⟨g, 0, none⟩) ll cap2, c0, c1, c2, c3, c4, .slice none 0 0, .map (some w2.heap.size), .map (some m23.heap.size), .map (some m24.heap.size), .map (some m25.heap.size), .map (some m26.heap.size), .map (some m27.heap.size), .map (some m28.heap.size)], .pointer (some ⟨A.c, 0, none⟩), .pointer (some ⟨A.c, 0, none⟩), .tuple #[], .pointer (some ⟨A.c, 0, none⟩), .tuple #[], .pointer (some ⟨A.c, 0, none⟩), .func (.func 30) #[.pointer (some ⟨A.c, 0, none⟩)] #[], .int .i64 x.1, .agg (recC x.2), undef, undef, undef, undef, undef, undef, undef, undef, undef, undef, undef, undef, undef, undef, undef, undef, undef, undef], defers := [] }) ?_ ?_ ?_
    · intro l J V hJI hJb hY hJ0
      exact each_in Fence.wide 4 trivial rfl (by omega) l (stB A.n A.bytes).nodes hfB.ok.rc J (fun pre V' hj => by
        obtain ⟨G1, k1, _⟩ := hJI pre V' hj
        exact ⟨_, G1, _, k1, nums_nodes A.n A.bytes (stB A.n A.bytes) pre⟩) hJb (fun pre x W1 hj hp hn h1 hc => hY pre x W1 hj ⟨hp, hn, h1, hc⟩) V hJ0
    · rintro l pre x V K ⟨_, hnx, _, _⟩ hK
      have hxz := (hfB.ok.rc _ _ hnx).csize
      have hst := store_new V 74 (Array.replicate 15 (.int .i64 0)) (recC x.2) (by rw [hxz]; kernel_rfl) (by rw [hxz]; rfl) (natC_one _)
      generalize recC x.2 = C at *
      clear hxz
      gi_wp2_with (refine wpListIn_store_run _ rfl (.tmp 8) (.tmp 39) 74 rfl _ hst ?_)
      exact hK
    · rintro l pre x b V ⟨G1, hS, hT, hC⟩ ⟨hp, hn, h1, hc⟩ hbb hbV
      obtain ⟨i, y⟩ := x
      dsimp only at hp hn h1 hc hbV
      have hpl : pre.length ≤ 2048 := by rw [hp]; exact Nat.le_trans (eachTo_len _ _) (by omega)
      replace hp := Lib.hid hp
      have hbx := hbT2.same (hT.block _ hbT2.lt hw02)
      have b0 := hbx.cell 0
      have hX : Blk V b (recC y) 74 := hbV
      have hrc := hfB.ok.rc _ _ hn
      have hxz := hrc.csize
      have hld := load_str (ty := 74) hX (by exact Tryz.underlying74) (by rw [hxz]; kernel_rfl)
      have hf1 := Lib.hid (show (pre ++ [(i, y)]).foldl (nums1 A.n A.bytes) (stB A.n A.bytes) = numbersS A.n A.bytes i y (pre.foldl (nums1 A.n A.bytes) (stB A.n A.bytes)) by rw [List.foldl_append]; rfl)
      have HN := numbersI_any hS (by omega) y hrc i (by omega)
      generalize pre.foldl (nums1 A.n A.bytes) (stB A.n A.bytes) = sp at *
      generalize numbersS A.n A.bytes i y sp = sq at *
      generalize recC y = C at *
      have hTC := Lib.hid (And.intro hT hC)
      clear hS hT hC hbx hX hxz hrc
      gi_wp2_with (refine wpListIn_load_when _ rfl (.tmp 8) 74 rfl _ hld ?_)
      refine ⟨trivial, (CallsIn.inRound l (callsIn_wide.2 HN)).mono ?_⟩
      clear HN
      rintro e W5 ⟨rfl, G5, k1, k2⟩
      obtain ⟨hT, hC⟩ := hTC.out
      have hE := Lib.hid (show KeepsFrom W2.heap.size V W5 ∧ InL W2 G2 A (20480 + countN A.n + 50000 * (pre ++ [(i, y)]).length) ((pre ++ [(i, y)]).foldl (nums1 A.n A.bytes) (stB A.n A.bytes)) W5 from by
        refine ⟨keeps_of hC k2, ?_⟩
        rw [hf1.out]
        exact InL.go hT hC (k1.mono (by simp; omega)) k2)
      clear k1 k2 hT hC
      gi_wp2
      exact ⟨rfl, hE.out⟩
    · rintro D V hD hI hdef
      obtain ⟨G3, hS3, hT3, hC3⟩ := hI
      have hwD := cw_other hC3 hD hdef rfl
      have hT03 := hT02.trans hT3
      have hbT3 := hbT.same (hT03.block _ hbT.lt hwT)
      have cT3 := hbT3.cell 0
      have hlen := eachTo_len (stB A.n A.bytes).nodes (countN A.n)
      have hS3' : Sim 200000000 V A G3 (stC A.n A.bytes) := hS3.mono (by omega)
      have HT := taken_any hS3' (by omega)
      have hDl := (Array.getElem?_eq_some_iff.1 hdef).1
      clear hS3
      simp only [Exit.inBlock]
      gi_wp2_with fail
      refine ⟨trivial, (callsIn_wide.2 HT).mono ?_⟩
      clear HT cT3
      rintro e W4 ⟨rfl, G4, hS4, hT4⟩
      have hwD4 := hT4.who _ hDl hwD
      have hdef4 := (hT4.block _ hDl hwD).trans hdef
      have hDl4 := (Array.getElem?_eq_some_iff.1 hdef4).1
      have hT04 := hT03.trans hT4
      have hbT4 := hbT.same (hT04.block _ hbT.lt hwT)
      have cT4 := hbT4.cell 0
      have hfD := fresh_D A.n A.bytes
      have HT := things_any (s := stD A.n A.bytes) hS4 hfD.ok.rc hfD.ok.may hfD.blocks (fun i v e => by rw [hfD.names i] at e; cases e) (by omega)
      gi_wp2_with fail
      refine ⟨trivial, (callsIn_wide.2 HT).mono ?_⟩
      clear HT cT4 hS4
      rintro e W5 ⟨⟨v5, rfl⟩, G5, hS5, hT5⟩
      have hwD5 := hT5.who _ hDl4 hwD4
      have hdef5 := (hT5.block _ hDl4 hwD4).trans hdef4
      have hDl5 := (Array.getElem?_eq_some_iff.1 hdef5).1
      have hT05 := hT04.trans hT5
      have hbT5 := hbT.same (hT05.block _ hbT.lt hwT)
      have cT5 := hbT5.cell 0
      have hlE := (late_E A.n A.bytes).1
      have HT := reach_any (s := stE A.n A.bytes) hS5 hlE.ok.rc (ri_E hS5.n2 A.bytes) hlE.lt (by omega)
      gi_wp2_with fail
      refine ⟨trivial, (callsIn_wide.2 HT).mono ?_⟩
      clear HT cT5 hS5
      rintro e W6 ⟨rfl, G6, hS6, hT6⟩
      have hwD6 := hT6.who _ hDl5 hwD5
      have hdef6 := (hT6.block _ hDl5 hwD5).trans hdef5
      have hDl6 := (Array.getElem?_eq_some_iff.1 hdef6).1
      have hT06 := hT05.trans hT6
      have hbT6 := hbT.same (hT06.block _ hbT.lt hwT)
      have cT6 := hbT6.cell 0
      have hlF := late_F A.n A.bytes
      have HT := deep_any (s := stF A.n A.bytes) hS6 hlF.ok.rc (fun k => by have := hlF.len k; omega) (by omega)
      gi_wp2_with fail
      refine ⟨trivial, (callsIn_wide.2 HT).mono ?_⟩
      clear HT cT6 hS6
      rintro e W7 ⟨⟨v7, rfl⟩, G7, hS7, hT7⟩
      have hwD7 := hT7.who _ hDl6 hwD6
      have hdef7 := (hT7.block _ hDl6 hwD6).trans hdef6
      have hDl7 := (Array.getElem?_eq_some_iff.1 hdef7).1
      have hT07 := hT06.trans hT7
      have hbT7 := hbT.same (hT07.block _ hbT.lt hwT)
      have cT7 := hbT7.cell 0
      have hlG := late_G A.n A.bytes
      have HT := ends_any (s := stG A.n A.bytes) hS7 hlG.ok.rc hlG.lt (by omega)
      gi_wp2_with fail
      refine ⟨trivial, (callsIn_wide.2 HT).mono ?_⟩
      clear HT cT7 hS7
      rintro e W8 ⟨⟨v8, rfl⟩, G8, hS8, hT8⟩
      change Sim _ _ _ _ (stH A.n A.bytes) at hS8
      have hwD8 := hT8.who _ hDl7 hwD7
      have hdef8 := (hT8.block _ hDl7 hwD7).trans hdef7
      have hT08 := hT07.trans hT8
      have hbT8 := hbT.same (hT08.block _ hbT.lt hwT)
      have cT8 := hbT8.cell 0
      have hbL8 := hbL.same (hT08.block _ hbL.lt hwL)
      have hwL8 := hT08.who _ hbL.lt hwL
      have cL8 := hbL8.cell 0
      have fL8 := hbL8.free 0
      obtain ⟨p0, p1, p2, p3, p4, p5, p6⟩ := chk_cells hS8
      have hfnd := hS8.fnd (by decide)
      have hwF := hS8.wFnd
      rw [hAB] at hfnd
      have hdef8 := Lib.hid hdef8
      have hbL8 := Lib.hid hbL8
      have hBel := Lib.hid (show Below w.heap.size w W8 from ⟨hT08.os.trans rV.os, hT08.tape.trans rV.tape, hT08.output.trans rV.output, Nat.le_trans rV.size hT08.size, fun b hb => (hT08.block b (Nat.lt_of_lt_of_le hb rV.size) (hlow b hb)).trans (rV.block b hb)⟩)
      obtain ⟨ao8, cap8, hF8, _⟩ := own_shape hfnd
      rw [hF8] at p6
      have hnF : ∀ b, G8.who b = .other → (Value.slice ao8 (stH A.n A.bytes).found.length cap8).ownBlock ≠ some b := fun b hb e => by
        have := hwF b (by rw [hF8]; exact e)
        rw [hb] at this
        cases this
      have hnL := hnF _ hwL8
      have hnD := hnF _ hwD8
      have hDw : D ≠ w.heap.size := by have := hbL.lt; have := hT02.size; omega
      have hown8 := Lib.hid (show W8.ownsRow w.heap.size 34 4 (.slice ao8 (stH A.n A.bytes).found.length cap8) (stH A.n A.bytes).found.length (fndsV (stH A.n A.bytes).found) by rw [← hF8]; exact hfnd)
      clear p0 p1 p2 p3 p4 p5 hfnd hF8
      generalize (stH A.n A.bytes).found = fs at *
      gi_wp2_with fail
      have hd9 : (W8.setCell ⟨w.heap.size, 0, none⟩ (.slice ao8 fs.length cap8)).heap[D]? = some (.deferred (some [])) := (setCell_heap _ _ _ _ _ hDw).trans hdef8.out
      have hL9 : Blk ((W8.setCell ⟨w.heap.size, 0, none⟩ (.slice ao8 fs.length cap8)).putObj D (.deferred none)) w.heap.size #[.slice ao8 fs.length cap8] 32 := (hbL8.out.setAt 0 _).same (World.putObj_heap_other hDw.symm)
      refine ⟨by simp, .inl ⟨D, _, rfl, run_takeDeferred hd9, leave_image rfl (hL9.cell 0) ⟨?_, _, rfl, ?_⟩⟩⟩
      · have h1 := hBel.out.setCell (p := ⟨w.heap.size, 0, none⟩) (Nat.le_refl _) (.slice ao8 fs.length cap8)
        have hg := grownBy_putObj' (W8.setCell ⟨w.heap.size, 0, none⟩ (.slice ao8 fs.length cap8)) D (.deferred none)
        have hD2 : w.heap.size ≤ D := by have := hbL.lt; have := hT02.size; omega
        exact h1.grown hg h1.size (fun k hk => by cases hk; exact hD2)
      · rw [hPi.out]
        refine own_same (own_same hown8.out (fun b hb => setCell_heap _ _ _ _ _ (fun e => hnL (by rw [← e]; exact hb)))) (fun b hb => World.putObj_heap_other (fun e => hnD (by rw [← e]; exact hb)))
end Ck
end Go.Proofs.YtegplehbcdeeoaaGreatDoor
/- An image's findings as the laws' functions take them. -/
namespace Go.Proofs.YtegplehbcdeeoaaGreatDoor
open Go.RowKit

namespace Ck
open Pk Pw
/-- A finding, its numbers whole. -/
def Fnd.fi (f : Fnd) : Fi := ⟨f.kind, f.inode, f.block, f.name⟩
theorem fndsV_get : ∀ {l : List Fnd} {i : Nat} {f : Fnd}, l[i]? = some f → (fndsV l)[i * 4]? = some (.int .i64 f.kind) ∧ (fndsV l)[i * 4 + 1]? = some (.int .i64 f.inode) ∧ (fndsV l)[i * 4 + 2]? = some (.int .i64 f.block) ∧ (fndsV l)[i * 4 + 3]? = some (.string (mk f.name))
  | [], _, _, h => by simp at h
  | x :: l, 0, f, h => by
    obtain rfl : x = f := by simpa using h
    exact ⟨rfl, rfl, rfl, rfl⟩
  | x :: l, i + 1, f, h => by
    have h2 := fndsV_get (l := l) (i := i) (f := f) (by simpa using h)
    have e : ∀ k, (fndsV (x :: l))[k + 4]? = (fndsV l)[k]? := fun k => rfl
    rw [show (i + 1) * 4 = i * 4 + 4 by omega, e, show i * 4 + 4 + 1 = (i * 4 + 1) + 4 by omega, e, show i * 4 + 4 + 2 = (i * 4 + 2) + 4 by omega, e, show i * 4 + 4 + 3 = (i * 4 + 3) + 4 by omega, e]
    exact h2
/-- Findings in a row that is owned, seen. -/
theorem fat_own {w : World} {base : Nat} {e : TypeId} {v : Value} {l : List Fnd} (h : w.ownsRow base e 4 v l.length (fndsV l)) : ∃ ao cap, v = .slice ao l.length cap ∧ FAt w ao (l.map Fnd.fi) ∧ (∀ g o, ao = some ⟨g, o, none⟩ → base ≤ g ∧ g < w.heap.size) ∧ l.length ≤ cap ∧ cap ≤ 9223372036854775807 ∧ ∀ a, ao = some a → ∃ b, a = ⟨b, 0, none⟩ := by
  rcases h.2 with ⟨rfl, hz⟩ | ⟨g, cap, cur, rfl, hb, hh, hc, hm, hsz, ht⟩
  · have hl : l = [] := List.eq_nil_of_length_eq_zero hz
    subst hl
    exact ⟨none, 0, rfl, (fun i f hf => by simp at hf), (fun g o e => by simp at e), Nat.le_refl _, by omega, fun g e => by simp at e⟩
  · refine ⟨_, cap, rfl, fun i f hf => ?_, fun g2 o2 e2 => ?_, hc, by unfold maxLen at hm; omega, fun g2 e2 => by cases e2; exact ⟨_, rfl⟩⟩
    · rw [List.getElem?_map] at hf
      obtain ⟨x, hx, rfl⟩ := Option.map_eq_some_iff.1 hf
      obtain ⟨e0, e1, e2, e3⟩ := fndsV_get hx
      have hB : Blk w g cur e := hh
      have hil : i < l.length := (List.getElem?_eq_some_iff.1 hx).1
      have hat : ∀ k, k < l.length * 4 → w.cell? ⟨g, 0 + k, none⟩ = (fndsV l)[k]? := fun k hk => by
        rw [Nat.zero_add, hB.cell, ← ht, List.getElem?_take_of_lt hk, Array.getElem?_toList]
      exact ⟨g, 0, rfl, (hat _ (by omega)).trans e0, (hat (i * 4 + 1) (by omega)).trans e1, (hat (i * 4 + 2) (by omega)).trans e2, (hat (i * 4 + 3) (by omega)).trans e3⟩
    · cases e2
      exact ⟨hb, (Array.getElem?_eq_some_iff.1 hh).1⟩
/-- An image's findings, seen. -/
theorem image_fi {l : B} {fs : List Fnd} (hf : imageP l = fs) (ll g o cap : Nat) (hll : l.length = ll) (hcap : ll ≤ cap ∧ cap ≤ 9223372036854775807) (w : World) (hg : g < w.heap.size) (hs : SeenAt w g o l) (hw : KVars w) :
    Calls Tryz.prog 16 #[.slice (some ⟨g, o, none⟩) ll cap] w fun e W' => Below w.heap.size w W' ∧ ∃ ao cap2, e = .returned (.slice ao fs.length cap2) ∧ FAt W' ao (fs.map Fnd.fi) ∧ (∀ g o, ao = some ⟨g, o, none⟩ → w.heap.size ≤ g ∧ g < W'.heap.size) ∧ fs.length ≤ cap2 ∧ cap2 ≤ 9223372036854775807 ∧ ∀ a, ao = some a → ∃ b, a = ⟨b, 0, none⟩ := by
  refine (image_any l ll hll (some ⟨g, o, none⟩) cap hcap w (fun _ => ⟨g, o, rfl, hg, hs⟩) hw).mono ?_
  rintro e W' ⟨hb, v, rfl, ho⟩
  rw [hf] at ho
  obtain ⟨ao, cap2, rfl, h⟩ := fat_own ho
  exact ⟨hb, ao, cap2, rfl, h⟩
theorem SeenAt.of_front {w : World} {b : Nat} {l : B} {ext : Array Value} {t : TypeId} (h : Blk w b (bytesC l ++ ext) t) : SeenAt w b 0 l := fun j c hj => by
  have hjl : j < l.length := (List.getElem?_eq_some_iff.1 hj).1
  rw [Nat.zero_add, h.cell, Array.getElem?_append_left (by rw [bytesC_size]; exact hjl), bytesC_get, hj]
  rfl
theorem SeenAt.tail {w : World} {g o : Nat} {l : B} (h : SeenAt w g o l) (k : Nat) : SeenAt w g (o + k) (l.drop k) := fun j c hj => by
  rw [List.getElem?_drop] at hj
  rw [Nat.add_assoc]
  exact h _ _ hj
end Ck
end Go.Proofs.YtegplehbcdeeoaaGreatDoor
