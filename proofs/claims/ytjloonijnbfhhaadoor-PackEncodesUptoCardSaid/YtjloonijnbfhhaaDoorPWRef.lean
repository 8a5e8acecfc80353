/- The walks of the law's own copies: ref, lent. -/
import Derived.Test.YtjloonijnbfhhaaDoorPRows
import Derived.Test.YtjloonijnbfhhaaDoorPWRight
namespace Go.Proofs.YtjloonijnbfhhaaDoor
open Go.RowKit Go.Maps

namespace Pw
open Pk
theorem info3 {P : Program} {T : TypeId} {z : Value} {n b : Nat} (h : (P.info? T).map (fun i => (i.zero, i.size, i.bytes)) = some (some z, n, b)) : ∃ i, P.info? T = some i ∧ i.zero = some z ∧ i.size = n ∧ i.bytes = b := by
  obtain ⟨i, hi, he⟩ := Option.map_eq_some_iff.1 h
  simp only [Prod.mk.injEq] at he
  exact ⟨i, hi, he.1, he.2.1, he.2.2⟩
abbrev zItem : Value := .agg #[.string (mk []), .int .i64 0, .int .i64 0, .string (mk []), .slice none 0 0, .int .i64 0]
theorem intInfo : ∃ i0, Tryd.prog.info? 3 = some i0 ∧ i0.zero = some (.int .i64 0) ∧ i0.size = 1 ∧ i0.bytes = 8 := info3 (by kernel_rfl)
theorem itemInfo : ∃ i0, Tryd.prog.info? 57 = some i0 ∧ i0.zero = some zItem ∧ i0.size = 6 ∧ i0.bytes = 80 := info3 (by kernel_rfl)
theorem ditemInfo : ∃ i0, Tryd.prog.info? 90 = some i0 ∧ i0.zero = some zItem ∧ i0.size = 6 ∧ i0.bytes = 80 := info3 (by kernel_rfl)
/-- A slice's form. -/
theorem own_form {w : World} {base size n : Nat} {e : TypeId} {v : Value} {xs : List Value} (h : w.ownsRow base e size v n xs) : ∃ a c, v = .slice a n c := by
  rcases h.2 with ⟨rfl, rfl⟩ | ⟨g, cap, _, rfl, _⟩
  · exact ⟨none, 0, rfl⟩
  · exact ⟨_, cap, rfl⟩
theorem grown_none {w w' : World} {row : Option Nat} (hg : w.grownBy w' row) (h : row = none) : Below w.heap.size w w' := by
  subst h
  exact ⟨hg.os, hg.tape, hg.output, hg.size, fun i hi => hg.block i hi (by simp)⟩
theorem intV_one (ps : List Int) : ∀ u ∈ intV ps, u.oneCell' = true := by
  intro u hu
  obtain ⟨p, _, rfl⟩ := List.mem_map.1 hu
  rfl
theorem itemC_one (x : PItem) (a : Option Addr) (n c : Nat) : ∀ u ∈ itemC x (.slice a n c), u.oneCell' = true := by
  intro u hu
  simp only [itemC, List.mem_cons, List.not_mem_nil, or_false] at hu
  rcases hu with rfl | rfl | rfl | rfl | rfl | rfl <;> rfl
/-- One struct in a row of its own. -/
theorem wpList_slice_ditem {w : World} {v0 v1 v2 v3 v4 v5 : Value} {ops : Array Oper} {rest : List Oper} {o : Oper} {a : Act} {Q : Exit → Act → World → Prop} (hg : o.guard = none) (s0 : Nat) (hop : o.op = Op.buildSlice 50 1 #[(0, .tmp s0)]) (h0 : a.eval (.tmp s0) = .agg #[v0, v1, v2, v3, v4, v5])
    (hK : wpList Tryd.prog ops Q rest (a.put o.dst (.slice (some ⟨w.heap.size, 0, none⟩) 1 1)) (w.alloc (.cells #[v0, v1, v2, v3, v4, v5] 90))) : wpList Tryd.prog ops Q (o :: rest) a w := by
  refine wpList_plain hg fun K' hK' => ?_
  unfold Oper.wp
  simp only [execOp, hop, List.map_toArray, List.map_cons, List.map_nil, h0]
  simp [go_sem]
  exact hK' _ _ hK
theorem wpList_slice_item {w : World} {v0 v1 v2 v3 v4 v5 : Value} {ops : Array Oper} {rest : List Oper} {o : Oper} {a : Act} {Q : Exit → Act → World → Prop} (hg : o.guard = none) (s0 : Nat) (hop : o.op = Op.buildSlice 47 1 #[(0, .tmp s0)]) (h0 : a.eval (.tmp s0) = .agg #[v0, v1, v2, v3, v4, v5])
    (hK : wpList Tryd.prog ops Q rest (a.put o.dst (.slice (some ⟨w.heap.size, 0, none⟩) 1 1)) (w.alloc (.cells #[v0, v1, v2, v3, v4, v5] 57))) : wpList Tryd.prog ops Q (o :: rest) a w := by
  refine wpList_plain hg fun K' hK' => ?_
  unfold Oper.wp
  simp only [execOp, hop, List.map_toArray, List.map_cons, List.map_nil, h0]
  simp [go_sem]
  exact hK' _ _ hK
set_option maxRecDepth 100000 in
set_option maxHeartbeats 2000000 in
theorem ref_any (l : List PItem) (ao : Option Addr) (cap : Nat) (w : World) (hI : ItemsAt w ao l) (hs : ∀ x ∈ l, Sane x) (hl : l.length ≤ 2000000) :
    Calls Tryd.prog 23 #[.slice ao l.length cap] w fun e w' => ∃ v sls, e = .returned v ∧ ItemsOwn w w' 90 [] v l sls := by
  obtain ⟨i0, hi0, hz0, hz1, hz2⟩ := intInfo
  obtain ⟨j0, hj0, hy0, hy1, hy2⟩ := ditemInfo
  go_enter Tryd.func23, Tryd.ntmps23
  go_wp2
  go_loopw [3, 9] (fun mv i wr => ∃ k : Nat, k ≤ l.length ∧ i = .int .i64 k ∧ ∃ sls, ItemsOwn w wr 90 [] mv (l.take k) sls) (fun _ i _ => l.length - (intOf i).toNat)
  case atStart => exact ⟨0, Nat.zero_le _, rfl, [], ⟨rfl, World.ownsRow_nil _ _ _ _, fun j x s h => by simp at h, Below.refl _ _⟩⟩
  case round =>
    obtain ⟨k, hk, rfl, sls, hM⟩ := hrel
    by_cases hlt : k < l.length
    · obtain ⟨x, hx⟩ : ∃ x, l[k]? = some x := ⟨_, List.getElem?_eq_getElem hlt⟩
      have hsx := hs x (List.mem_of_getElem? hx)
      have hki : (k : Int) < (l.length : Int) := by omega
      have HTk := Lib.hid (take_snoc l k x hx)
      have hlk : (l.take k).length = k := by rw [List.length_take]; omega
      obtain ⟨g, o, sl, rfl, hgw, hpx, hcw⟩ := hI k x hx
      have hcx := fun i c hi => (hM.below.cell (p := ⟨g, o + (k * 6 + i), none⟩) hgw).trans (hcw i c hi)
      have d0 : wr.cell? ⟨g, o + k * 6, none⟩ = some (.string (mk x.path)) := hcx 0 _ rfl
      have d1 : wr.cell? ⟨g, o + k * 6 + 1, none⟩ = some (.int .i64 x.kind) := hcx 1 _ rfl
      have d2 : wr.cell? ⟨g, o + k * 6 + 2, none⟩ = some (.int .i64 x.size) := hcx 2 _ rfl
      have d3 : wr.cell? ⟨g, o + k * 6 + 3, none⟩ = some (.string (mk x.data)) := hcx 3 _ rfl
      have d4 : wr.cell? ⟨g, o + k * 6 + 4, none⟩ = some sl := hcx 4 _ rfl
      have d5 : wr.cell? ⟨g, o + k * 6 + 5, none⟩ = some (.int .i64 x.same) := hcx 5 _ rfl
      have hpr := hpx.below hM.below
      obtain ⟨sa, sc, rfl, hnil, hcap, hmax, hcell⟩ := hpr
      have hB8 := BoxAt.new wr x (.slice sa x.pieces.length sc) 57
      have hM1 := hM.grown ((Below.refl _ _).alloc (Nat.le_refl _) (.cells #[.string (mk x.path), .int .i64 x.kind, .int .i64 x.size, .string (mk x.data), .slice sa x.pieces.length sc, .int .i64 x.same] 57))
      have hcl1 : ∀ ad, sa = some ad → ∀ j u, (intV x.pieces)[j]? = some u → (wr.alloc (.cells #[.string (mk x.path), .int .i64 x.kind, .int .i64 x.size, .string (mk x.data), .slice sa x.pieces.length sc, .int .i64 x.same] 57)).cell? (ad.add j) = some u := by
        intro ad had j u hu
        unfold intV at hu
        rw [List.getElem?_map, Option.map_eq_some_iff] at hu
        obtain ⟨p, hp, rfl⟩ := hu
        obtain ⟨g2, o2, e2, hg2, hc2⟩ := hcell j p hp
        rw [had] at e2
        cases e2
        rw [Addr.add_lit]
        exact (((Below.refl wr.heap.size wr).alloc (Nat.le_refl _) (.cells #[.string (mk x.path), .int .i64 x.kind, .int .i64 x.size, .string (mk x.data), .slice sa x.pieces.length sc, .int .i64 x.same] 57)).cell (p := ⟨g2, o2 + j, none⟩) hg2).trans hc2
      have hmany := hsx.many
      have HZW := Lib.hid (show (wr.alloc (.cells #[.string (mk x.path), .int .i64 x.kind, .int .i64 x.size, .string (mk x.data), .slice sa x.pieces.length sc, .int .i64 x.same] 57)).heap.size = wr.heap.size + 1 by simp)
      clear hcx hcw hx hcell hM hgw hpx
      go_upto_region 6 with fail
      generalize (wr.alloc (.cells #[.string (mk x.path), .int .i64 x.kind, .int .i64 x.size, .string (mk x.data), .slice sa x.pieces.length sc, .int .i64 x.same] 57)) = W at *
      have b0 := hB8 0 _ rfl
      have b1 := hB8 1 _ rfl
      have b2 := hB8 2 _ rfl
      have b3 := hB8 3 _ rfl
      have b4 := hB8 4 _ rfl
      have b5 := hB8 5 _ rfl
      have hbase := hM1.below.size
      have hltW : wr.heap.size < W.heap.size := by rw [HZW.out]; omega
      go_wp2_with (first
        | (at_builtin; refine wpList_append_any _ rfl (.tmp 13) (.tmp 15) 55 rfl w.heap.size 3 i0 (.int .i64 0) 1 8 Tryd.underlying55 hi0 hz0 hz1 hz2 rfl (by decide) _ 0 [] rfl (World.ownsRow_nil _ _ _ _) sa x.pieces.length sc (intV x.pieces) rfl hnil (by rw [intV_len, Nat.mul_one]) hcl1 (intV_one _) (by unfold maxLen; omega) (by omega) hbase ?_; intro v2 w2 ho2 hg2 _; have hb2 := grown_none hg2 rfl; simp only [Nat.zero_add, List.nil_append] at ho2; obtain ⟨va, vc, rfl⟩ := own_form ho2; have q0 := (hb2.cell (p := ⟨wr.heap.size, 0, none⟩) hltW).trans b0; have q1 := (hb2.cell (p := ⟨wr.heap.size, 1, none⟩) hltW).trans b1; have q2 := (hb2.cell (p := ⟨wr.heap.size, 2, none⟩) hltW).trans b2; have q3 := (hb2.cell (p := ⟨wr.heap.size, 3, none⟩) hltW).trans b3; have q5 := (hb2.cell (p := ⟨wr.heap.size, 5, none⟩) hltW).trans b5; have hM2 := hM1.grown hb2; have hM3 := hM2.grown ((Below.refl _ _).alloc (Nat.le_refl _) (.cells #[.string (mk x.path), .int .i64 x.kind, .int .i64 x.size, .string (mk x.data), .slice va x.pieces.length vc, .int .i64 x.same] 90)); have hS := (show IntsOwn w2 w.heap.size [] (.slice va x.pieces.length vc) x.pieces from ⟨_, rfl, by rw [List.append_nil]; exact ho2⟩); have hS3 := hS.grown ((Below.refl _ _).alloc (Nat.le_refl _) (.cells #[.string (mk x.path), .int .i64 x.kind, .int .i64 x.size, .string (mk x.data), .slice va x.pieces.length vc, .int .i64 x.same] 90)) rfl; have hbs3 := hM3.below.size)
        | (refine wpList_slice_ditem rfl 29 rfl rfl ?_)
        | (at_builtin; refine wpList_append_any _ rfl (.tmp 17) (.tmp 30) 50 rfl w.heap.size 90 j0 zItem 6 80 Tryd.underlying50 hj0 hy0 hy1 hy2 rfl (by decide) _ _ _ rfl hM3.own (some ⟨w2.heap.size, 0, none⟩) 1 1 (itemC x (.slice va x.pieces.length vc)) rfl (by simp) (by rfl) (fun ad e => by cases e; exact news_new _ (itemC x (.slice va x.pieces.length vc)) _) (itemC_one _ _ _ _) (by rw [hlk]; unfold maxLen; omega) (by rw [hlk]; omega) hbs3 ?_; intro v4 w4 ho4 hg4 _))
      go_roundw
      case rel => exact ⟨k + 1, by omega, by go_num, _, by rw [HTk.out]; exact hM3.snoc (by decide) hS3 ho4 hg4⟩
      case measure => simp [intOf]; omega
    · obtain rfl : k = l.length := by omega
      rw [List.take_length] at hM
      go_wp2
      go_ret
      exact ⟨_, _, rfl, hM⟩
end Pw
end Go.Proofs.YtjloonijnbfhhaaDoor
