/- The walks of the law's own copies: ref, lent. -/
import Derived.Test.YtjloonijnbfhhaaDoorPWRef
namespace Go.Proofs.YtjloonijnbfhhaaDoor
open Go.RowKit Go.Maps

namespace Pw
open Pk
/-- The item behind lent ones. -/
abbrev markI : PItem := ⟨[109, 97, 114, 107], 0, 0, [], [], 0⟩
/-- Lent items. -/
def Lent (w0 W : World) (v : Value) (l : List PItem) : Prop :=
  ∃ g cap sls, v = .slice (some ⟨g, 0, none⟩) l.length cap ∧ l.length + 1 ≤ cap ∧ W.ownsRow w0.heap.size 57 6 (.slice (some ⟨g, 0, none⟩) (l.length + 1) cap) (l.length + 1) (rowC l sls ++ itemC markI (.slice none 0 0)) ∧ l.length = sls.length ∧
    (∀ (j : Nat) x s, l[j]? = some x → sls[j]? = some s → IntsOwn W w0.heap.size [-77] s x.pieces) ∧ Below w0.heap.size w0 W
set_option maxRecDepth 100000 in
set_option maxHeartbeats 2000000 in
theorem lent_any (l : List PItem) (ao : Option Addr) (cap : Nat) (w : World) (hI : ItemsAt w ao l) (hs : ∀ x ∈ l, Sane x) (hl : l.length ≤ 2000000) :
    Calls Tryd.prog 24 #[.slice ao l.length cap] w fun e w' => ∃ v, e = .returned v ∧ Lent w w' v l := by
  obtain ⟨i0, hi0, hz0, hz1, hz2⟩ := intInfo
  obtain ⟨j0, hj0, hy0, hy1, hy2⟩ := itemInfo
  go_enter Tryd.func24, Tryd.ntmps24
  go_wp2
  go_loopw [3, 9] (fun mv i wr => ∃ k : Nat, k ≤ l.length ∧ i = .int .i64 k ∧ ∃ sls, ItemsOwn w wr 57 [-77] mv (l.take k) sls) (fun _ i _ => l.length - (intOf i).toNat)
  case atStart => exact ⟨0, Nat.zero_le _, rfl, [], ⟨rfl, World.ownsRow_nil _ _ _ _, fun j x s h => by simp at h, Below.refl _ _⟩⟩
  case round =>
    obtain ⟨k, hk, rfl, sls, hM⟩ := hrel
    by_cases hlt : k < l.length
    · obtain ⟨x, hx⟩ : ∃ x, l[k]? = some x := ⟨_, List.getElem?_eq_getElem hlt⟩
      have hsx := hs x (List.mem_of_getElem? hx)
      have hki : (k : Int) < (l.length : Int) := by omega
      have HTk := Lib.hid (take_snoc l k x hx)
      have hlk : (l.take k).length = k := by rw [List.length_take]; omega
      obtain ⟨g, o, sl, rfl, hgw, hpx, hcw⟩ := hI k x hx
      have hcx := fun i c hi => (hM.below.cell (p := ⟨g, o + (k * 6 + i), none⟩) hgw).trans (hcw i c hi)
      have d0 : wr.cell? ⟨g, o + k * 6, none⟩ = some (.string (mk x.path)) := hcx 0 _ rfl
      have d1 : wr.cell? ⟨g, o + k * 6 + 1, none⟩ = some (.int .i64 x.kind) := hcx 1 _ rfl
      have d2 : wr.cell? ⟨g, o + k * 6 + 2, none⟩ = some (.int .i64 x.size) := hcx 2 _ rfl
      have d3 : wr.cell? ⟨g, o + k * 6 + 3, none⟩ = some (.string (mk x.data)) := hcx 3 _ rfl
      have d4 : wr.cell? ⟨g, o + k * 6 + 4, none⟩ = some sl := hcx 4 _ rfl
      have d5 : wr.cell? ⟨g, o + k * 6 + 5, none⟩ = some (.int .i64 x.same) := hcx 5 _ rfl
      have hpr := hpx.below hM.below
      obtain ⟨sa, sc, rfl, hnil, hcap, hmax, hcell⟩ := hpr
      have hB8 := BoxAt.new wr x (.slice sa x.pieces.length sc) 57
      have hbW : Below wr.heap.size wr (wr.alloc (.cells #[.string (mk x.path), .int .i64 x.kind, .int .i64 x.size, .string (mk x.data), .slice sa x.pieces.length sc, .int .i64 x.same] 57)) := (Below.refl _ _).alloc (Nat.le_refl _) _
      have hfz : (wr.alloc (.cells #[.string (mk x.path), .int .i64 x.kind, .int .i64 x.size, .string (mk x.data), .slice sa x.pieces.length sc, .int .i64 x.same] 57)).frozen? ⟨wr.heap.size, 4, none⟩ = false := by simp only [World.frozen?]; rw [heap_alloc_new]; rfl
      have hcl1 : ∀ ad, sa = some ad → ∀ j u, (intV x.pieces)[j]? = some u → (wr.alloc (.cells #[.string (mk x.path), .int .i64 x.kind, .int .i64 x.size, .string (mk x.data), .slice sa x.pieces.length sc, .int .i64 x.same] 57)).cell? (ad.add j) = some u := by
        intro ad had j u hu
        unfold intV at hu
        rw [List.getElem?_map, Option.map_eq_some_iff] at hu
        obtain ⟨p, hp, rfl⟩ := hu
        obtain ⟨g2, o2, e2, hg2, hc2⟩ := hcell j p hp
        rw [had] at e2
        cases e2
        rw [Addr.add_lit]
        exact (((Below.refl wr.heap.size wr).alloc (Nat.le_refl _) (.cells #[.string (mk x.path), .int .i64 x.kind, .int .i64 x.size, .string (mk x.data), .slice sa x.pieces.length sc, .int .i64 x.same] 57)).cell (p := ⟨g2, o2 + j, none⟩) hg2).trans hc2
      have hmany := hsx.many
      have HZW := Lib.hid (show (wr.alloc (.cells #[.string (mk x.path), .int .i64 x.kind, .int .i64 x.size, .string (mk x.data), .slice sa x.pieces.length sc, .int .i64 x.same] 57)).heap.size = wr.heap.size + 1 by simp)
      clear hcx hcw hx hcell hgw hpx
      go_upto_region 6 with fail
      generalize (wr.alloc (.cells #[.string (mk x.path), .int .i64 x.kind, .int .i64 x.size, .string (mk x.data), .slice sa x.pieces.length sc, .int .i64 x.same] 57)) = W at *
      have b0 := hB8 0 _ rfl
      have b1 := hB8 1 _ rfl
      have b2 := hB8 2 _ rfl
      have b3 := hB8 3 _ rfl
      have b4 := hB8 4 _ rfl
      have b5 := hB8 5 _ rfl
      have hbase := (show w.heap.size ≤ W.heap.size by have := hM.below.size; have := hbW.size; omega)
      have hltW : wr.heap.size < W.heap.size := by rw [HZW.out]; omega
      go_upto_region 7 with (at_builtin; refine wpList_append_any _ rfl (.tmp 13) (.tmp 15) 55 rfl w.heap.size 3 i0 (.int .i64 0) 1 8 Tryd.underlying55 hi0 hz0 hz1 hz2 rfl (by decide) _ 0 [] rfl (World.ownsRow_nil _ _ _ _) sa x.pieces.length sc (intV x.pieces) rfl hnil (by rw [intV_len, Nat.mul_one]) hcl1 (intV_one _) (by unfold maxLen; omega) (by omega) hbase ?_; intro v2 w2 ho2 hg2 hat2)
      have hb2 := grown_none hg2 rfl
      simp only [Nat.zero_add, List.nil_append] at ho2
      have hbs2 : w.heap.size ≤ w2.heap.size := Nat.le_trans hbase hb2.size
      have hat2' : ∀ j, v2.ownBlock = some j → wr.heap.size < j := by
        intro j hj
        rcases hat2 with e | e
        · rw [e] at hj; cases hj
        · rw [e] at hj; cases hj; exact hltW
      have hbw2 : Below wr.heap.size wr w2 := hbW.trans (hb2.mono hbW.size)
      clear hat2 hg2 hcl1
      go_upto_region 8 with (at_builtin; refine wpList_append_own_at _ rfl (.tmp 17) (.tmp 18) 55 rfl w.heap.size 3 i0 (.int .i64 0) 1 8 Tryd.underlying55 hi0 hz0 hz1 hz2 rfl (by decide) v2 _ _ rfl (ho2.alloc _) ⟨w2.heap.size, 0, none⟩ 1 1 [.int .i64 (-77)] rfl rfl (news_new _ _ _) (intV_one [-77]) (by unfold maxLen; omega) (by omega) (by rw [World.size_alloc]; omega) ?_; intro v3 w3 ho3 hg3 _ hat3)
      have hw2z : wr.heap.size < w2.heap.size := Nat.lt_of_lt_of_le hltW hb2.size
      have hbw3 : Below wr.heap.size wr w3 := (hbw2.alloc hbw2.size _).grown hg3 (by rw [World.size_alloc]; omega) (fun j e => Nat.le_of_lt (hat2' j e))
      have hbx3 : w3.heap[wr.heap.size]? = W.heap[wr.heap.size]? :=
        ((hg3.block wr.heap.size (by rw [World.size_alloc]; omega) (fun e => absurd (hat2' _ e.symm) (Nat.lt_irrefl _))).trans (heap_alloc_old w2 _ hw2z)).trans (hb2.block _ hltW)
      have c0 := (World.cell?_of_block (a := ⟨wr.heap.size, 0, none⟩) hbx3).trans b0
      have c1 := (World.cell?_of_block (a := ⟨wr.heap.size, 1, none⟩) hbx3).trans b1
      have c2 := (World.cell?_of_block (a := ⟨wr.heap.size, 2, none⟩) hbx3).trans b2
      have c3 := (World.cell?_of_block (a := ⟨wr.heap.size, 3, none⟩) hbx3).trans b3
      have c4 := (World.cell?_of_block (a := ⟨wr.heap.size, 4, none⟩) hbx3).trans b4
      have c5 := (World.cell?_of_block (a := ⟨wr.heap.size, 5, none⟩) hbx3).trans b5
      have cf := (World.frozen?_of_block (a := ⟨wr.heap.size, 4, none⟩) hbx3).trans hfz
      obtain ⟨g3, cp3, rfl, _, hg3l, hn3, hm3, _, _⟩ := own_at ho3 (by omega)
      have hg3b : wr.heap.size < g3 := by
        rcases hat3 with e | e
        · exact hat2' g3 e.symm
        · have : g3 = _ := Option.some.inj e
          rw [World.size_alloc] at this
          omega
      have hni : (x.pieces.length : Int) ≤ (cp3 : Int) := by omega
      clear hat3 hat2' hg3 ho2 hbx3 hb2 hbW hfz
      go_upto_region 9 with fail
      have hbw4 : Below wr.heap.size wr (w3.setCell ⟨wr.heap.size, 4, none⟩ (.slice (some ⟨g3, 0, none⟩) x.pieces.length cp3)) := hbw3.setCell (p := ⟨wr.heap.size, 4, none⟩) (Nat.le_refl _) _
      have ho4 : (w3.setCell ⟨wr.heap.size, 4, none⟩ (.slice (some ⟨g3, 0, none⟩) x.pieces.length cp3)).ownsRow w.heap.size 3 1 (.slice (some ⟨g3, 0, none⟩) (x.pieces.length + 1) cp3) (x.pieces ++ [-77]).length (intV (x.pieces ++ [-77])) := by
        have h := ho3.kept (row := some wr.heap.size) (w' := w3.setCell ⟨wr.heap.size, 4, none⟩ (.slice (some ⟨g3, 0, none⟩) x.pieces.length cp3)) ⟨rfl, rfl, rfl, by simp, fun k _ hk => Below.heap_setCell _ _ _ k (fun e => hk (by rw [e]))⟩ (.inr (fun e => by have : g3 = wr.heap.size := Option.some.inj e; omega))
        rw [List.length_append, List.length_singleton, show intV (x.pieces ++ [-77]) = intV x.pieces ++ [.int .i64 (-77)] by simp [intV]]
        exact h
      have m0 : (w3.setCell ⟨wr.heap.size, 4, none⟩ (.slice (some ⟨g3, 0, none⟩) x.pieces.length cp3)).cell? ⟨wr.heap.size, 0, none⟩ = _ := (World.cell?_setCell_other _ _ _ _ (by simp)).trans c0
      have m1 : (w3.setCell ⟨wr.heap.size, 4, none⟩ (.slice (some ⟨g3, 0, none⟩) x.pieces.length cp3)).cell? ⟨wr.heap.size, 1, none⟩ = _ := (World.cell?_setCell_other _ _ _ _ (by simp)).trans c1
      have m2 : (w3.setCell ⟨wr.heap.size, 4, none⟩ (.slice (some ⟨g3, 0, none⟩) x.pieces.length cp3)).cell? ⟨wr.heap.size, 2, none⟩ = _ := (World.cell?_setCell_other _ _ _ _ (by simp)).trans c2
      have m3 : (w3.setCell ⟨wr.heap.size, 4, none⟩ (.slice (some ⟨g3, 0, none⟩) x.pieces.length cp3)).cell? ⟨wr.heap.size, 3, none⟩ = _ := (World.cell?_setCell_other _ _ _ _ (by simp)).trans c3
      have m4 : (w3.setCell ⟨wr.heap.size, 4, none⟩ (.slice (some ⟨g3, 0, none⟩) x.pieces.length cp3)).cell? ⟨wr.heap.size, 4, none⟩ = _ := World.cell?_setCell_same _ _ _ c4
      have m5 : (w3.setCell ⟨wr.heap.size, 4, none⟩ (.slice (some ⟨g3, 0, none⟩) x.pieces.length cp3)).cell? ⟨wr.heap.size, 5, none⟩ = _ := (World.cell?_setCell_other _ _ _ _ (by simp)).trans c5
      generalize (w3.setCell ⟨wr.heap.size, 4, none⟩ (.slice (some ⟨g3, 0, none⟩) x.pieces.length cp3)) = w4 at *
      have hM4 := (hM.grown hbw4).grown ((Below.refl _ _).alloc (Nat.le_refl _) (.cells #[.string (mk x.path), .int .i64 x.kind, .int .i64 x.size, .string (mk x.data), .slice (some ⟨g3, 0, none⟩) x.pieces.length cp3, .int .i64 x.same] 57))
      have hS4 := (show IntsOwn w4 w.heap.size [-77] (.slice (some ⟨g3, 0, none⟩) x.pieces.length cp3) x.pieces from ⟨_, rfl, ho4⟩).grown ((Below.refl _ _).alloc (Nat.le_refl _) (.cells #[.string (mk x.path), .int .i64 x.kind, .int .i64 x.size, .string (mk x.data), .slice (some ⟨g3, 0, none⟩) x.pieces.length cp3, .int .i64 x.same] 57)) rfl
      have hbs4 := hM4.below.size
      clear hbw4 ho4 ho3 c0 c1 c2 c3 c4 c5 b0 b1 b2 b3 b4 b5 hM hbw3 cf
      go_wp2_with (first
        | (refine wpList_slice_item rfl 27 rfl rfl ?_)
        | (at_builtin; refine wpList_append_own_at _ rfl (.tmp 26) (.tmp 28) 47 rfl w.heap.size 57 j0 zItem 6 80 Tryd.underlying47 hj0 hy0 hy1 hy2 rfl (by decide) _ _ _ rfl hM4.own ⟨w4.heap.size, 0, none⟩ 1 1 (itemC x (.slice (some ⟨g3, 0, none⟩) x.pieces.length cp3)) rfl (by rfl) (news_new _ (itemC x (.slice (some ⟨g3, 0, none⟩) x.pieces.length cp3)) _) (itemC_one _ _ _ _) (by rw [hlk]; unfold maxLen; omega) (by rw [hlk]; omega) hbs4 ?_; intro v5 w5 ho5 hg5 _ _))
      go_roundw
      case rel => exact ⟨k + 1, by omega, by go_num, _, by rw [HTk.out]; exact hM4.snoc (by decide) hS4 ho5 hg5⟩
      case measure => simp [intOf]; omega
    · obtain rfl : k = l.length := by omega
      rw [List.take_length] at hM
      have hM3 := hM.grown ((Below.refl _ _).alloc (Nat.le_refl _) (.cells (itemC markI (.slice none 0 0)).toArray 57))
      have hbs3 := hM3.below.size
      go_wp2_with (first
        | (refine wpList_slice_item rfl 32 rfl rfl ?_)
        | (at_builtin; refine wpList_append_own_at _ rfl (.tmp 31) (.tmp 33) 47 rfl w.heap.size 57 j0 zItem 6 80 Tryd.underlying47 hj0 hy0 hy1 hy2 rfl (by decide) _ _ _ rfl hM3.own ⟨wr.heap.size, 0, none⟩ 1 1 (itemC markI (.slice none 0 0)) rfl (by rfl) (news_new _ (itemC markI (.slice none 0 0)) _) (itemC_one _ _ _ _) (by unfold maxLen; omega) (by omega) hbs3 ?_; intro v5 w5 ho5 hg5 _ _; obtain ⟨g5, c5, rfl, _, _, hn5, hm5, _, _⟩ := own_at ho5 (by omega); have hni : (l.length : Int) ≤ (c5 : Int) := by omega))
      go_ret
      exact ⟨_, rfl, g5, c5, sls, rfl, hn5, ho5, hM3.len, fun j x s h1 h2 => (hM3.ints j x s h1 h2).kept hg5 rfl hM3.own (by decide), hM3.below.grown hg5 hbs3 fun j e => (hM3.own.lt j e).1⟩
end Pw
end Go.Proofs.YtjloonijnbfhhaaDoor
