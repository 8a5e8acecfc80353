/- The walks of Takes, the program's and the document's: both count the blocks of a list alike. -/
import Derived.Test.YtjloonijnbfhhaaTakesWith
import Derived.Maps.OwnOps
namespace Go.Proofs.Ytjloonijnbfhhaa
open Go.RowKit Go.Maps Go.WideShapes

namespace Tk
theorem lawI : Keyed Try.prog 3 := int_keyed Try.underlying3
theorem zeroI (w : World) : (zeroValue 3).run Try.prog w = .ok (.int .i64 0) w := by kernel_rfl

/-- What Takes answers. -/
def tkN (l : List Int) : Int := if far l then 0 else count l
def tkE (l : List Int) : Int := if far l then 101 else 0

theorem far_snoc (l : List Int) (k : Int) : far (l ++ [k]) = (far l || decide (k < 0 ∨ 16521 < k)) := by simp [far]
theorem far_of_take {l : List Int} {j : Nat} (h : j < l.length) (hf : l.getD j 0 < 0 ∨ 16521 < l.getD j 0) : far l = true := by
  simp only [List.getD_eq_getElem?_getD, List.getElem?_eq_getElem h, Option.getD_some] at hf
  exact List.any_eq_true.2 ⟨_, List.getElem_mem h, by simpa using hf⟩
theorem take_snoc {l : List Int} {j : Nat} (h : j < l.length) : l.take (j + 1) = l.take j ++ [l.getD j 0] := by
  simp only [List.getD_eq_getElem?_getD, List.getElem?_eq_getElem h, Option.getD_some]
  rw [List.take_succ_eq_append_getElem h]
theorem far_take_snoc {l : List Int} {j : Nat} (h : j < l.length) (hf : far (l.take j) = false) (hk : ¬ (l.getD j 0 < 0 ∨ 16521 < l.getD j 0)) : far (l.take (j + 1)) = false := by
  rw [take_snoc h, far_snoc, hf]; simpa using hk
theorem wf_getD {l : List Int} (h : ∀ n ∈ l, (Lit.int .i64 n).wf = true) (j : Nat) : (Lit.int .i64 (l.getD j 0)).wf = true := by
  by_cases hj : j < l.length
  · simp only [List.getD_eq_getElem?_getD, List.getElem?_eq_getElem hj, Option.getD_some]; exact h _ (List.getElem_mem hj)
  · simp only [List.getD_eq_getElem?_getD, List.getElem?_eq_none (Nat.le_of_not_lt hj), Option.getD_none]; decide
theorem keys_len_le (l : List Int) : (keys l).length ≤ 2 * l.length := by
  induction l with
  | nil => simp [keys]
  | cons k r ih =>
    have e : keys (k :: r) = (if 138 ≤ k then [-1, (k - 138) / 128] else if 10 ≤ k then [-2] else []) ++ keys r := rfl
    rw [e, List.length_append, List.length_cons]; split
    · simp; omega
    · split <;> simp <;> omega
theorem wf_small {k : Int} (h0 : -3 ≤ k) (h1 : k ≤ 20000) : (Lit.int .i64 k).wf = true := WalkArith.wf_i64 (by omega)
theorem isKey (k : Int) : WideAt.IsKeyLit (Lit.int .i64 k) := trivial

/-- The program's maps behind j numbers. -/
def Rel (w wr : World) (l : List Int) (j : Nat) : Prop := ∃ D1 D2 : DataW Unit, wr.ownsMap Try.prog 3 (plainElem Try.prog 3) w.heap.size j D1 ∧ Holds D1 (l.take j) ∧
  wr.ownsMap Try.prog 3 (plainElem Try.prog 3) (w.heap.size + 1) (2 * j) D2 ∧ Holds D2 (keys (l.take j)) ∧ Below w.heap.size w wr

set_option maxRecDepth 100000 in
set_option maxHeartbeats 1000000 in
theorem takes_any (zs : List Int) (ao : Option Addr) (b off cap : Nat) (w : World) (hao : 0 < zs.length → ao = some ⟨b, off, none⟩) (hreach : zs.length * 8 ≤ 140737488351232) (hb : 0 < zs.length → b < w.heap.size)
    (hc : ∀ j, j < zs.length → w.cell? ⟨b, off + j, none⟩ = some (.int .i64 (zs.getD j 0))) (hwz : ∀ n ∈ zs, (Lit.int .i64 n).wf = true) :
    Calls Try.prog 5 #[.slice ao zs.length cap] w fun e w' => e = .returned (.tuple #[.int .i64 (tkN zs), .int .i64 (tkE zs)]) ∧ Below w.heap.size w w' := by
  have hmm := @run_makeMap Try.prog
  go_enter Try.func5, Try.ntmps5
  go_wp2
  go_loopw [13] (fun i wr => ∃ k : Nat, k ≤ zs.length ∧ i = .int .i64 k ∧ far (zs.take k) = false ∧ Rel w wr zs k) (fun i _ => zs.length - (intOf i).toNat)
  case atStart =>
    refine ⟨0, Nat.zero_le _, rfl, rfl, .map [], .map [], ?_, Holds.empty, ?_, Holds.empty, ((Below.refl _ _).alloc (Nat.le_refl _) _).alloc (by simp) _⟩
    · exact (World.ownsMap_made w _ _ _).alloc _
    · have := World.ownsMap_made (H := Unit) (w.alloc (.map #[] 0)) Try.prog 3 (plainElem Try.prog 3)
      simpa using this
  case round =>
    obtain ⟨k, hk, rfl, hfar, hR⟩ := hrel
    by_cases hlt : k < zs.length
    · have hcx : wr.cell? ⟨b, off + k, none⟩ = some (.int .i64 (zs.getD k 0)) := by
        obtain ⟨_, _, _, _, _, _, hnx⟩ := hR
        exact (hnx.cell (by exact hb (by omega))).trans (hc k hlt)
      have hwx := wf_getD hwz k
      have hao' := hao (by omega)
      have hsn := take_snoc hlt
      have hfs := far_take_snoc hlt hfar
      have hft := far_of_take hlt
      obtain ⟨x, hx⟩ : ∃ x, x = zs.getD k 0 := ⟨_, rfl⟩
      rw [← hx] at hcx hwx hsn hfs hft
      clear hx hc hao
      subst hao'
      by_cases h0 : x < 0 ∨ 16521 < x
      · have hF := Lib.hid (hft h0)
        have hbel : Below w.heap.size w wr := by obtain ⟨_, _, _, _, _, _, h⟩ := hR; exact h
        clear hsn hfs hft hR
        rcases h0 with h0 | h0
        · go_wp2
          go_ret2
          exact ⟨by rw [tkN, tkE, hF.out]; rfl, hbel⟩
        · have : ¬ x < 0 := by omega
          go_wp2
          go_ret2
          exact ⟨by rw [tkN, tkE, hF.out]; rfl, hbel⟩
      · have hF := Lib.hid (hfs h0)
        have HSN := Lib.hid hsn
        clear hsn hfs hft
        obtain ⟨D1, D2, ho1, hh1, ho2, hh2, hnx⟩ := hR
        have n1 : ¬ x < 0 := by omega
        have n2 : ¬ 16522 ≤ x := by omega
        have hsz := hnx.size
        have hk1 : keyOf Try.prog 3 (.int .i64 x) = some (.int .i64 x) := keyOf_int_mk Try.underlying3 hwx
        by_cases h138 : 138 ≤ x
        · have hq0 : 0 ≤ x - 138 := by omega
          have hkm : keyOf Try.prog 3 (.int .i64 (-1)) = some (.int .i64 (-1)) := keyOf_int_mk Try.underlying3 (by decide)
          have hkq : keyOf Try.prog 3 (.int .i64 ((x - 138) / 128)) = some (.int .i64 ((x - 138) / 128)) := keyOf_int_mk Try.underlying3 (wf_small (by omega) (by omega))
          go_wp2_with (first | (at_lookup; refine wpList_lookup_own_int _ rfl _ _ 47 rfl 3 3 .i64 lawI Try.underlying47 Try.underlying3 (zeroI _) w.heap.size k _ rfl ho1 _ _ rfl hk1 ?_; intro c hat hwc; clear hat) | (at_mapUpdate; refine wpList_mapUpdate_own _ rfl _ _ _ 47 rfl 3 3 lawI Try.underlying47 _ w.heap.size k _ rfl ho1 (by unfold maxLen; omega) _ _ _ rfl rfl hk1 _ [] (plainElem_int Try.underlying3 (wrap64_wf _)) ?_; intro w1 ho1' hg1; have hnx1 := hnx.grown hg1 hsz (fun j hj => by cases hj; exact Nat.le_refl _); have ho21 := ho2.kept hg1 (by simp); have hp1 := hh1.put x (isKey x) (.lit (.int .i64 (wrap64 (c + 1)))); clear ho1 ho2 hh1) | (at_lookup; refine wpList_lookup_own_int _ rfl _ _ 47 rfl 3 3 .i64 lawI Try.underlying47 Try.underlying3 (zeroI _) (w.heap.size + 1) (2 * k) _ rfl ho21 _ _ rfl hkm ?_; intro c2 hat hwc2; clear hat) | (at_mapUpdate; refine wpList_mapUpdate_own _ rfl _ _ _ 47 rfl 3 3 lawI Try.underlying47 _ (w.heap.size + 1) (2 * k) _ rfl ho21 (by unfold maxLen; omega) _ _ _ rfl rfl hkm _ [] (plainElem_int Try.underlying3 (wrap64_wf _)) ?_; intro w2 ho22 hg2; have hnx2 := hnx1.grown hg2 (by have := hg1.size; omega) (fun j hj => by cases hj; omega); have ho12 := ho1'.kept hg2 (by simp)) | (at_lookup; refine wpList_lookup_own_int _ rfl _ _ 47 rfl 3 3 .i64 lawI Try.underlying47 Try.underlying3 (zeroI _) (w.heap.size + 1) (2 * k + 1) _ rfl ho22 _ _ rfl hkq ?_; intro c3 hat hwc3; clear hat) | (at_mapUpdate; refine wpList_mapUpdate_own _ rfl _ _ _ 47 rfl 3 3 lawI Try.underlying47 _ (w.heap.size + 1) (2 * k + 1) _ rfl ho22 (by unfold maxLen; omega) _ _ _ rfl rfl hkq _ [] (plainElem_int Try.underlying3 (wrap64_wf _)) ?_; intro w3 ho23 hg3; have hnx3 := hnx2.grown hg3 (by have := hg1.size; have := hg2.size; omega) (fun j hj => by cases hj; omega); have ho13 := ho12.kept hg3 (by simp); have hp2 := (hh2.put (-1) (isKey _) (.lit (.int .i64 (wrap64 (c2 + 1))))).put ((x - 138) / 128) (isKey _) (.lit (.int .i64 (wrap64 (c3 + 1))))))
          go_roundw
          case rel =>
            refine ⟨k + 1, by omega, by go_num, hF.out, _, _, ho13, by rw [HSN.out]; exact hp1, ho23.mono (by omega), ?_, hnx3⟩
            rw [HSN.out, keys_snoc, if_pos h138]
            simpa using hp2
          case measure => simp [intOf]; omega
        · by_cases h10 : 10 ≤ x
          · have hkm : keyOf Try.prog 3 (.int .i64 (-2)) = some (.int .i64 (-2)) := keyOf_int_mk Try.underlying3 (by decide)
            go_wp2_with (first | (at_lookup; refine wpList_lookup_own_int _ rfl _ _ 47 rfl 3 3 .i64 lawI Try.underlying47 Try.underlying3 (zeroI _) w.heap.size k _ rfl ho1 _ _ rfl hk1 ?_; intro c hat hwc; clear hat) | (at_mapUpdate; refine wpList_mapUpdate_own _ rfl _ _ _ 47 rfl 3 3 lawI Try.underlying47 _ w.heap.size k _ rfl ho1 (by unfold maxLen; omega) _ _ _ rfl rfl hk1 _ [] (plainElem_int Try.underlying3 (wrap64_wf _)) ?_; intro w1 ho1' hg1; have hnx1 := hnx.grown hg1 hsz (fun j hj => by cases hj; exact Nat.le_refl _); have ho21 := ho2.kept hg1 (by simp); have hp1 := hh1.put x (isKey x) (.lit (.int .i64 (wrap64 (c + 1)))); clear ho1 ho2 hh1) | (at_lookup; refine wpList_lookup_own_int _ rfl _ _ 47 rfl 3 3 .i64 lawI Try.underlying47 Try.underlying3 (zeroI _) (w.heap.size + 1) (2 * k) _ rfl ho21 _ _ rfl hkm ?_; intro c2 hat hwc2; clear hat) | (at_mapUpdate; refine wpList_mapUpdate_own _ rfl _ _ _ 47 rfl 3 3 lawI Try.underlying47 _ (w.heap.size + 1) (2 * k) _ rfl ho21 (by unfold maxLen; omega) _ _ _ rfl rfl hkm _ [] (plainElem_int Try.underlying3 (wrap64_wf _)) ?_; intro w2 ho22 hg2; have hnx2 := hnx1.grown hg2 (by have := hg1.size; omega) (fun j hj => by cases hj; omega); have ho12 := ho1'.kept hg2 (by simp); have hp2 := hh2.put (-2) (isKey _) (.lit (.int .i64 (wrap64 (c2 + 1))))))
            go_roundw
            case rel =>
              refine ⟨k + 1, by omega, by go_num, hF.out, _, _, ho12, by rw [HSN.out]; exact hp1, ho22.mono (by omega), ?_, hnx2⟩
              rw [HSN.out, keys_snoc, if_neg h138, if_pos h10]
              simpa using hp2
            case measure => simp [intOf]; omega
          · go_wp2_with (first | (at_lookup; refine wpList_lookup_own_int _ rfl _ _ 47 rfl 3 3 .i64 lawI Try.underlying47 Try.underlying3 (zeroI _) w.heap.size k _ rfl ho1 _ _ rfl hk1 ?_; intro c hat hwc; clear hat) | (at_mapUpdate; refine wpList_mapUpdate_own _ rfl _ _ _ 47 rfl 3 3 lawI Try.underlying47 _ w.heap.size k _ rfl ho1 (by unfold maxLen; omega) _ _ _ rfl rfl hk1 _ [] (plainElem_int Try.underlying3 (wrap64_wf _)) ?_; intro w1 ho1' hg1; have hnx1 := hnx.grown hg1 hsz (fun j hj => by cases hj; exact Nat.le_refl _); have ho21 := ho2.kept hg1 (by simp); have hp1 := hh1.put x (isKey x) (.lit (.int .i64 (wrap64 (c + 1)))); clear ho1 ho2 hh1))
            go_roundw
            case rel =>
              refine ⟨k + 1, by omega, by go_num, hF.out, _, _, ho1', by rw [HSN.out]; exact hp1, ho21.mono (by omega), ?_, hnx1⟩
              rw [HSN.out, keys_snoc, if_neg h138, if_neg h10, List.append_nil]
              exact hh2
            case measure => simp [intOf]; omega
    · obtain ⟨D1, D2, ho1, hh1, ho2, hh2, hnx⟩ := hR
      have hkz : k = zs.length := by omega
      subst hkz
      rw [List.take_length] at *
      have hs1 := Lib.hid hh1.size
      have hs2 := Lib.hid hh2.size
      have b1 : Maps.size D1 ≤ zs.length := by have := dd_len_le zs; rw [hs1.out]; exact this
      have b2 : Maps.size D2 ≤ 2 * zs.length := by have := dd_len_le (keys zs); have h2 := keys_len_le zs; rw [hs2.out]; omega
      have HF := Lib.hid hfar
      clear hfar
      go_wp2_with (first | (at_len; refine wpList_len_own _ rfl _ 47 rfl 3 3 Try.underlying47 _ w.heap.size zs.length D1 rfl ho1 ?_) | (at_len; refine wpList_len_own _ rfl _ 47 rfl 3 3 Try.underlying47 _ (w.heap.size + 1) (2 * zs.length) D2 rfl ho2 ?_))
      go_ret2
      refine ⟨?_, hnx⟩
      have hcq := count_eq zs
      have e : ((Maps.size D1 : Int) + (Maps.size D2 : Int)) = (count zs : Int) := by rw [hs1.out, hs2.out, hcq]; omega
      rw [tkN, tkE, HF.out, e]; rfl
end Tk
end Go.Proofs.Ytjloonijnbfhhaa
