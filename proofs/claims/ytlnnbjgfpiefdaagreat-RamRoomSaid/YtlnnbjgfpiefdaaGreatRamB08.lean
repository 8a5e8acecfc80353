/- The walks of Takes, the program's and the document's: both count the blocks of a list alike. -/
import Derived.Test.YtlnnbjgfpiefdaaGreatRamB07
import Derived.Maps.OwnOps
import Derived.Maps.RangeWalk
namespace Go.Proofs.YtlnnbjgfpiefdaaGreat
open Go.RowKit Go.Maps Go.WideShapes

namespace Tk
theorem lawI : Keyed Tryz.prog 3 := int_keyed Tryz.underlying3
theorem zeroI (w : World) : (zeroValue 3).run Tryz.prog w = .ok (.int .i64 0) w := by kernel_rfl

/-- What Takes answers. -/
def tkN (l : List Int) : Int := if far l then 0 else count l
def tkE (l : List Int) : Int := if far l then 101 else 0

theorem far_snoc (l : List Int) (k : Int) : far (l ++ [k]) = (far l || decide (k < 0 ∨ 16521 < k)) := by simp [far]
theorem far_of_take {l : List Int} {j : Nat} (h : j < l.length) (hf : l.getD j 0 < 0 ∨ 16521 < l.getD j 0) : far l = true := by
  simp only [List.getD_eq_getElem?_getD, List.getElem?_eq_getElem h, Option.getD_some] at hf
  exact List.any_eq_true.2 ⟨_, List.getElem_mem h, by simpa using hf⟩
theorem take_snoc {l : List Int} {j : Nat} (h : j < l.length) : l.take (j + 1) = l.take j ++ [l.getD j 0] := by
  simp only [List.getD_eq_getElem?_getD, List.getElem?_eq_getElem h, Option.getD_some]
  rw [List.take_succ_eq_append_getElem h]
theorem far_take_snoc {l : List Int} {j : Nat} (h : j < l.length) (hf : far (l.take j) = false) (hk : ¬ (l.getD j 0 < 0 ∨ 16521 < l.getD j 0)) : far (l.take (j + 1)) = false := by
  rw [take_snoc h, far_snoc, hf]; simpa using hk
theorem wf_getD {l : List Int} (h : ∀ n ∈ l, (Lit.int .i64 n).wf = true) (j : Nat) : (Lit.int .i64 (l.getD j 0)).wf = true := by
  by_cases hj : j < l.length
  · simp only [List.getD_eq_getElem?_getD, List.getElem?_eq_getElem hj, Option.getD_some]; exact h _ (List.getElem_mem hj)
  · simp only [List.getD_eq_getElem?_getD, List.getElem?_eq_none (Nat.le_of_not_lt hj), Option.getD_none]; decide
theorem keys_len_le (l : List Int) : (keys l).length ≤ 2 * l.length := by
  induction l with
  | nil => simp [keys]
  | cons k r ih =>
    have e : keys (k :: r) = (if 138 ≤ k then [-1, (k - 138) / 128] else if 10 ≤ k then [-2] else []) ++ keys r := rfl
    rw [e, List.length_append, List.length_cons]; split
    · simp; omega
    · split <;> simp <;> omega
theorem wf_small {k : Int} (h0 : -3 ≤ k) (h1 : k ≤ 20000) : (Lit.int .i64 k).wf = true := WalkArith.wf_i64 (by omega)
theorem isKey (k : Int) : WideAt.IsKeyLit (Lit.int .i64 k) := trivial

/-- The program's maps behind j numbers. -/
def Rel (w wr : World) (l : List Int) (j : Nat) : Prop := ∃ D1 D2 : DataW Unit, wr.ownsMap Tryz.prog 3 (plainElem Tryz.prog 3) w.heap.size j D1 ∧ Holds D1 (l.take j) ∧
  wr.ownsMap Tryz.prog 3 (plainElem Tryz.prog 3) (w.heap.size + 1) (2 * j) D2 ∧ Holds D2 (keys (l.take j)) ∧ Below w.heap.size w wr

set_option maxRecDepth 100000 in
set_option maxHeartbeats 1000000 in
theorem takes_any (zs : List Int) (ao : Option Addr) (b off cap : Nat) (w : World) (hao : 0 < zs.length → ao = some ⟨b, off, none⟩) (hreach : zs.length * 8 ≤ 140737488351232) (hb : 0 < zs.length → b < w.heap.size)
    (hc : ∀ j, j < zs.length → w.cell? ⟨b, off + j, none⟩ = some (.int .i64 (zs.getD j 0))) (hwz : ∀ n ∈ zs, (Lit.int .i64 n).wf = true) :
    Calls Tryz.prog 94 #[.slice ao zs.length cap] w fun e w' => e = .returned (.tuple #[.int .i64 (tkN zs), .int .i64 (tkE zs)]) ∧ Below w.heap.size w w' := by
  have hmm := @run_makeMap Tryz.prog
  go_enter Tryz.func94, Tryz.ntmps94
  go_wp2
  go_loopw [13] (fun i wr => ∃ k : Nat, k ≤ zs.length ∧ i = .int .i64 k ∧ far (zs.take k) = false ∧ Rel w wr zs k) (fun i _ => zs.length - (intOf i).toNat)
  case atStart =>
    refine ⟨0, Nat.zero_le _, rfl, rfl, .map [], .map [], ?_, Holds.empty, ?_, Holds.empty, ((Below.refl _ _).alloc (Nat.le_refl _) _).alloc (by simp) _⟩
    · exact (World.ownsMap_made w _ _ _).alloc _
    · have := World.ownsMap_made (H := Unit) (w.alloc (.map #[] 0)) Tryz.prog 3 (plainElem Tryz.prog 3)
      simpa using this
  case round =>
    obtain ⟨k, hk, rfl, hfar, hR⟩ := hrel
    by_cases hlt : k < zs.length
    · have hcx : wr.cell? ⟨b, off + k, none⟩ = some (.int .i64 (zs.getD k 0)) := by
        obtain ⟨_, _, _, _, _, _, hnx⟩ := hR
        exact (hnx.cell (by exact hb (by omega))).trans (hc k hlt)
      have hwx := wf_getD hwz k
      have hao' := hao (by omega)
      have hsn := take_snoc hlt
      have hfs := far_take_snoc hlt hfar
      have hft := far_of_take hlt
      obtain ⟨x, hx⟩ : ∃ x, x = zs.getD k 0 := ⟨_, rfl⟩
      rw [← hx] at hcx hwx hsn hfs hft
      clear hx hc hao
      subst hao'
      by_cases h0 : x < 0 ∨ 16521 < x
      · have hF := Lib.hid (hft h0)
        have hbel : Below w.heap.size w wr := by obtain ⟨_, _, _, _, _, _, h⟩ := hR; exact h
        clear hsn hfs hft hR
        rcases h0 with h0 | h0
        · go_wp2
          go_ret2
          exact ⟨by rw [tkN, tkE, hF.out]; rfl, hbel⟩
        · have : ¬ x < 0 := by omega
          go_wp2
          go_ret2
          exact ⟨by rw [tkN, tkE, hF.out]; rfl, hbel⟩
      · have hF := Lib.hid (hfs h0)
        have HSN := Lib.hid hsn
        clear hsn hfs hft
        obtain ⟨D1, D2, ho1, hh1, ho2, hh2, hnx⟩ := hR
        have n1 : ¬ x < 0 := by omega
        have n2 : ¬ 16522 ≤ x := by omega
        have hsz := hnx.size
        have hk1 : keyOf Tryz.prog 3 (.int .i64 x) = some (.int .i64 x) := keyOf_int_mk Tryz.underlying3 hwx
        by_cases h138 : 138 ≤ x
        · have hq0 : 0 ≤ x - 138 := by omega
          have hkm : keyOf Tryz.prog 3 (.int .i64 (-1)) = some (.int .i64 (-1)) := keyOf_int_mk Tryz.underlying3 (by decide)
          have hkq : keyOf Tryz.prog 3 (.int .i64 ((x - 138) / 128)) = some (.int .i64 ((x - 138) / 128)) := keyOf_int_mk Tryz.underlying3 (wf_small (by omega) (by omega))
          go_wp2_with (first | (at_lookup; refine wpList_lookup_own_int _ rfl _ _ 161 rfl 3 3 .i64 lawI Tryz.underlying161 Tryz.underlying3 (zeroI _) w.heap.size k _ rfl ho1 _ _ rfl hk1 ?_; intro c hat hwc; clear hat) | (at_mapUpdate; refine wpList_mapUpdate_own _ rfl _ _ _ 161 rfl 3 3 lawI Tryz.underlying161 _ w.heap.size k _ rfl ho1 (by unfold maxLen; omega) _ _ _ rfl rfl hk1 _ [] (plainElem_int Tryz.underlying3 (wrap64_wf _)) ?_; intro w1 ho1' hg1; have hnx1 := hnx.grown hg1 hsz (fun j hj => by cases hj; exact Nat.le_refl _); have ho21 := ho2.kept hg1 (by simp); have hp1 := hh1.put x (isKey x) (.lit (.int .i64 (wrap64 (c + 1)))); clear ho1 ho2 hh1) | (at_lookup; refine wpList_lookup_own_int _ rfl _ _ 161 rfl 3 3 .i64 lawI Tryz.underlying161 Tryz.underlying3 (zeroI _) (w.heap.size + 1) (2 * k) _ rfl ho21 _ _ rfl hkm ?_; intro c2 hat hwc2; clear hat) | (at_mapUpdate; refine wpList_mapUpdate_own _ rfl _ _ _ 161 rfl 3 3 lawI Tryz.underlying161 _ (w.heap.size + 1) (2 * k) _ rfl ho21 (by unfold maxLen; omega) _ _ _ rfl rfl hkm _ [] (plainElem_int Tryz.underlying3 (wrap64_wf _)) ?_; intro w2 ho22 hg2; have hnx2 := hnx1.grown hg2 (by have := hg1.size; omega) (fun j hj => by cases hj; omega); have ho12 := ho1'.kept hg2 (by simp)) | (at_lookup; refine wpList_lookup_own_int _ rfl _ _ 161 rfl 3 3 .i64 lawI Tryz.underlying161 Tryz.underlying3 (zeroI _) (w.heap.size + 1) (2 * k + 1) _ rfl ho22 _ _ rfl hkq ?_; intro c3 hat hwc3; clear hat) | (at_mapUpdate; refine wpList_mapUpdate_own _ rfl _ _ _ 161 rfl 3 3 lawI Tryz.underlying161 _ (w.heap.size + 1) (2 * k + 1) _ rfl ho22 (by unfold maxLen; omega) _ _ _ rfl rfl hkq _ [] (plainElem_int Tryz.underlying3 (wrap64_wf _)) ?_; intro w3 ho23 hg3; have hnx3 := hnx2.grown hg3 (by have := hg1.size; have := hg2.size; omega) (fun j hj => by cases hj; omega); have ho13 := ho12.kept hg3 (by simp); have hp2 := (hh2.put (-1) (isKey _) (.lit (.int .i64 (wrap64 (c2 + 1))))).put ((x - 138) / 128) (isKey _) (.lit (.int .i64 (wrap64 (c3 + 1))))))
          go_roundw
          case rel =>
            refine ⟨k + 1, by omega, by go_num, hF.out, _, _, ho13, by rw [HSN.out]; exact hp1, ho23.mono (by omega), ?_, hnx3⟩
            rw [HSN.out, keys_snoc, if_pos h138]
            simpa using hp2
          case measure => simp [intOf]; omega
        · by_cases h10 : 10 ≤ x
          · have hkm : keyOf Tryz.prog 3 (.int .i64 (-2)) = some (.int .i64 (-2)) := keyOf_int_mk Tryz.underlying3 (by decide)
            go_wp2_with (first | (at_lookup; refine wpList_lookup_own_int _ rfl _ _ 161 rfl 3 3 .i64 lawI Tryz.underlying161 Tryz.underlying3 (zeroI _) w.heap.size k _ rfl ho1 _ _ rfl hk1 ?_; intro c hat hwc; clear hat) | (at_mapUpdate; refine wpList_mapUpdate_own _ rfl _ _ _ 161 rfl 3 3 lawI Tryz.underlying161 _ w.heap.size k _ rfl ho1 (by unfold maxLen; omega) _ _ _ rfl rfl hk1 _ [] (plainElem_int Tryz.underlying3 (wrap64_wf _)) ?_; intro w1 ho1' hg1; have hnx1 := hnx.grown hg1 hsz (fun j hj => by cases hj; exact Nat.le_refl _); have ho21 := ho2.kept hg1 (by simp); have hp1 := hh1.put x (isKey x) (.lit (.int .i64 (wrap64 (c + 1)))); clear ho1 ho2 hh1) | (at_lookup; refine wpList_lookup_own_int _ rfl _ _ 161 rfl 3 3 .i64 lawI Tryz.underlying161 Tryz.underlying3 (zeroI _) (w.heap.size + 1) (2 * k) _ rfl ho21 _ _ rfl hkm ?_; intro c2 hat hwc2; clear hat) | (at_mapUpdate; refine wpList_mapUpdate_own _ rfl _ _ _ 161 rfl 3 3 lawI Tryz.underlying161 _ (w.heap.size + 1) (2 * k) _ rfl ho21 (by unfold maxLen; omega) _ _ _ rfl rfl hkm _ [] (plainElem_int Tryz.underlying3 (wrap64_wf _)) ?_; intro w2 ho22 hg2; have hnx2 := hnx1.grown hg2 (by have := hg1.size; omega) (fun j hj => by cases hj; omega); have ho12 := ho1'.kept hg2 (by simp); have hp2 := hh2.put (-2) (isKey _) (.lit (.int .i64 (wrap64 (c2 + 1))))))
            go_roundw
            case rel =>
              refine ⟨k + 1, by omega, by go_num, hF.out, _, _, ho12, by rw [HSN.out]; exact hp1, ho22.mono (by omega), ?_, hnx2⟩
              rw [HSN.out, keys_snoc, if_neg h138, if_pos h10]
              simpa using hp2
            case measure => simp [intOf]; omega
          · go_wp2_with (first | (at_lookup; refine wpList_lookup_own_int _ rfl _ _ 161 rfl 3 3 .i64 lawI Tryz.underlying161 Tryz.underlying3 (zeroI _) w.heap.size k _ rfl ho1 _ _ rfl hk1 ?_; intro c hat hwc; clear hat) | (at_mapUpdate; refine wpList_mapUpdate_own _ rfl _ _ _ 161 rfl 3 3 lawI Tryz.underlying161 _ w.heap.size k _ rfl ho1 (by unfold maxLen; omega) _ _ _ rfl rfl hk1 _ [] (plainElem_int Tryz.underlying3 (wrap64_wf _)) ?_; intro w1 ho1' hg1; have hnx1 := hnx.grown hg1 hsz (fun j hj => by cases hj; exact Nat.le_refl _); have ho21 := ho2.kept hg1 (by simp); have hp1 := hh1.put x (isKey x) (.lit (.int .i64 (wrap64 (c + 1)))); clear ho1 ho2 hh1))
            go_roundw
            case rel =>
              refine ⟨k + 1, by omega, by go_num, hF.out, _, _, ho1', by rw [HSN.out]; exact hp1, ho21.mono (by omega), ?_, hnx1⟩
              rw [HSN.out, keys_snoc, if_neg h138, if_neg h10, List.append_nil]
              exact hh2
            case measure => simp [intOf]; omega
    · obtain ⟨D1, D2, ho1, hh1, ho2, hh2, hnx⟩ := hR
      have hkz : k = zs.length := by omega
      subst hkz
      rw [List.take_length] at *
      have hs1 := Lib.hid hh1.size
      have hs2 := Lib.hid hh2.size
      have b1 : Maps.size D1 ≤ zs.length := by have := dd_len_le zs; rw [hs1.out]; exact this
      have b2 : Maps.size D2 ≤ 2 * zs.length := by have := dd_len_le (keys zs); have h2 := keys_len_le zs; rw [hs2.out]; omega
      have HF := Lib.hid hfar
      clear hfar
      go_wp2_with (first | (at_len; refine wpList_len_own _ rfl _ 161 rfl 3 3 Tryz.underlying161 _ w.heap.size zs.length D1 rfl ho1 ?_) | (at_len; refine wpList_len_own _ rfl _ 161 rfl 3 3 Tryz.underlying161 _ (w.heap.size + 1) (2 * zs.length) D2 rfl ho2 ?_))
      go_ret2
      refine ⟨?_, hnx⟩
      have hcq := count_eq zs
      have e : ((Maps.size D1 : Int) + (Maps.size D2 : Int)) = (count zs : Int) := by rw [hs1.out, hs2.out, hcq]; omega
      rw [tkN, tkE, HF.out, e]; rfl
end Tk
end Go.Proofs.YtlnnbjgfpiefdaaGreat
/- A range over a map, by the list of its entries; how many blocks an inode takes. -/
namespace Go.Proofs.YtlnnbjgfpiefdaaGreat
open Go.RowKit Go.Maps Go.Shelf

namespace Fs
section
variable {κ ν α : Type} [DecidableEq κ] [Key κ] {P : Program} {ev : ν → Value}
/-- The entries still to come. -/
def rem (m : Al κ ν) (left : Lit → Bool) : Al κ ν := m.filter fun p => left (Key.lit p.1)
theorem rem_all (m : Al κ ν) (hm : Rising m) : rem m (Maps.has (toD ev m)) = m := by
  refine List.filter_eq_self.2 fun p hp => ?_
  rw [toD_has, hm.get.2 hp]; rfl
theorem rem_step (m : Al κ ν) (left : Lit → Bool) (x : κ) : rem m (fun z => left z && !z.sameKey (Key.lit x)) = del (rem m left) x := by
  unfold rem del
  rw [List.filter_filter]
  refine List.filter_congr fun p _ => ?_
  dsimp only
  rw [Key.same, Bool.and_comm]
theorem rem_none (m : Al κ ν) {left : Lit → Bool} (h : ∀ kl, left kl = false) : rem m left = [] := List.filter_eq_nil_iff.2 fun p _ => by rw [h]; simp
/-- The step of a range, by entries. -/
theorem wpList_next_al (W : World) {ops : Array Oper} {rest : List Oper} {o : Oper} {a : Act} {Q : Exit → Act → World → Prop} (hg : o.guard = none) (it : Operand) (hop : o.op = Op.next it false) {k : TypeId} (K : Keyed P k) (mkK : α → Value) (toK : α → κ)
    (invK : ∀ key kl, keyOf P k key = some kl → ∃ x, key = mkK x) (valK : ∀ x kl, keyOf P k (mkK x) = some kl → kl = Key.lit (toK x)) (b r n : Nat) (m : Al κ ν) (hm : Rising m) (left : Lit → Bool) (cnt : Nat)
    (hit : a.eval it = .pointer (some ⟨r, 0, none⟩)) (h : W.ranges P k rawElem b r n (toD ev m) left cnt)
    (hDone : rem m left = [] → wpList P ops Q rest (a.put o.dst (.tuple #[.bool false])) W)
    (hMore : ∀ (x : α) (v : ν) (w' : World) (left' : Lit → Bool) (cnt' : Nat), (toK x, v) ∈ rem m left → rem m left' = del (rem m left) (toK x) → w'.ranges P k rawElem b r n (toD ev m) left' cnt' → cnt' < cnt → W.grownBy w' (some r) → w'.heap.size = W.heap.size →
      (Instr.entry (.pointer (some ⟨r, 0, none⟩))).run P w' = .ok (.tuple #[mkK x, ev v]) w' → wpList P ops Q rest (a.put o.dst (.tuple #[.bool true, mkK x, ev v])) w') :
    wpList P ops Q (o :: rest) a W := by
  refine wpList_next_ranges W hg it hop k K rawElem mkK (fun v : Value => v) invK (fun v _ _ => ⟨v, rfl⟩) b r n (toD ev m) left cnt hit h (fun _ hl => hDone (rem_none m hl)) ?_
  intro x c kl y w' cnt' hkey hlk hv hat hrg hlt hgr hsz hen
  obtain rfl := valK x kl hkey
  cases hv
  have hc : ∃ v, get m (toK x) = some v ∧ ev v = c := by
    have h1 := hat (.held (.bool true))
    have h2 := hat (.held (.bool false))
    rw [toD_atKey] at h1 h2
    cases hgm : get m (toK x) with
    | none =>
      rw [hgm] at h1 h2
      simp at h1 h2
      rw [← h1] at h2
      cases h2
    | some v =>
      rw [hgm] at h1
      simp at h1
      exact ⟨v, rfl, h1⟩
  obtain ⟨v, hgv, rfl⟩ := hc
  have hxm : (toK x, v) ∈ rem m left := List.mem_filter.2 ⟨hm.get.1 hgv, hlk⟩
  exact hMore x v w' _ cnt' hxm (rem_step m left (toK x)) hrg hlt hgr hsz hen
/-- Behind a callee that leaves the old blocks alone. -/
theorem ranges_below {W W' : World} {k : TypeId} {b r n : Nat} {D : DataW Value} {left : Lit → Bool} {cnt : Nat} (h : W.ranges P k rawElem b r n D left cnt) (hb : Below W.heap.size W W') : W'.ranges P k rawElem b r n D left cnt :=
  h.kept (row := none) ⟨hb.os, hb.tape, hb.output, hb.size, fun j hj _ => hb.block j hj⟩ (by simp) (by simp)
theorem del_perm {l : Al κ ν} (hl : Rising l) {k : κ} {v : ν} (h : (k, v) ∈ l) : l.Perm ((k, v) :: del l k) := by
  conv => lhs; rw [← put_del hl (hl.get.2 h)]
  have := put_perm (del l k) k v
  rwa [show del (del l k) k = del l k from by unfold del; rw [List.filter_filter]; simp] at this
theorem Rising.rem {m : Al κ ν} (h : Rising m) (left : Lit → Bool) : Rising (rem m left) := List.Pairwise.filter _ h
end

/-! Perm. -/
theorem dd_nodup : ∀ (l acc : List Int), acc.Nodup → (l.foldl Tk.add acc).Nodup
  | [], _, h => h
  | k :: r, acc, h => dd_nodup r (Tk.add acc k) (by
    unfold Tk.add
    split
    · exact h
    · rename_i hk
      exact List.nodup_append.2 ⟨h, by simp, by rintro a ha b hb rfl; simp at hb; exact hk (hb ▸ ha)⟩)
theorem dd_perm {l l' : List Int} (h : l.Perm l') : (Tk.dd l).length = (Tk.dd l').length := by
  have h1 := dd_nodup l [] List.nodup_nil
  have h2 := dd_nodup l' [] List.nodup_nil
  have h3 : (Tk.dd l).Perm (Tk.dd l') := (List.perm_ext_iff_of_nodup h1 h2).2 fun x => by
    show x ∈ Tk.dd l ↔ x ∈ Tk.dd l'
    rw [Tk.mem_dd, Tk.mem_dd]; exact h.mem_iff
  exact h3.length_eq
theorem any_perm {l l' : List Int} (h : l.Perm l') (f : Int → Bool) : l.any f = l'.any f := by
  rw [Bool.eq_iff_iff, List.any_eq_true, List.any_eq_true]
  exact ⟨fun ⟨x, a, b⟩ => ⟨x, h.mem_iff.1 a, b⟩, fun ⟨x, a, b⟩ => ⟨x, h.mem_iff.2 a, b⟩⟩
theorem tkN_perm {l l' : List Int} (h : l.Perm l') : tkN l = tkN l' := by
  unfold tkN Tk.far Tk.count Tk.one Tk.two
  rw [any_perm h, any_perm h, any_perm h, dd_perm h, show (Tk.dd (Tk.tab l)).length = (Tk.dd (Tk.tab l')).length from dd_perm (h.flatMap_right _)]

section
variable {W : World} {L : Lay} {fb : Nat} {n : Int} {nb : Nat} {uv : Value} {vals : List Value}
theorem keyOfI_inv (key : Value) (kl : Lit) (h : keyOf Tryz.prog 3 key = some kl) : ∃ x : Int, key = .int .i64 x := by
  obtain ⟨x, rfl, _⟩ := Maps.keyOf_int_inv Tryz.underlying3 h; exact ⟨x, rfl⟩
theorem keyOfI_val (x : Int) (kl : Lit) (h : keyOf Tryz.prog 3 (.int .i64 x) = some kl) : kl = Key.lit x := by
  obtain ⟨y, e, rfl, _⟩ := Maps.keyOf_int_inv Tryz.underlying3 h
  cases e; rfl
theorem row_base {w : World} {base base' : Nat} {e : TypeId} {size : Nat} {v : Value} {n : Nat} {xs : List Value} (h : w.ownsRow base e size v n xs) (hb : base' ≤ base) : w.ownsRow base' e size v n xs := by
  obtain ⟨h1, h2⟩ := h
  refine ⟨h1, ?_⟩
  rcases h2 with h2 | ⟨g, cap, cur, hv, hg, r⟩
  · exact .inl h2
  · exact .inr ⟨g, cap, cur, hv, Nat.le_trans hb hg, r⟩
theorem row_ge {w : World} {base : Nat} {e : TypeId} {size : Nat} {v : Value} {n : Nat} {xs : List Value} (h : w.ownsRow base e size v n xs) {g : Nat} (hg : v.ownBlock = some g) : base ≤ g := (h.lt g hg).1
theorem cs_one (x : Int) : ∀ u ∈ [Value.int .i64 x], u.oneCell' = true := by simp [Value.oneCell']
/-- What the indices of an inode are bounded by. -/
structure NdOk (x : Nd) : Prop where
  kind : x.kind = 1 ∨ x.kind = 2 ∨ x.kind = 3
  pieces : x.pieces.length ≤ 1000000
  keys : ∀ p ∈ x.pieces, 0 ≤ p.1 ∧ p.1 ≤ 1000000
  blocks : 0 ≤ x.blocks ∧ x.blocks ≤ 1000000
  text : x.text.length ≤ 1000000
set_option maxRecDepth 100000 in
set_option maxHeartbeats 2000000 in
theorem indices_file (h : Sim W L fb n nb uv vals) (hw : WF L nb) {b : Nat} {hd : Hd} (hb : L b = some (.node hd)) (hok : NdOk (ndOf L hd)) (hk : hd.kind = 1) :
    Calls Tryz.prog 95 #[.pointer (some ⟨b, 0, none⟩)] W fun e W' => ∃ v l, e = .returned v ∧ W'.ownsRow W.heap.size 3 1 v l.length (Tk.cs l) ∧ l.Perm (indices (ndOf L hd)) ∧ Below W.heap.size W W' := by
  obtain ⟨c0, _, _, c3, _⟩ := node_cells (h.is b _ hb).2
  obtain ⟨p, hp⟩ := hw.file b hd hb hk
  obtain ⟨m, hm⟩ := hw.pm b hd p hb hp
  have hme : piecesAt L hd.pm = m := by unfold piecesAt; rw [hp]; dsimp only; rw [hm]
  have hMA : MapAt Tryz.prog 3 evPc W p m := (h.is p _ hm).2
  rw [hk] at c0
  rw [hp] at c3
  have hind : indices (ndOf L hd) = m.map (·.1) := (by unfold indices; rw [if_pos (show (ndOf L hd).kind = 1 from hk)]; show (piecesAt L hd.pm).map _ = _; rw [hme])
  rw [hind]
  have hml : m.length ≤ 1000000 := by have := hok.pieces; rw [← hme]; exact this
  obtain ⟨i0, hi, hz0, hz1, hz2⟩ := info_parts info_int
  go_enter Tryz.func95, Tryz.ntmps95
  go_wp2_with (at_range; refine wpList_range_own _ rfl _ 62 rfl 3 68 kI Tryz.underlying62 rawElem p m.length (toD evPc m) rfl hMA.1 ?_; intro w0 hrg0 hg0 hs0)
  go_frame
  go_loopw [3] (fun v wr => ∃ (l : List Int) (left : Lit → Bool) (cnt : Nat), wr.ownsRow (W.heap.size + 1) 3 1 v l.length (Tk.cs l) ∧ wr.ranges Tryz.prog 3 rawElem p W.heap.size m.length (toD evPc m) left cnt ∧ (l ++ (rem m left).map (·.1)).Perm (m.map (·.1)) ∧ Below W.heap.size W wr ∧ W.heap.size + 1 ≤ wr.heap.size) (fun _ wr => wr.rangeLeft p W.heap.size)
  case atStart =>
    refine ⟨[], _, _, World.ownsRow_nil _ _ _ _, hrg0, ?_, ⟨hg0.os, hg0.tape, hg0.output, hg0.size, fun k hk => hg0.block k hk (by simp)⟩, by omega⟩
    rw [rem_all m hMA.2, List.nil_append]
  case round =>
    rename_i v wr
    obtain ⟨l, left, cnt, hown, hrg, hpm, hbw, hsz⟩ := hrel
    go_wp2_with (at_next; refine wpList_next_al _ rfl _ rfl kI (Value.int .i64) (fun x => x) keyOfI_inv keyOfI_val p W.heap.size m.length m hMA.2 left cnt rfl hrg ?_ ?_)
    · intro hnil
      go_wp2
      go_ret
      rw [hnil, List.map_nil, List.append_nil] at hpm
      exact ⟨_, l, rfl, row_base hown (by omega), hpm, hbw⟩
    · intro x pc w1 left1 cnt1 hmem hrem hrg1 hlt hg1 hs1 hen
      have hlm : (l ++ (rem m left).map (·.1)).length = m.length := by rw [hpm.length_eq, List.length_map]
      have hll : l.length ≤ m.length := by rw [List.length_append] at hlm; omega
      have hown1 := row_same hown (W' := w1) fun g hg => hg1.block g ((hown.lt g hg).2) (fun e => by have := row_ge hown hg; cases e; omega)
      have hBw1 : Below W.heap.size W w1 := hbw.trans ⟨hg1.os, hg1.tape, hg1.output, by omega, fun k hk => hg1.block k (by omega) (fun e => by cases e; omega)⟩
      have hOa := hown1.alloc (.cells #[.int .i64 x] 3)
      have hsw : W.heap.size + 1 ≤ w1.heap.size := by omega
      have hlt' : w1.rangeLeft p W.heap.size < wr.rangeLeft p W.heap.size := by rw [hrg1.left_eq, hrg.left_eq]; exact hlt
      clear hs1 hrg hlt
      go_wp2_with (at_builtin; refine wpList_append_own_at _ rfl (.tmp 22) (.tmp 24) 97 rfl (W.heap.size + 1) 3 i0 (.int .i64 0) 1 8 Tryz.underlying97 hi hz0 hz1 hz2 rfl (by decide) u3 l.length (Tk.cs l) rfl hOa ⟨w1.heap.size, 0, none⟩ 1 1 [.int .i64 x] rfl rfl (cell_one_new _ _ _) (cs_one x) (by unfold maxLen; omega) (by omega) (by simp; omega) ?_; intro v2 w2 hown2 hg2 _ hloc)
      have hg3 : w1.grownBy w2 u3.ownBlock := (World.grownBy_alloc w1 _ _).trans hg2
      have hr2 := hrg1.kept hg3 (fun e => by have := row_ge hown e.symm; have := (hMA.1.lt); omega) (fun e => by have := row_ge hown e.symm; omega)
      go_roundw
      case rel =>
        refine ⟨l ++ [x], left1, cnt1, ?_, hr2, ?_, ?_, ?_⟩
        · have : Tk.cs (l ++ [x]) = Tk.cs l ++ [.int .i64 x] := by simp [Tk.cs]
          rw [this, List.length_append]; exact hown2
        · refine List.Perm.trans ?_ hpm
          rw [hrem, List.append_assoc]
          exact List.Perm.append_left l (((del_perm (hMA.2.rem left) hmem).map (fun p : Int × Pc => p.1)).symm)
        · exact hBw1.trans ⟨hg3.os, hg3.tape, hg3.output, hg3.size, fun k hk => hg3.block k (by omega) (fun e => by have := row_ge hown e.symm; omega)⟩
        · exact Nat.le_trans hsw hg3.size
      case measure => rw [hr2.left_eq, ← hrg1.left_eq]; exact hlt'
theorem cs_range (k : Nat) : Tk.cs ((List.range (k + 1)).map Int.ofNat) = Tk.cs ((List.range k).map Int.ofNat) ++ [.int .i64 (k : Int)] := by
  rw [List.range_succ]; simp [Tk.cs]
theorem len_range (k : Nat) : ((List.range k).map Int.ofNat).length = k := by simp
/-- A row that is appended to. -/
theorem row_more {W wr w2 : World} {v v2 : Value} {k : Nat} {x : Int} (hbw : Below W.heap.size W wr) (hown : wr.ownsRow W.heap.size 3 1 v k (Tk.cs ((List.range k).map Int.ofNat))) (hx : x = k)
    (hown2 : w2.ownsRow W.heap.size 3 1 v2 (k + 1) (Tk.cs ((List.range k).map Int.ofNat) ++ [.int .i64 x])) (hg2 : (wr.alloc (.cells #[.int .i64 x] 3)).grownBy w2 v.ownBlock) :
    w2.ownsRow W.heap.size 3 1 v2 (k + 1) (Tk.cs ((List.range (k + 1)).map Int.ofNat)) ∧ Below W.heap.size W w2 := by
  subst hx
  rw [cs_range]
  refine ⟨hown2, hbw.trans ?_⟩
  have hg3 := (World.grownBy_alloc wr (.cells #[.int .i64 (k : Int)] 3) _).trans hg2
  exact ⟨hg3.os, hg3.tape, hg3.output, hg3.size, fun j hj => hg3.block j (Nat.lt_of_lt_of_le hj hbw.size) (fun e => by have := row_ge hown e.symm; omega)⟩
set_option maxRecDepth 100000 in
set_option maxHeartbeats 2000000 in
theorem indices_dir (h : Sim W L fb n nb uv vals) {b : Nat} {hd : Hd} (hb : L b = some (.node hd)) (hok : NdOk (ndOf L hd)) (hk : hd.kind = 2) :
    Calls Tryz.prog 95 #[.pointer (some ⟨b, 0, none⟩)] W fun e W' => ∃ v l, e = .returned v ∧ W'.ownsRow W.heap.size 3 1 v l.length (Tk.cs l) ∧ l.Perm (indices (ndOf L hd)) ∧ Below W.heap.size W W' := by
  obtain ⟨c0, _, _, _, _, c5, _⟩ := node_cells (h.is b _ hb).2
  rw [hk] at c0
  obtain ⟨z1, z2⟩ : 0 ≤ hd.blocks ∧ hd.blocks ≤ 1000000 := hok.blocks
  have hind : indices (ndOf L hd) = (List.range hd.blocks.toNat).map Int.ofNat := by
    unfold indices; rw [if_neg (show ¬ (ndOf L hd).kind = 1 from by show ¬ hd.kind = 1; omega), if_pos (show (ndOf L hd).kind = 2 from hk)]; rfl
  rw [hind]
  obtain ⟨i0, hi, hz0, hz1, hz2⟩ := info_parts info_int
  generalize hbk : hd.blocks = bk at *
  go_enter Tryz.func95, Tryz.ntmps95
  go_wp2
  go_loopw [32, 3] (fun i v wr => ∃ k : Nat, (k : Int) ≤ bk ∧ i = .int .i64 (k : Int) ∧ wr.ownsRow W.heap.size 3 1 v k (Tk.cs ((List.range k).map Int.ofNat)) ∧ Below W.heap.size W wr) (fun i _ _ => (bk - intOf i).toNat)
  case atStart => exact ⟨0, by omega, rfl, World.ownsRow_nil _ _ _ _, Below.refl _ _⟩
  case round =>
    rename_i i v wr
    obtain ⟨k, hkb, rfl, hown, hbw⟩ := hrel
    by_cases hlt : (k : Int) < bk
    · have hOa := hown.alloc (.cells #[.int .i64 (k : Int)] 3)
      have hwz := hbw.size
      go_wp2_with (at_builtin; refine wpList_append_own_at _ rfl (.tmp 35) (.tmp 37) 97 rfl W.heap.size 3 i0 (.int .i64 0) 1 8 Tryz.underlying97 hi hz0 hz1 hz2 rfl (by decide) u3 k _ rfl hOa ⟨wr.heap.size, 0, none⟩ 1 1 [.int .i64 (k : Int)] rfl rfl (cell_one_new _ _ _) (cs_one _) (by unfold maxLen; omega) (by omega) (by simp; omega) ?_; intro v2 w2 hown2 hg2 _ hloc)
      go_roundw
      case rel => exact ⟨k + 1, by omega, by congr 1, (row_more hbw hown rfl hown2 hg2).1, (row_more hbw hown rfl hown2 hg2).2⟩
      case measure => simp only [intOf]; omega
    · go_wp2
      go_ret
      have e : bk.toNat = k := by omega
      exact ⟨_, rfl, (List.range k).map Int.ofNat, by rw [len_range]; exact hown, by rw [e], hbw⟩
set_option maxRecDepth 100000 in
set_option maxHeartbeats 2000000 in
theorem indices_link (h : Sim W L fb n nb uv vals) {b : Nat} {hd : Hd} (hb : L b = some (.node hd)) (hok : NdOk (ndOf L hd)) (hk : hd.kind = 3) :
    Calls Tryz.prog 95 #[.pointer (some ⟨b, 0, none⟩)] W fun e W' => ∃ v l, e = .returned v ∧ W'.ownsRow W.heap.size 3 1 v l.length (Tk.cs l) ∧ l.Perm (indices (ndOf L hd)) ∧ Below W.heap.size W W' := by
  obtain ⟨c0, _, _, _, _, _, c6, _⟩ := node_cells (h.is b _ hb).2
  rw [hk] at c0
  have hbl := (h.is b _ hb).1
  have z2 : hd.text.length ≤ 1000000 := hok.text
  have hind : indices (ndOf L hd) = (List.range ((hd.text.length + 511) / 512)).map Int.ofNat := by
    unfold indices; rw [if_neg (show ¬ (ndOf L hd).kind = 1 from by show ¬ hd.kind = 1; omega), if_neg (show ¬ (ndOf L hd).kind = 2 from by show ¬ hd.kind = 2; omega), if_pos (show (ndOf L hd).kind = 3 from hk)]; rfl
  rw [hind]
  obtain ⟨i0, hi, hz0, hz1, hz2⟩ := info_parts info_int
  generalize hbk : hd.text = tx at *
  have hts : (mk tx).size = tx.length := rfl
  obtain ⟨q, hq⟩ : ∃ q : Nat, q = tx.length := ⟨_, rfl⟩
  go_enter Tryz.func95, Tryz.ntmps95
  go_wp2
  go_loopw [6, 3] (fun i v wr => ∃ k : Nat, k ≤ (q + 511) / 512 ∧ i = .int .i64 (k : Int) ∧ wr.ownsRow W.heap.size 3 1 v k (Tk.cs ((List.range k).map Int.ofNat)) ∧ Below W.heap.size W wr) (fun i _ _ => (q + 511) / 512 - (intOf i).toNat)
  case atStart => exact ⟨0, by omega, rfl, World.ownsRow_nil _ _ _ _, Below.refl _ _⟩
  case round =>
    rename_i i v wr
    obtain ⟨k, hkb, rfl, hown, hbw⟩ := hrel
    have d6 := (bcell hbw).1 b 6 hbl
    rw [c6] at d6
    by_cases hlt : (k : Int) * 512 < (tx.length : Int)
    · have hOa := hown.alloc (.cells #[.int .i64 (k : Int)] 3)
      have hwz := hbw.size
      go_wp2_with (at_builtin; refine wpList_append_own_at _ rfl (.tmp 52) (.tmp 54) 97 rfl W.heap.size 3 i0 (.int .i64 0) 1 8 Tryz.underlying97 hi hz0 hz1 hz2 rfl (by decide) u3 k _ rfl hOa ⟨wr.heap.size, 0, none⟩ 1 1 [.int .i64 (k : Int)] rfl rfl (cell_one_new _ _ _) (cs_one _) (by unfold maxLen; omega) (by omega) (by simp; omega) ?_; intro v2 w2 hown2 hg2 _ hloc)
      go_roundw
      case rel => exact ⟨k + 1, by omega, by congr 1, (row_more hbw hown rfl hown2 hg2).1, (row_more hbw hown rfl hown2 hg2).2⟩
      case measure => simp only [intOf]; omega
    · go_wp2
      go_ret
      have e : (tx.length + 511) / 512 = k := by omega
      exact ⟨_, rfl, (List.range k).map Int.ofNat, by rw [len_range]; exact hown, by rw [e], hbw⟩
theorem indices_any (h : Sim W L fb n nb uv vals) (hw : WF L nb) {b : Nat} {hd : Hd} (hb : L b = some (.node hd)) (hok : NdOk (ndOf L hd)) :
    Calls Tryz.prog 95 #[.pointer (some ⟨b, 0, none⟩)] W fun e W' => ∃ v l, e = .returned v ∧ W'.ownsRow W.heap.size 3 1 v l.length (Tk.cs l) ∧ l.Perm (indices (ndOf L hd)) ∧ Below W.heap.size W W' := by
  rcases hok.kind with hk | hk | hk
  · exact indices_file h hw hb hok hk
  · exact indices_dir h hb hok hk
  · exact indices_link h hb hok hk
end
end Fs
end Go.Proofs.YtlnnbjgfpiefdaaGreat
/- How many blocks all inodes take; what an inode is told as. -/
namespace Go.Proofs.YtlnnbjgfpiefdaaGreat
open Go.RowKit Go.Maps Go.Shelf

namespace Fs
theorem tkN_bound (l : List Int) : 0 ≤ tkN l ∧ tkN l ≤ 2 * l.length + 2 := by
  unfold tkN
  split
  · omega
  · have h1 := Tk.dd_len_le l
    have h2 := Tk.dd_len_le (Tk.tab l)
    have h3 := Tk.tab_len l
    have h4 : Tk.one l ≤ 1 := by unfold Tk.one; split <;> omega
    have h5 : Tk.two l ≤ 1 := by unfold Tk.two; split <;> omega
    unfold Tk.count
    omega
theorem sum_perm {l l' : List Int} (h : l.Perm l') : l.sum = l'.sum := by
  induction h with
  | nil => rfl
  | cons x _ ih => rw [List.sum_cons, List.sum_cons, ih]
  | swap x y l => simp only [List.sum_cons]; omega
  | trans _ _ ih1 ih2 => rw [ih1, ih2]
theorem indices_len {x : Nd} (h : NdOk x) : (indices x).length ≤ 1000000 ∧ ∀ k ∈ indices x, 0 ≤ k ∧ k ≤ 1000000 := by
  unfold indices
  split
  · refine ⟨by rw [List.length_map]; exact h.pieces, fun k hk => ?_⟩
    obtain ⟨p, hp, rfl⟩ := List.mem_map.1 hk
    exact h.keys p hp
  · split
    · refine ⟨by have := h.blocks; simp; omega, fun k hk => ?_⟩
      obtain ⟨j, hj, rfl⟩ := List.mem_map.1 hk
      have := h.blocks
      have := List.mem_range.1 hj
      constructor
      · exact Int.natCast_nonneg _
      · show (j : Int) ≤ _; omega
    · split
      · refine ⟨by have := h.text; simp; omega, fun k hk => ?_⟩
        obtain ⟨j, hj, rfl⟩ := List.mem_map.1 hk
        have := h.text
        have := List.mem_range.1 hj
        constructor
        · exact Int.natCast_nonneg _
        · show (j : Int) ≤ _; omega
      · exact ⟨by simp, by simp⟩
theorem blocksOf_bound {x : Nd} (h : NdOk x) : 0 ≤ blocksOf x ∧ blocksOf x ≤ 3000000 := by
  have h1 := (indices_len h).1
  have h2 := tkN_bound (indices x)
  unfold blocksOf
  omega

section
variable {W : World} {L : Lay} {fb : Nat} {n : Int} {nb : Nat} {uv : Value} {vals : List Value}
/-- Takes of a row. -/
theorem takes_row {W : World} {base : Nat} {v : Value} {l l' : List Int} (h : W.ownsRow base 3 1 v l.length (Tk.cs l)) (hp : l.Perm l') (hl : l.length ≤ 1000000) (hk : ∀ k ∈ l, 0 ≤ k ∧ k ≤ 1000000) :
    Calls Tryz.prog 94 #[v] W fun e W' => ∃ z, e = .returned (.tuple #[.int .i64 (tkN l'), .int .i64 z]) ∧ Below W.heap.size W W' := by
  rw [← tkN_perm hp]
  obtain ⟨ao, cap, rfl⟩ := own_shape h
  have hwz : ∀ n ∈ l, (Lit.int .i64 n).wf = true := fun k hk' => wfI (by have := hk k hk'; omega) (by have := hk k hk'; omega)
  cases hl0 : l with
  | nil =>
    refine (Tk.takes_any [] ao 0 0 cap W (fun h => by simp at h) (by simp) (fun h => by simp at h) (fun j h => by simp at h) (by simp)).mono ?_
    rintro e w' ⟨rfl, hb⟩
    exact ⟨_, rfl, hb⟩
  | cons a r =>
    have hpos : 0 < l.length := by rw [hl0]; simp
    obtain ⟨g, c, hv, _, hg, _, _, hc, _⟩ := own_at h hpos
    cases hv
    have := (Tk.takes_any l (some ⟨g, 0, none⟩) g 0 cap W (fun _ => rfl) (by omega) (fun _ => hg) (fun j hj => by
      rw [Nat.zero_add, hc j (by omega), Tk.cs_get l j hj]) hwz)
    rw [← hl0]
    refine this.mono ?_
    rintro e w' ⟨rfl, hb⟩
    exact ⟨_, rfl, hb⟩

set_option maxRecDepth 100000 in
set_option maxHeartbeats 2000000 in
theorem taken_any (h : Sim W L fb n nb uv vals) (hw : WF L nb) (hok : ∀ i x, get (stOf L nb) i = some x → NdOk x) (hlen : (stOf L nb).length ≤ 1000000) :
    Calls Tryz.prog 65 #[.pointer (some ⟨fb, 0, none⟩)] W fun e W' => e = .returned (.int .i64 (taken (stOf L nb))) ∧ Below W.heap.size W W' := by
  obtain ⟨_, _, _, c3, _⟩ := fs_cells h.blk
  have hMA := h.nodesAt hw
  have hml : (nodesOf L nb).length ≤ 1000000 := by unfold stOf at hlen; rw [List.length_map] at hlen; exact hlen
  have hokb : ∀ p ∈ nodesOf L nb, NdOk (ndAtB L p.2) := fun p hp => hok p.1 _ (Adr.st (h := hw.rising.get.2 hp))
  have htk : taken (stOf L nb) = ((nodesOf L nb).map fun p => blocksOf (ndAtB L p.2)).sum := by unfold taken stOf; rw [List.map_map]; rfl
  rw [htk]
  have hsum : ∀ l : Al Int Nat, (∀ p ∈ l, p ∈ nodesOf L nb) → 0 ≤ (l.map fun p => blocksOf (ndAtB L p.2)).sum ∧ (l.map fun p => blocksOf (ndAtB L p.2)).sum ≤ 3000000 * l.length := by
    intro l
    induction l with
    | nil => intro _; simp
    | cons a r ih =>
      intro hl
      have h1 := blocksOf_bound (hokb a (hl a (by simp)))
      have h2 := ih fun p hp => hl p (by simp [hp])
      simp only [List.map_cons, List.sum_cons, List.length_cons]
      omega
  have hall := hsum _ (fun p hp => hp)
  generalize hT : ((nodesOf L nb).map fun p => blocksOf (ndAtB L p.2)).sum = T at *
  go_enter Tryz.func65, Tryz.ntmps65
  go_wp2_with (at_range; refine wpList_range_own _ rfl _ 57 rfl 3 61 kI Tryz.underlying57 rawElem nb _ _ rfl hMA.1 ?_; intro w0 hrg0 hg0 hs0)
  go_frame
  go_loopw [3] (fun v wr => ∃ (acc : Int) (left : Lit → Bool) (cnt : Nat), v = .int .i64 acc ∧ wr.ranges Tryz.prog 3 rawElem nb W.heap.size (nodesOf L nb).length (toD evP (nodesOf L nb)) left cnt ∧ acc + ((rem (nodesOf L nb) left).map fun p => blocksOf (ndAtB L p.2)).sum = T ∧ 0 ≤ acc ∧ Below W.heap.size W wr ∧ W.heap.size + 1 ≤ wr.heap.size) (fun _ wr => wr.rangeLeft nb W.heap.size)
  case atStart =>
    refine ⟨0, _, _, rfl, hrg0, ?_, by omega, ⟨hg0.os, hg0.tape, hg0.output, hg0.size, fun k hk => hg0.block k hk (by simp)⟩, by omega⟩
    rw [rem_all _ hMA.2, hT]; omega
  case round =>
    obtain ⟨acc, left, cnt, rfl, hrg, hacc, h0, hbw, hsz⟩ := hrel
    have hrs := hsum (rem (nodesOf L nb) left) (fun p hp => (List.mem_filter.1 hp).1)
    have hrl : (rem (nodesOf L nb) left).length ≤ 1000000 := Nat.le_trans (List.length_filter_le _ _) hml
    go_wp2_with (at_next; refine wpList_next_al _ rfl _ rfl kI (Value.int .i64) (fun x => x) keyOfI_inv keyOfI_val nb W.heap.size _ (nodesOf L nb) hMA.2 left cnt rfl hrg ?_ ?_)
    · intro hnil
      rw [hnil] at hacc
      have : acc = T := by simpa using hacc
      subst this
      go_wp2
      go_ret
      exact ⟨rfl, hbw⟩
    · intro x b w1 left1 cnt1 hmem hrem hrg1 hlt hg1 hs1 hen
      have hxm : (x, b) ∈ nodesOf L nb := (List.mem_filter.1 hmem).1
      obtain ⟨hd, hb⟩ := hw.node _ hxm
      have hnd := ndAtB_of hb
      have hokx := hokb _ hxm
      have hsp : ((rem (nodesOf L nb) left).map fun p => blocksOf (ndAtB L p.2)).sum = blocksOf (ndAtB L b) + ((rem (nodesOf L nb) left1).map fun p => blocksOf (ndAtB L p.2)).sum := by
        rw [hrem, sum_perm ((del_perm (hMA.2.rem left) hmem).map (fun p : Int × Nat => blocksOf (ndAtB L p.2)))]
        simp
      have hbb := blocksOf_bound hokx
      have hBw1 : Below W.heap.size W w1 := hbw.trans ⟨hg1.os, hg1.tape, hg1.output, by omega, fun k hk => hg1.block k (by omega) (fun e => by cases e; omega)⟩
      have hS1 := h.below hBw1
      have hms : w1.rangeLeft nb W.heap.size < wr.rangeLeft nb W.heap.size := by rw [hrg1.left_eq, hrg.left_eq]; exact hlt
      have hsw : W.heap.size + 1 ≤ w1.heap.size := by omega
      clear hs1 hrg hlt
      rw [hnd] at hsp hbb hokx
      have hac : acc ≤ 4000000000000 := by omega
      obtain ⟨hbb1, hbb2⟩ := hbb
      have hT2 : acc + blocksOf (ndOf L hd) + ((rem (nodesOf L nb) left1).map fun p => blocksOf (ndAtB L p.2)).sum = T := by rw [hsp] at hacc; omega
      have hac0 : 0 ≤ acc + blocksOf (ndOf L hd) := by omega
      unfold blocksOf at hbb1 hbb2
      unfold evP at hen
      go_wp2_with (first | (go_at_call 95; refine (indices_any hS1 hw hb hokx).mono ?_; rintro e w2 ⟨v2, l2, rfl, ho2, hp2, hb2⟩) | (go_at_call 94; refine (takes_row ho2 hp2 (by rw [hp2.length_eq]; exact (indices_len hokx).1) (fun k hk => (indices_len hokx).2 k (hp2.mem_iff.1 hk))).mono ?_; rintro e w3 ⟨z3, rfl, hb3⟩))
      have hr3 := ranges_below (ranges_below hrg1 hb2) hb3
      refine ⟨⟨acc + blocksOf (ndOf L hd), left1, cnt1, rfl, hr3, hT2, hac0, ?_, Nat.le_trans hsw (Nat.le_trans hb2.size hb3.size)⟩, ?_⟩
      · exact hBw1.trans ⟨hb3.os.trans hb2.os, hb3.tape.trans hb2.tape, hb3.output.trans hb2.output, Nat.le_trans hb2.size hb3.size, fun k hk => (hb3.block k (by have := hb2.size; omega)).trans (hb2.block k (by omega))⟩
      · rw [hr3.left_eq, ← hrg1.left_eq]; exact hms
end
end Fs
end Go.Proofs.YtlnnbjgfpiefdaaGreat
