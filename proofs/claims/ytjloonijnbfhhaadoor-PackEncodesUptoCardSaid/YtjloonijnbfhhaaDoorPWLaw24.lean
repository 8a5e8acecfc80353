/- The walk of the statement PackEncodes. -/
import Derived.Test.YtjloonijnbfhhaaDoorPWKept
import Derived.Test.YtjloonijnbfhhaaDoorPWDEnc
import Derived.Laws.Rows
namespace Go.Proofs.YtjloonijnbfhhaaDoor
open Go.RowKit Go.Maps

namespace Pw
open Pk
def ansB (l : List PItem) : List UInt8 := if right lt l then enc l else []
def ansC (l : List PItem) : Int := if right lt l then 0 else 240
theorem encode_ans (l : List PItem) (ao : Option Addr) (cap : Nat) (w : World) (hI : ItemsAt w ao l) (hs : ∀ x ∈ l, Sane x) (hl : l.length ≤ 2000000) (ht : Tabs w) :
    Calls Tryd.prog 25 #[.slice ao l.length cap] w fun e w' => ∃ a c, e = .returned (.tuple #[.slice a (ansB l).length c, .int .i64 (ansC l)]) ∧ Own w w' (.slice a (ansB l).length c) (ansB l) := by
  refine (encode_any l ao cap w hI hs hl ht).mono fun e w' ⟨hb, h0, h1⟩ => ?_
  unfold ansB ansC
  cases hr : right lt l with
  | false => exact ⟨none, 0, by rw [h0 hr]; rfl, World.ownsRow_nil _ _ _ _, hb⟩
  | true =>
    obtain ⟨v, he, ho⟩ := h1 hr
    obtain ⟨a, c, rfl⟩ := own_form ho.own
    exact ⟨a, c, he, ho⟩
theorem dencode_ans (l : List PItem) (ao : Option Addr) (cap : Nat) (w : World) (hI : ItemsAt w ao l) (hs : ∀ x ∈ l, Sane x) (hl : l.length ≤ 2000000) :
    Calls Tryd.prog 22 #[.slice ao l.length cap] w fun e w' => ∃ a c, e = .returned (.tuple #[.slice a (ansB l).length c, .int .i64 (ansC l)]) ∧ Own w w' (.slice a (ansB l).length c) (ansB l) := by
  refine (dencode_any l ao cap w hI hs hl).mono fun e w' ⟨hb, h0, h1⟩ => ?_
  unfold ansB ansC
  cases hr : right lt l with
  | false => exact ⟨none, 0, by rw [h0 hr]; rfl, World.ownsRow_nil _ _ _ _, hb⟩
  | true =>
    obtain ⟨v, he, ho⟩ := h1 hr
    obtain ⟨a, c, rfl⟩ := own_form ho.own
    exact ⟨a, c, he, ho⟩
theorem ans_len (l : List PItem) (hl : l.length ≤ 2000000) : (ansB l).length ≤ 20000000000000 := by
  unfold ansB
  split
  · rename_i hr
    have hF := right_fits (by omega) hr
    have := acc_len l hF l.length
    rw [acc_all l _ (Nat.le_refl _)] at this
    unfold enc
    rw [List.length_append, low_len]
    omega
  · exact Nat.zero_le _
theorem own_set1 {w : World} {base g i n cap : Nat} {e : TypeId} {xs : List Value} (h : w.ownsRow base e 1 (.slice (some ⟨g, 0, none⟩) n cap) n xs) (u : Value) : ∃ ys, (w.setCell ⟨g, i, none⟩ u).ownsRow base e 1 (.slice (some ⟨g, 0, none⟩) n cap) n ys := by
  rcases h.2 with ⟨e1, _⟩ | ⟨g', cap', cur, e1, hb, hh, hc, hm, hcs, _⟩
  · cases e1
  · cases e1
    refine ⟨(cur.setIfInBounds i u).toList.take (n * 1), ?_, .inr ⟨g, cap, cur.setIfInBounds i u, rfl, hb, heap_setCell_same w g i cur e u hh, hc, hm, by simpa using hcs, rfl⟩⟩
    rw [List.length_take, Array.length_toList, Array.size_setIfInBounds, hcs]
    omega
theorem run_bytes_string {P : Program} {S T D : TypeId} (B : BytesT P S T) (hd : P.underlying D = some .string) (w : World) (base : Nat) (v : Value) (l : List UInt8) (hown : w.ownsRow base T 1 v l.length (bytesV l)) : (convert S D v).run P w = .ok (.string (mk l)) w := by
  rcases hown.2 with ⟨rfl, hn⟩ | ⟨g, cap, cur, rfl, _⟩
  · have hl : l = [] := List.length_eq_zero_iff.1 hn
    subst hl
    rw [run_convert_bytes_string w S D T none 0 0 B.und B.elem hd]
    simp [Conv.bytesToString, Sem.run_pure]
    rfl
  · refine run_convert_bytes_back w S D T ⟨g, 0, none⟩ cap l B.und B.elem hd ?_
    intro j hj
    have := hown.cellAt j (by omega)
    rw [Addr.add_lit, Nat.zero_add, this]
    simp [bytesV, hj]
/-- The one item of the third call. -/
abbrev oneI : PItem := ⟨[], 2, 0, [], [], -1⟩
theorem one_right : right lt [oneI] = true := by decide
theorem one_len : (ansB [oneI]).length = 35 ∧ ansC [oneI] = 0 := by
  unfold ansB ansC
  rw [one_right]
  exact ⟨by decide, rfl⟩
theorem one_sane : ∀ x ∈ [oneI], Sane x := by
  intro x hx
  have : x = oneI := by simpa using hx
  subst this
  exact ⟨by decide, by decide, by decide, fun p hp => (by cases hp), by decide, by decide, by decide⟩
theorem one_at (w : World) : ItemsAt (w.alloc (.cells (itemC oneI (.slice none 0 0)).toArray 57)) (some ⟨w.heap.size, 0, none⟩) [oneI] := by
  intro j x hx
  have hj : j = 0 := by have := (List.getElem?_eq_some_iff.1 hx).1; simp at this; exact this
  subst hj
  have : x = oneI := by simpa using hx.symm
  subst this
  refine ⟨w.heap.size, 0, .slice none 0 0, rfl, by simp, ⟨none, 0, rfl, fun _ => ⟨rfl, rfl⟩, by decide, Nat.zero_le _, fun j p h => by cases h⟩, fun i c hi => ?_⟩
  have := news_new w (itemC oneI (.slice none 0 0)) 57 i c hi
  rw [Addr.add_lit, Nat.zero_add] at this
  rw [Nat.zero_add, Nat.zero_mul, Nat.zero_add]
  exact this
theorem Lent.grown {w0 W W' : World} {v : Value} {l : List PItem} (h : Lent w0 W v l) (hb : Below W.heap.size W W') : Lent w0 W' v l := by
  obtain ⟨g, cap, sls, hv, hcap, hown, hlen, hints, hbl⟩ := h
  exact ⟨g, cap, sls, hv, hcap, own_grown hown hb, hlen, fun j x s h1 h2 => (hints j x s h1 h2).grown hb rfl, hbl.trans (hb.mono hbl.size)⟩
set_option maxRecDepth 100000 in
set_option maxHeartbeats 4000000 in
theorem packEncodes_any (l : List PItem) (ao : Option Addr) (cap : Nat) (w : World) (hI : ItemsAt w ao l) (hs : ∀ x ∈ l, Sane x) (hl : l.length ≤ 2000000) (ht : Tabs w) :
    Calls Tryd.prog 7 #[.slice ao l.length cap] w fun e w' => e = .returned (.bool true) ∧ Below w.heap.size w w' := by
  have HR := ref_any l ao cap w hI hs hl
  have HLe := fun W (hW : Below w.heap.size w W) => lent_any l ao cap W (hI.below hW) hs hl
  have hEl := ans_len l hl
  have HE1 := fun (a : Option Addr) (c : Nat) (W : World) (h : ItemsAt W a l) => dencode_ans l a c W h hs hl
  have HE2 := fun (a : Option Addr) (c : Nat) (W : World) (h : ItemsAt W a l) (hW : Below w.heap.size w W) => encode_ans l a c W h hs hl (ht.all hW)
  obtain ⟨i0, hi0, hz0, hz1, hz2⟩ := info_parts byT.info
  generalize ansB l = E at *
  generalize ansC l = ec at *
  go_enter Tryd.func7, Tryd.ntmps7
  go_wp2_with fail
  refine HR.mono ?_
  rintro e w1 ⟨v1, sls, rfl, hO⟩
  obtain ⟨ro, rc, rfl, hRI⟩ := hO.at_
  have hb1 := hO.below
  clear hO HR
  go_wp2_with fail
  refine (HE1 ro rc w1 hRI).mono ?_
  rintro e w2 ⟨wa, wcap, rfl, hWn⟩
  have hb2 : Below w.heap.size w w2 := hb1.trans (hWn.below.mono hb1.size)
  clear HE1 hRI
  go_wp2_with fail
  refine (HLe w2 hb2).mono ?_
  rintro e w3 ⟨mv, rfl, hM⟩
  obtain ⟨mg, mc, rfl, hmc, _, hMI, _, _⟩ := hM.at_
  have hb23 : Below w2.heap.size w2 w3 := by obtain ⟨_, _, _, _, _, _, _, _, h⟩ := hM; exact h
  have hb3 : Below w.heap.size w w3 := hb2.trans (hb23.mono hb2.size)
  clear HLe
  go_wp2_with fail
  refine (HE2 _ mc w3 hMI hb3).mono ?_
  rintro e w4 ⟨aa, ac, rfl, hA⟩
  have hb4 : Below w.heap.size w w4 := hb3.trans (hA.below.mono hb3.size)
  go_wp2_with fail
  refine (HE2 _ mc w4 (hMI.below hA.below) hb4).mono ?_
  rintro e w5 ⟨ba, bc, rfl, hB⟩
  have hb5 : Below w.heap.size w w5 := hb4.trans (hB.below.mono hb4.size)
  have hK := kept_any w2 w5 l _ ao cap (hM.grown (hA.below.trans (hB.below.mono hA.below.size))) (hI.below hb5) hs hl
  have hlA := fun j e => hA.own.lt j e
  have hlB := fun j e => hB.own.lt j e
  have hlW := fun j e => hWn.own.lt j e
  have oA5 := own_grown hA.own hB.below
  have oW3 := own_grown hWn.own hb23
  have oW5 := own_grown (own_grown oW3 hA.below) hB.below
  have oB5 := hB.own
  have hz23 := hb23.size
  clear HE2 hMI hM oW3 hI
  have eE := mk_toList E
  have kA := run_bytes_string byT Tryd.underlying9 w5 _ _ E oA5
  have kW := run_bytes_string byT Tryd.underlying9 w5 _ _ E oW5
  have kB := run_bytes_string byT Tryd.underlying9 w5 _ _ E oB5
  go_wp2_with (go_at_call 26; refine hK.mono ?_; rintro e w6 ⟨rfl, hb6⟩)
  clear kA kW kB
  have hb : Below w.heap.size w w6 := hb5.trans (hb6.mono hb5.size)
  have oA := own_grown oA5 hb6
  have oW := own_grown oW5 hb6
  have oB := own_grown oB5 hb6
  have hz3 := hb3.size
  have hz4 := hA.below.size
  have hz5 := hB.below.size
  have hz6 := hb6.size
  clear oA5 oW5 oB5 hK hA hB hWn hb1 hb2 hb3 hb4 hb5 hb6 hb23
  go_loopw [61] (fun i wr => ∃ k : Nat, k ≤ E.length ∧ i = .int .i64 k ∧ (∃ xs, wr.ownsRow w3.heap.size 5 1 (.slice aa E.length ac) E.length xs) ∧ wr.ownsRow w1.heap.size 5 1 (.slice wa E.length wcap) E.length (bytesV E) ∧ wr.ownsRow w4.heap.size 5 1 (.slice ba E.length bc) E.length (bytesV E) ∧ Below w.heap.size w wr ∧ w6.heap.size ≤ wr.heap.size) (fun i _ => E.length - (intOf i).toNat)
  case atStart => exact ⟨0, Nat.zero_le _, rfl, ⟨_, oA⟩, oW, oB, hb, Nat.le_refl _⟩
  case round =>
    obtain ⟨k, hk, rfl, ⟨xs, hA⟩, hW, hB, hnx, hzr⟩ := hrel
    clear oA oW oB hb
    by_cases hlt : k < E.length
    · obtain ⟨ga, ca, e1, hga3, hgal, _, _, hca, hfa⟩ := own_at hA (by omega)
      cases e1
      have hki : (k : Int) < (E.length : Int) := by omega
      have hga4 := (hlA ga rfl).2
      have hxk : k < xs.length := by have := hA.1; omega
      have e2 := (hca k (by omega)).trans (List.getElem?_eq_getElem hxk)
      have e3 := hfa k
      have hA' := own_set1 (i := k) hA (.int .u8 91)
      have hW' := ownsRow_setCell_other hW (a := ⟨ga, k, none⟩) (fun e => by have h1 := (hlW ga e).2; omega) (.int .u8 91)
      have hB' := ownsRow_setCell_other hB (a := ⟨ga, k, none⟩) (fun e => by have h1 := (hlB ga e).1; omega) (.int .u8 91)
      have hnx' := hnx.setCell (p := ⟨ga, k, none⟩) (show w.heap.size ≤ ga by omega) (.int .u8 91)
      clear hA hW hB hca hfa
      go_wp2
      go_roundw
      case rel => exact ⟨k + 1, by omega, by go_num, hA', hW', hB', hnx', by simpa using hzr⟩
      case measure => simp [intOf]; omega
    · have hlen35 := one_len.1
      have hcode := one_len.2
      have hz1r : w.heap.size ≤ wr.heap.size := hnx.size
      go_upto_region 13 with (at_builtin; refine wpList_append_own_at _ rfl (.tmp 68) (.tmp 69) 45 rfl w3.heap.size 5 i0 (.int .u8 0) 1 1 Tryd.underlying45 hi0 hz0 hz1 hz2 rfl (by decide) (.slice aa E.length ac) _ _ rfl (hA.alloc _) ⟨wr.heap.size, 0, none⟩ 2 2 (bytesV [91, 91]) rfl rfl (news_new _ _ _) (bytesV_one [91, 91]) (by unfold maxLen; omega) (by omega) (by rw [World.size_alloc]; omega) ?_; intro v7 w7 ho7 hg7 _ _)
      have hW7 := (hW.alloc (.cells (bytesV [91, 91]).toArray 5)).kept hg7 (by
        cases hwo : (Value.slice wa E.length wcap).ownBlock with
        | none => exact .inl rfl
        | some j => exact .inr (fun e => by have h1 := (hlW j hwo).2; have h2 := (hlA j e.symm).1; omega))
      have hB7 := (hB.alloc (.cells (bytesV [91, 91]).toArray 5)).kept hg7 (by
        cases hbo : (Value.slice ba E.length bc).ownBlock with
        | none => exact .inl rfl
        | some j => exact .inr (fun e => by have h1 := (hlB j hbo).1; have h2 := (hlA j e.symm).2; omega))
      have hnx7 : Below w.heap.size w w7 := (hnx.alloc hz1r _).grown hg7 (by rw [World.size_alloc]; omega) (fun j e => by have h2 := (hlA j e).1; omega)
      have hnx7a := hnx7.alloc hnx7.size (.cells (itemC oneI (.slice none 0 0)).toArray 57)
      have HE3 : Calls Tryd.prog 25 #[.slice (some ⟨w7.heap.size, 0, none⟩) 1 1] (w7.alloc (.cells (itemC oneI (.slice none 0 0)).toArray 57)) fun e w' => ∃ a c, e = .returned (.tuple #[.slice a 35 c, .int .i64 0]) ∧ Below (w7.alloc (.cells (itemC oneI (.slice none 0 0)).toArray 57)).heap.size (w7.alloc (.cells (itemC oneI (.slice none 0 0)).toArray 57)) w' :=
        (encode_ans [oneI] (some ⟨w7.heap.size, 0, none⟩) 1 _ (one_at w7) one_sane (by simp) (ht.all hnx7a)).mono fun e w' ⟨a, c, he, ho⟩ => ⟨a, c, by rw [he, hlen35, hcode], ho.below⟩
      have hW8 := fun (W : World) (h : Below (w7.alloc (.cells (itemC oneI (.slice none 0 0)).toArray 57)).heap.size (w7.alloc (.cells (itemC oneI (.slice none 0 0)).toArray 57)) W) => run_bytes_string byT Tryd.underlying9 W _ _ E (own_grown (hW7.alloc _) h)
      have hB8 := fun (W : World) (h : Below (w7.alloc (.cells (itemC oneI (.slice none 0 0)).toArray 57)).heap.size (w7.alloc (.cells (itemC oneI (.slice none 0 0)).toArray 57)) W) => run_bytes_string byT Tryd.underlying9 W _ _ E (own_grown (hB7.alloc _) h)
      clear hW7 hB7 hA hW hB
      go_upto_region 14 with (first | (refine wpList_slice_item rfl 72 rfl rfl ?_) | (go_at_call 25; refine HE3.mono ?_; rintro e w8 ⟨oa, oc, rfl, hb8⟩))
      have k8 := hW8 w8 hb8
      have k9 := hB8 w8 hb8
      have hnx8 := hnx7a.trans (hb8.mono hnx7a.size)
      clear hW8 hB8 HE3 hb8
      go_wp2
      go_ret
      exact ⟨by simp, hnx8⟩
end Pw
end Go.Proofs.YtjloonijnbfhhaaDoor
