/- The walk of the iterator over a path's pieces. -/
import Derived.RangeFuncNested
import Derived.RangeFuncBound
import Derived.RangeFuncCalls
import Derived.RangeFuncLeaves
import Derived.RangeFuncBox
import Derived.Shelf.Abstract
import Derived.Shelf.RegionOpen
import Derived.WalkKit
import Derived.OwnWalkIn
import Derived.TacticsInMore
import Derived.LoopNIn
import Derived.LoopIn
import Derived.Maps.AppendAt
import Derived.Test.YtnmgdlmicgbapaaDoorPPieces
import Derived.Test.YtnmgdlmicgbapaaDoorPWItem
namespace Go.Proofs.YtnmgdlmicgbapaaDoor
open Go.RowKit Go.Shelf

attribute [local go_sem] Oper.semAt_some
namespace Pw
open Pk
theorem mk_cut (l : List UInt8) (a b : Nat) : (mk l).extract a b = mk ((l.drop a).take (b - a)) := Lib.extract_mk l a b
theorem u8_47 {c : UInt8} (h : c.toNat = 47) : c = 47 := UInt8.toNat.inj (by rw [h]; rfl)
theorem u8_47' {c : UInt8} (h : ¬ c.toNat = 47) : c ≠ 47 := fun e => h (by rw [e]; rfl)
/-- What a round must keep: the text's box. -/
def KeepsBox (b : Nat) (s : ByteArray) (W W' : World) : Prop := Boxed W b 9 (.string s) → Boxed W' b 9 (.string s)
theorem keepsBox_t {b : Nat} {s : ByteArray} {A B C : World} (h : KeepsBox b s A B) (k : KeepsBox b s B C) : KeepsBox b s A C := fun x => k (h x)
set_option maxRecDepth 100000 in
set_option maxHeartbeats 2000000 in
theorem pieces1_in (F : Fence) (n : Nat) (hf : F.fn 71) (hro : F.round = none) (hn : 1 ≤ n) (l Bs : Nat) (s : ByteArray) (hs : s.size ≤ 1000000000000) (J Jx : List (List UInt8) → World → Prop)
    (hY : ∀ pre x W, J pre W → pre.length < s.size + 1 → YieldAt F (n - 1) Tryd.prog l #[.string (mk x)] W fun e W' =>
      (e = .returned (.bool true) ∧ J (pre ++ [x]) W' ∧ KeepsBox Bs s W W') ∨ (e = .returned (.bool false) ∧ Jx (pre ++ [x]) W'))
    (W : World) (hB : Boxed W Bs 9 (.string s)) (h0 : J [] W) :
    CallsIn F n Tryd.prog 71 #[.func (.yield l) #[] #[], .pointer (some ⟨Bs, 0, none⟩)] W fun e W' => (∃ v, e = .returned v) ∧
      ((∃ ys, ys = pcs (bs s) ∧ J ys W') ∨ (∃ pre, pre <+: pcs (bs s) ∧ Jx pre W')) := by
  have hpc := pcs_count (bs s)
  rw [bs_len] at hpc
  refine callsIn_of_wp Tryd.func71 rfl hf ?_ hro
  simp only [Tryd.ntmps71, List.size_toArray, List.length_cons, List.length_nil, Nat.reduceAdd, Nat.reduceSub, Array.replicate_succ, Array.replicate_zero, List.push_toArray, List.append_toArray, List.nil_append, List.cons_append]
  gi_wp2
  gi_loopw [3] (fun a wr => ∃ (k : Nat) (pre : List (List UInt8)), k ≤ s.size ∧ a = .int .i64 k ∧ Hid (pcs (bs s) = pre ++ pcs ((bs s).drop k)) ∧ J pre wr ∧ Boxed wr Bs 9 (.string s))
    (fun a _ => s.size - (intOf a).toNat)
  case atStart => exact ⟨0, [], Nat.zero_le _, rfl, rfl, h0, hB⟩
  case round =>
    obtain ⟨k, pre, hk, rfl, hR, hJ, hBx⟩ := hrel
    have hbc := hBx.cell
    by_cases hlt : k < s.size
    · have hget := bs_get s k hlt
      by_cases h47 : s[k].toNat = 47
      · have h1 : ((s[k].toNat : Int) == 47) = true := by simp [h47]
        have HP := Lib.hid (pcs_at_slash (bs s) k (by rw [hget, u8_47 h47]))
        clear h47 hget
        gi_wp2
        go_roundw
        case rel => exact ⟨k + 1, pre, by omega, by go_num, by have := hR.out; rw [HP.out] at this; exact this, hJ, hBx⟩
        case measure => simp [intOf]; omega
      · have h1 : ((s[k].toNat : Int) == 47) = false := by simp; omega
        have H47 := Lib.hid (u8_47' h47)
        clear hget
        gi_wp2
        gi_loopw [4] (fun e wr' => ∃ j : Nat, k ≤ j ∧ j ≤ s.size ∧ e = .int .i64 j ∧ Hid (∀ i, k ≤ i → i < j → (bs s)[i]? ≠ some 47) ∧ wr' = wr) (fun e _ => s.size - (intOf e).toNat)
        case atStart => exact ⟨k, Nat.le_refl _, hk, rfl, fun i h1 h2 => by omega, rfl⟩
        case round =>
          obtain ⟨j, hkj, hjs, rfl, hN, rfl⟩ := hrel
          by_cases hjl : j < s.size
          · have hgj := bs_get s j hjl
            by_cases hj47 : s[j].toNat = 47
            · have h2 : ((s[j].toNat : Int) != 47) = false := by simp [hj47]
              have hlt2 : k < j := by
                rcases Nat.lt_or_ge k j with h | h
                · exact h
                · exfalso
                  obtain rfl : j = k := by omega
                  exact h47 hj47
              have HP := Lib.hid (pcs_piece (bs s) k j hlt2 (by rw [bs_len]; omega) hN.out (.inr (by rw [hgj, u8_47 hj47])))
              clear hj47 hgj h47 hN
              have hpl : pre.length < s.size + 1 := by
                have h3 := congrArg List.length hR.out
                rw [HP.out, List.length_append, List.length_cons] at h3
                omega
              have hex : s.extract k j = mk (((bs s).drop k).take (j - k)) := mk_cut (bs s) k j
              obtain ⟨X, hX⟩ : ∃ X, X = ((bs s).drop k).take (j - k) := ⟨_, rfl⟩
              rw [← hX] at hex HP
              have hkb : (bs s).length = s.size := bs_len s
              obtain ⟨fn, tmps, assign, body, hy, hRd⟩ := hY pre X wr hJ hpl
              clear hkb hX hpl
              gi_wp2
              refine hRd.mono ?_
              rintro e W3 (⟨rfl, hJ3, hk3⟩ | ⟨rfl, hJx3⟩)
              · have hB3 := hk3 hBx
                have hbc3 := hB3.cell
                gi_wp2
                go_roundw
                case rel => exact ⟨j, pre ++ [X], by omega, rfl, by have := hR.out; rw [HP.out] at this; rw [this]; exact List.append_cons _ _ _, hJ3, hB3⟩
                case measure => simp [intOf]; omega
              · gi_wp2
                refine bodyPost_ret (results_none rfl _ _ _) rfl ?_
                exact ⟨⟨_, rfl⟩, .inr ⟨pre ++ [X], ⟨_, by have := hR.out; rw [HP.out] at this; rw [this]; exact (List.append_cons _ _ _).symm⟩, hJx3⟩⟩
            · have h2 : ((s[j].toNat : Int) != 47) = true := by simp; omega
              have HN := Lib.hid (show ∀ i, k ≤ i → i < j + 1 → (bs s)[i]? ≠ some 47 from fun i hi1 hi2 => by
                rcases Nat.lt_or_ge i j with h | h
                · exact hN.out i hi1 h
                · obtain rfl : i = j := by omega
                  rw [hgj]; exact fun e => u8_47' hj47 (Option.some.inj e))
              clear hj47 hgj h47 hN
              gi_wp2
              go_roundw
              case rel => exact ⟨j + 1, by omega, by omega, by go_num, HN, by first | rfl | trivial⟩
              case measure => simp [intOf]; omega
          · obtain rfl : j = s.size := by omega
            have HP := Lib.hid (pcs_piece (bs s) k s.size hlt (by rw [bs_len]; exact Nat.le_refl _) hN.out (.inl (bs_len s).symm))
            clear hN h47
            have hpl : pre.length < s.size + 1 := by
              have h3 := congrArg List.length hR.out
              rw [HP.out, List.length_append, List.length_cons] at h3
              omega
            have hex : s.extract k s.size = mk (((bs s).drop k).take (s.size - k)) := mk_cut (bs s) k s.size
            obtain ⟨X, hX⟩ : ∃ X, X = ((bs s).drop k).take (s.size - k) := ⟨_, rfl⟩
            rw [← hX] at hex HP
            have hkb : (bs s).length = s.size := bs_len s
            obtain ⟨fn, tmps, assign, body, hy, hRd⟩ := hY pre X wr hJ hpl
            clear hkb hX hpl
            gi_wp2
            refine hRd.mono ?_
            rintro e W3 (⟨rfl, hJ3, hk3⟩ | ⟨rfl, hJx3⟩)
            · have hB3 := hk3 hBx
              have hbc3 := hB3.cell
              gi_wp2
              go_roundw
              case rel => exact ⟨s.size, pre ++ [X], by omega, rfl, by have := hR.out; rw [HP.out] at this; rw [this]; exact List.append_cons _ _ _, hJ3, hB3⟩
              case measure => simp [intOf]; omega
            · gi_wp2
              refine bodyPost_ret (results_none rfl _ _ _) rfl ?_
              exact ⟨⟨_, rfl⟩, .inr ⟨pre ++ [X], ⟨_, by have := hR.out; rw [HP.out] at this; rw [this]; exact (List.append_cons _ _ _).symm⟩, hJx3⟩⟩
    · have HP := Lib.hid (show pcs ((bs s).drop k) = [] by rw [List.drop_eq_nil_of_le (by rw [bs_len]; omega)]; rfl)
      gi_wp2
      go_end0
      exact ⟨⟨_, rfl⟩, .inl ⟨pre, by have := hR.out; rw [HP.out, List.append_nil] at this; exact this.symm, hJ⟩⟩
end Pw
end Go.Proofs.YtnmgdlmicgbapaaDoor
