/- The walks of the document's Unquote and Quote. -/
import Derived.Test.YtjloonijnbfhhaaDoorERefWalk
namespace Go.Proofs.YtjloonijnbfhhaaDoor
open Go.RowKit

namespace Er
open Qw
theorem quoted0 (s : ByteArray) (w : World) (hs : s.size ≤ 1000000000000) (h0 : 0 < s.size) (hq : s[0].toNat = 34) : Calls Tryd.prog 30 #[.string s, .int .i64 0] w fun e w' => e = .returned (.tuple #[.string (mk (qx (bs s))), .int .i64 (qn (bs s)), .bool (decide (qn (bs s) ≠ 0))]) ∧ Below w.heap.size w w' := by
  have e : s[0] = 34 := (u8_eq (n := 34) (by omega)).2 hq
  refine (quoted_any s 0 ((bs s).drop 1) w hs (by rw [List.drop_zero, bs1 s h0, e]; rfl)).mono ?_
  rintro e w' ⟨rfl, hb⟩
  refine ⟨?_, hb⟩
  rw [List.drop_zero]
  by_cases hz : qn (bs s) = 0
  · rw [if_pos hz, hz]; rfl
  · rw [if_neg hz, Nat.zero_add]

set_option maxRecDepth 100000 in
theorem unquote_any (s : ByteArray) (w : World) (hs : s.size ≤ 1000000000000) : Calls Tryd.prog 10 #[.string s] w fun e w' => e = .returned (.tuple #[.string (mk (ux (bs s))), .int .i64 (ue (bs s))]) ∧ Below w.heap.size w w' := by
  have hs' : s.size ≤ 1000000000000000 := by omega
  cases hb : Cl.bare (bs s) with
  | true =>
    have HU := Lib.hid (unquote_bare hb)
    go_enter Tryd.func10, Tryd.ntmps10
    go_wp2_with (go_at_call 29; refine (bareR_any _ _ hs').mono ?_; rintro e w' ⟨rfl, rfl⟩)
    go_ret2
    exact ⟨by rw [HU.out.1, HU.out.2]; rfl, Below.refl _ _⟩
  | false =>
    by_cases h0 : s.size = 0
    · obtain ⟨hd, hl⟩ := empty_of h0
      have HU := Lib.hid (unquote_no hb (fun h => by rw [hl] at h; simp [qn, qd] at h))
      clear hl
      go_enter Tryd.func10, Tryd.ntmps10
      go_wp2_with (go_at_call 29; refine (bareR_any _ _ hs').mono ?_; rintro e w' ⟨rfl, rfl⟩)
      go_ret2
      exact ⟨by rw [HU.out.1, HU.out.2]; rfl, Below.refl _ _⟩
    · have hp : 0 < s.size := by omega
      have hd := nonempty_of hp
      by_cases hq : s[0].toNat = 34
      · have hb34 : ((s[0].toNat : Int) != 34) = false := by rw [bne_eq_false_iff_eq]; omega
        have HQ := Lib.hid hq
        by_cases hn : qn (bs s) = 0
        · have HU := Lib.hid (unquote_no hb (fun h => by omega))
          clear hq
          go_enter Tryd.func10, Tryd.ntmps10
          go_wp2_with (first | (go_at_call 29; refine (bareR_any _ _ hs').mono ?_; rintro e w' ⟨rfl, rfl⟩) | (go_at_call 30; refine (quoted0 _ _ hs hp HQ.out).mono ?_; rintro e w1 ⟨rfl, hb1⟩))
          go_ret2
          exact ⟨by rw [HU.out.1, HU.out.2]; rfl, hb1⟩
        · have hnz : decide (qn (bs s) ≠ 0) = true := by simpa using hn
          by_cases hl : qn (bs s) = s.size
          · have HU := Lib.hid (unquote_yes hb (by omega) (by rw [bs_len]; exact hl))
            have hl2 : ((qn (bs s) : Int) != (s.size : Int)) = false := by rw [bne_eq_false_iff_eq]; omega
            clear hq hl
            go_enter Tryd.func10, Tryd.ntmps10
            go_wp2_with (first | (go_at_call 29; refine (bareR_any _ _ hs').mono ?_; rintro e w' ⟨rfl, rfl⟩) | (go_at_call 30; refine (quoted0 _ _ hs hp HQ.out).mono ?_; rintro e w1 ⟨rfl, hb1⟩))
            go_ret2
            exact ⟨by rw [HU.out.1, HU.out.2]; rfl, hb1⟩
          · have HU := Lib.hid (unquote_no hb (fun h => hl (by rw [← bs_len]; exact h.2)))
            have hl2 : ((qn (bs s) : Int) != (s.size : Int)) = true := by rw [bne_iff_ne]; omega
            clear hq hl
            go_enter Tryd.func10, Tryd.ntmps10
            go_wp2_with (first | (go_at_call 29; refine (bareR_any _ _ hs').mono ?_; rintro e w' ⟨rfl, rfl⟩) | (go_at_call 30; refine (quoted0 _ _ hs hp HQ.out).mono ?_; rintro e w1 ⟨rfl, hb1⟩))
            go_ret2
            exact ⟨by rw [HU.out.1, HU.out.2]; rfl, hb1⟩
      · have HU := Lib.hid (unquote_no hb (fun h => by have := (qd_no (s := s) (fun _ => hq)).2; omega))
        have hb34 : ((s[0].toNat : Int) != 34) = true := by rw [bne_iff_ne]; omega
        clear hq
        go_enter Tryd.func10, Tryd.ntmps10
        go_wp2_with (go_at_call 29; refine (bareR_any _ _ hs').mono ?_; rintro e w' ⟨rfl, rfl⟩)
        go_ret2
        exact ⟨by rw [HU.out.1, HU.out.2]; rfl, Below.refl _ _⟩

set_option maxRecDepth 100000 in
set_option maxHeartbeats 2000000 in
theorem quote_any (s : ByteArray) (w : World) (hs : s.size ≤ 1000000000000) : Calls Tryd.prog 12 #[.string s] w fun e w' => e = .returned (.string (mk (Cl.quote (bs s)))) ∧ Below w.heap.size w w' := by
  have hs' : s.size ≤ 1000000000000000 := by omega
  cases hb : Cl.bare (bs s) with
  | true =>
    have HU := Lib.hid (show Cl.quote (bs s) = bs s by unfold Cl.quote; rw [hb]; rfl)
    go_enter Tryd.func12, Tryd.ntmps12
    go_wp2_with (go_at_call 29; refine (bareR_any _ _ hs').mono ?_; rintro e w' ⟨rfl, rfl⟩)
    go_ret
    exact ⟨by rw [HU.out]; rfl, Below.refl _ _⟩
  | false =>
    have HU := Lib.hid (quote_pre s hb)
    go_enter Tryd.func12, Tryd.ntmps12
    go_wp2_with (go_at_call 29; refine (bareR_any _ _ hs').mono ?_; rintro e w' ⟨rfl, rfl⟩)
    go_loopw [4, 5] (fun v i wr => ∃ k : Nat, k ≤ s.size ∧ i = .int .i64 k ∧ wr.ownsRow w.heap.size 5 1 v (pre (bs s) k).length (bytesV (pre (bs s) k)) ∧ Below w.heap.size w wr) (fun _ i _ => s.size - (intOf i).toNat)
    case atStart =>
      refine ⟨0, Nat.zero_le _, rfl, ?_, (Below.refl _ _).alloc (Nat.le_refl _) _⟩
      exact World.ownsRow_lit w #[.int .u8 34] 1 (Nat.le_refl _) (by unfold maxLen; decide) rfl
    case round =>
      obtain ⟨k, hk, rfl, hown, hnx⟩ := hrel
      clear hb
      have hsz := hnx.size
      have hpl := pre_len (bs s) k
      by_cases hlt : k < s.size
      · have HP := Lib.hid (pre_succ s k hlt)
        have hc := u8_lt s[k]
        by_cases h1 : s[k].toNat = 34 ∨ s[k].toNat = 92
        · have HE := Lib.hid (esc_back s[k] h1)
          rcases h1 with h1 | h1
          all_goals
            go_wp2_with (at_builtin; refine wpList_append_bytes bytesT wr rfl _ _ rfl _ w.heap.size _ (pre (bs s) k) [92, s[k]] 2 (by first | rfl | (simp only [bytesV, List.map_cons, List.map_nil, h1]; rfl)) (by rfl) (by rfl) hown (by rfl) (by simp only [List.length_cons, List.length_nil]; omega) hsz ?_; intro v1 w1 ho1 hg1 _)
            go_roundw
            case rel =>
              refine ⟨k + 1, by omega, by go_num, ?_, hnx.grown hg1 hsz (fun j hj => (hown.lt j hj).1)⟩
              rw [HP.out, HE.out]; exact ho1
            case measure => simp [intOf]; omega
        · have e1 : ((s[k].toNat : Int) == 34) = false := by rw [beq_eq_false_iff_ne]; omega
          have e2 : ((s[k].toNat : Int) == 92) = false := by rw [beq_eq_false_iff_ne]; omega
          by_cases h2 : 32 ≤ s[k].toNat ∧ s[k].toNat ≤ 126
          · have HE := Lib.hid (esc_self s[k] h1 h2.1 h2.2)
            have e3 : decide ((32 : Int) ≤ (s[k].toNat : Int)) = true := by rw [decide_eq_true_eq]; omega
            have e4 : decide ((s[k].toNat : Int) ≤ 126) = true := by rw [decide_eq_true_eq]; omega
            clear h1 h2
            go_wp2_with (at_builtin; refine wpList_append_bytes bytesT wr rfl _ _ rfl _ w.heap.size _ (pre (bs s) k) [s[k]] 1 (by rfl) (by rfl) (by rfl) hown (by rfl) (by simp only [List.length_cons, List.length_nil]; omega) hsz ?_; intro v1 w1 ho1 hg1 _)
            go_roundw
            case rel =>
              refine ⟨k + 1, by omega, by go_num, ?_, hnx.grown hg1 hsz (fun j hj => (hown.lt j hj).1)⟩
              rw [HP.out, HE.out]; exact ho1
            case measure => simp [intOf]; omega
          · have HE := Lib.hid (esc_hex s[k] h2)
            have ht1 : IntKind.u8.wrap ((s[k].toNat : Int).tdiv 16) = (s[k].toNat : Int) / 16 := IntWalk.u8_quo _ _ (by omega)
            have ht2 : IntKind.u8.wrap ((s[k].toNat : Int).tmod 16) = (s[k].toNat : Int) % 16 := by rw [Int.tmod_eq_emod_of_nonneg (by omega)]; exact u8_in _ (by omega) (by omega)
            have ht4 : (s[k].toNat : Int).tdiv 16 = (s[k].toNat : Int) / 16 := Int.tdiv_eq_ediv_of_nonneg (by omega)
            have ht5 : IntKind.u8.wrap ((s[k].toNat : Int) / 16) = (s[k].toNat : Int) / 16 := u8_in _ (by omega) (by omega)
            have ht6 : IntKind.u8.wrap ((s[k].toNat : Int) % 16) = (s[k].toNat : Int) % 16 := u8_in _ (by omega) (by omega)
            have ht3 : (s[k].toNat : Int).tmod 16 = (s[k].toNat : Int) % 16 := Int.tmod_eq_emod_of_nonneg (by omega)
            have q1 : (0 : Int) ≤ (s[k].toNat : Int) / 16 := by omega
            have q2 : (s[k].toNat : Int) / 16 < 16 := by omega
            have q3 : (0 : Int) ≤ (s[k].toNat : Int) % 16 := by omega
            have q4 : (s[k].toNat : Int) % 16 < 16 := by omega
            rcases (show s[k].toNat < 32 ∨ (32 ≤ s[k].toNat ∧ 126 < s[k].toNat) by omega) with h3 | ⟨h3, h4⟩
            · have e3 : decide ((32 : Int) ≤ (s[k].toNat : Int)) = false := by rw [decide_eq_false_iff_not]; omega
              clear h1 h2 h3
              go_wp2
              go_region_held3 (fun _ => True) (trivial) ((refine step_append_bytes_drew bytesT _ rfl _ _ rfl _ w.heap.size _ (pre (bs s) k) [92, 120, Cl.hexd (s[k] / 16), Cl.hexd (s[k] % 16)] 4 (by exact hexCells _ _ _) (by rfl) (by simp) (by rfl) (by exact hown) (by rfl) (by simp only [List.length_cons, List.length_nil]; omega) (by exact hsz) ?_; intro v1 w1 ho1 hg1))
              all_goals
                go_wp2
                go_roundw
                case rel =>
                  refine ⟨k + 1, by omega, by go_num, ?_, hnx.grown hg1 hsz (fun j hj => (hown.lt j hj).1)⟩
                  rw [HP.out, HE.out]; exact ho1
                case measure => simp [intOf]; omega
            · have e3 : decide ((32 : Int) ≤ (s[k].toNat : Int)) = true := by rw [decide_eq_true_eq]; omega
              have e4 : decide ((s[k].toNat : Int) ≤ 126) = false := by rw [decide_eq_false_iff_not]; omega
              clear h1 h2 h3 h4
              go_wp2
              go_region_held3 (fun _ => True) (trivial) ((refine step_append_bytes_drew bytesT _ rfl _ _ rfl _ w.heap.size _ (pre (bs s) k) [92, 120, Cl.hexd (s[k] / 16), Cl.hexd (s[k] % 16)] 4 (by exact hexCells _ _ _) (by rfl) (by simp) (by rfl) (by exact hown) (by rfl) (by simp only [List.length_cons, List.length_nil]; omega) (by exact hsz) ?_; intro v1 w1 ho1 hg1))
              all_goals
                go_wp2
                go_roundw
                case rel =>
                  refine ⟨k + 1, by omega, by go_num, ?_, hnx.grown hg1 hsz (fun j hj => (hown.lt j hj).1)⟩
                  rw [HP.out, HE.out]; exact ho1
                case measure => simp [intOf]; omega
      · have hkz : k = s.size := by omega
        subst hkz
        go_wp2_with (first | (at_builtin; refine wpList_append_bytes bytesT wr rfl _ _ rfl _ w.heap.size _ (pre (bs s) s.size) [34] 1 (by rfl) (by rfl) (by rfl) hown (by rfl) (by simp only [List.length_cons, List.length_nil]; omega) hsz ?_; intro v1 w1 ho1 hg1 _) | (refine wpList_bytes_string bytesT Tryd.underlying9 _ rfl _ rfl w.heap.size _ (pre (bs s) s.size ++ [34]) (by rfl) ho1 ?_))
        go_ret
        exact ⟨by rw [HU.out]; rfl, hnx.grown hg1 hsz (fun j hj => (hown.lt j hj).1)⟩
end Er
end Go.Proofs.YtjloonijnbfhhaaDoor
