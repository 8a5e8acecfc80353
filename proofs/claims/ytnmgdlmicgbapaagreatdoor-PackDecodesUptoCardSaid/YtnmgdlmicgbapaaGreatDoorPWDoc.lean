/- The walks of the document's text, name, names, ahead, above. -/
import Derived.Test.YtnmgdlmicgbapaaGreatDoorPDoc
import Derived.Test.YtnmgdlmicgbapaaGreatDoorPWText
import Derived.Test.YtnmgdlmicgbapaaGreatDoorPWItem2
namespace Go.Proofs.YtnmgdlmicgbapaaGreatDoor
open Go.RowKit

namespace Pw
open Pk
theorem u8_0 {c : UInt8} (h : c.toNat = 0) : c = 0 := UInt8.toNat.inj (by rw [h]; rfl)
theorem u8_0' {c : UInt8} (h : ¬ c.toNat = 0) : c ≠ 0 := fun e => h (by rw [e]; rfl)
theorem isC_no {p : List UInt8} (h : p = [] ∨ p = [46]) : cnt p = 0 := by
  unfold cnt isC
  rw [if_neg]
  rcases h with h | h <;> simp [h]
theorem isC_yes {p : List UInt8} (h : p ≠ []) (h2 : p ≠ [46]) : cnt p = 1 := by
  unfold cnt isC
  rw [if_pos (by simp [h, h2])]
set_option maxHeartbeats 2000000 in
theorem dtext_any (s : ByteArray) (w : World) (hs : s.size ≤ 2000000) : Calls Tryz.prog 40 #[.string s] w fun e w' => e = .returned (.bool (text (bs s))) ∧ w = w' := by
  by_cases h0 : s.size < 1 ∨ 1024 < s.size
  · have HF := Lib.hid (text_short (bs s) (by
      rcases h0 with h | h
      · exact .inl (List.length_eq_zero_iff.1 (by rw [bs_len]; omega))
      · exact .inr (by rw [bs_len]; omega)))
    rcases h0 with h | h
    all_goals
      go_enter Tryz.func40, Tryz.ntmps40
      go_wp2
      go_ret
      exact ⟨ret_bool HF.out.symm, rfl⟩
  · have h1 : 1 ≤ s.size := by omega
    have h2 : s.size ≤ 1024 := by omega
    have HS := Lib.hid (rest_start (bs s) (fun h => by have := bs_len s; rw [h] at this; simp at this; omega) (by rw [bs_len]; omega))
    clear h0 hs
    go_enter Tryz.func40, Tryz.ntmps40
    go_wp2
    go_loop [3, 4, 5] (fun qv fv i => ∃ k f q : Nat, i = .int .i64 k ∧ fv = .int .i64 f ∧ qv = .int .i64 q ∧ q ≤ k ∧ k ≤ s.size + 1 ∧ f ≤ k ∧ ((k ≤ s.size ∧ Hid (∀ j, f ≤ j → j < k → (bs s)[j]? ≠ some 47) ∧ Hid (text (bs s) = restB (bs s) k f q)) ∨ (k = s.size + 1 ∧ Hid (text (bs s) = decide (q ≤ 32))))) (fun _ _ i => s.size + 1 - (intOf i).toNat)
    case atStart => exact ⟨0, 0, 0, rfl, rfl, rfl, Nat.le_refl _, by omega, Nat.le_refl _, .inl ⟨by omega, fun j _ hj => by omega, HS.out⟩⟩
    case round =>
      obtain ⟨k, f, q, rfl, rfl, rfl, hq, hk, hf, hR⟩ := hrel
      rcases hR with ⟨hks, hN, hR⟩ | ⟨rfl, hR⟩
      · by_cases hlt : k < s.size
        · have hget := bs_get s k hlt
          by_cases hz : s[k].toNat = 0
          · have hz1 : ((s[k].toNat : Int) == 0) = true := by simp [hz]
            have HF := Lib.hid (rest_zero (bs s) k f q (by rw [hget, u8_0 hz]))
            clear hz hget
            go_wp2
            go_ret
            exact ⟨ret_bool (by rw [hR.out, HF.out]), rfl⟩
          · have hz1 : ((s[k].toNat : Int) == 0) = false := by simp; omega
            have HX := Lib.hid (rest_next (bs s) k f q s[k] hget (u8_0' hz))
            by_cases h47 : s[k].toNat = 47
            · have h471 : ((s[k].toNat : Int) != 47) = false := by simp [h47]
              have HP := Lib.hid (HX.out.trans (rest_piece (bs s) k f q hf (by rw [hget, u8_47 h47]) hN.out))
              have hex : s.extract f k = mk (((bs s).drop f).take (k - f)) := mk_cut (bs s) f k
              obtain ⟨X, hX⟩ : ∃ X, X = ((bs s).drop f).take (k - f) := ⟨_, rfl⟩
              have hxk : X.length ≤ s.size := by rw [hX, List.length_take, List.length_drop, bs_len]; omega
              rw [← hX] at hex HP
              clear hX h47 hget HX hN hz
              have hxl : (mk X).size = X.length := rfl
              by_cases h27 : 27 < X.length
              · have HF := Lib.hid (show text (bs s) = false by rw [hR.out, HP.out, decide_eq_false (by omega)]; rfl)
                go_wp2
                go_ret
                exact ⟨ret_bool HF.out.symm, rfl⟩
              · have HT := Lib.hid (show text (bs s) = _ by rw [hR.out, HP.out, decide_eq_true (by omega), Bool.true_and])
                clear HP hR
                by_cases hx0 : X = []
                · have HC := Lib.hid (isC_no (.inl hx0))
                  have hx1 : (mk X).toList = [] := by rw [mk_toList]; exact hx0
                  have hx5 : (mk X).toList.isEmpty = true := by rw [hx1]; rfl
                  clear hx0
                  go_wp2
                  go_round
                  case rel => exact ⟨k + 1, k + 1, q, by go_num, by go_num, rfl, by omega, by omega, by omega, .inl ⟨by omega, fun j h1 h2 => by omega, by have := HT.out; rw [HC.out] at this; exact this⟩⟩
                  case measure => simp [intOf] <;> omega
                · have hx1 : ¬ (mk X).toList = [] := by rw [mk_toList]; exact hx0
                  have hx5 : (mk X).toList.isEmpty = false := by rw [List.isEmpty_eq_false_iff]; exact hx1
                  by_cases hx2 : X = [46]
                  · have HC := Lib.hid (isC_no (.inr hx2))
                    have hx3 : ((mk X).toList == [46]) = true := by rw [mk_toList, hx2]; rfl
                    have hx4 : ((mk X).toList != [46]) = false := by rw [mk_toList, hx2]; rfl
                    clear hx0 hx2
                    go_wp2
                    go_round
                    case rel => exact ⟨k + 1, k + 1, q, by go_num, by go_num, rfl, by omega, by omega, by omega, .inl ⟨by omega, fun j h1 h2 => by omega, by have := HT.out; rw [HC.out] at this; exact this⟩⟩
                    case measure => simp [intOf] <;> omega
                  · have HC := Lib.hid (isC_yes hx0 hx2)
                    have hx3 : ((mk X).toList == [46]) = false := by rw [mk_toList, beq_eq_false_iff_ne]; exact hx2
                    have hx4 : ((mk X).toList != [46]) = true := by rw [mk_toList, bne_iff_ne]; exact hx2
                    clear hx0 hx2
                    go_wp2
                    go_round
                    case rel => exact ⟨k + 1, k + 1, q + 1, by go_num, by go_num, by go_num, by omega, by omega, by omega, .inl ⟨by omega, fun j h1 h2 => by omega, by have := HT.out; rw [HC.out] at this; exact this⟩⟩
                    case measure => simp [intOf] <;> omega
            · have h471 : ((s[k].toNat : Int) != 47) = true := by simp; omega
              have HN2 := Lib.hid (show ∀ j, f ≤ j → j < k + 1 → (bs s)[j]? ≠ some 47 from fun j h1 h2 => by
                rcases Nat.lt_or_ge j k with h | h
                · exact hN.out j h1 h
                · obtain rfl : j = k := by omega
                  rw [hget]; exact fun e => u8_47' h47 (Option.some.inj e))
              clear hz h47 hget
              go_wp2
              go_round
              case rel => exact ⟨k + 1, f, q, by go_num, rfl, rfl, by omega, by omega, by omega, .inl ⟨by omega, HN2, hR.out.trans HX.out⟩⟩
              case measure => simp [intOf] <;> omega
        · obtain rfl : k = s.size := by omega
          have HP := Lib.hid (rest_end (bs s) f q (fun j h1 h2 => hN.out j h1 (by rw [bs_len] at h2; exact h2)))
          rw [bs_len] at HP
          have hex : s.extract f s.size = mk ((bs s).drop f) := Lib.extract_from s f
          obtain ⟨X, hX⟩ : ∃ X, X = (bs s).drop f := ⟨_, rfl⟩
          have hxk : X.length ≤ s.size := by rw [hX, List.length_drop, bs_len]; omega
          rw [← hX] at hex HP
          clear hX hN
          have hxl : (mk X).size = X.length := rfl
          by_cases h27 : 27 < X.length
          · have HF := Lib.hid (show text (bs s) = false by rw [hR.out, HP.out, decide_eq_false (by omega)]; rfl)
            go_wp2
            go_ret
            exact ⟨ret_bool HF.out.symm, rfl⟩
          · have HT := Lib.hid (show text (bs s) = _ by rw [hR.out, HP.out, decide_eq_true (by omega), Bool.true_and])
            clear HP hR
            by_cases hx0 : X = []
            · have HC := Lib.hid (isC_no (.inl hx0))
              have hx1 : (mk X).toList = [] := by rw [mk_toList]; exact hx0
              have hx5 : (mk X).toList.isEmpty = true := by rw [hx1]; rfl
              clear hx0
              go_wp2
              go_round
              case rel => exact ⟨s.size + 1, s.size + 1, q, by go_num, by go_num, rfl, by omega, by omega, by omega, .inr ⟨rfl, by have := HT.out; rw [HC.out] at this; exact this⟩⟩
              case measure => simp [intOf] <;> omega
            · have hx1 : ¬ (mk X).toList = [] := by rw [mk_toList]; exact hx0
              have hx5 : (mk X).toList.isEmpty = false := by rw [List.isEmpty_eq_false_iff]; exact hx1
              by_cases hx2 : X = [46]
              · have HC := Lib.hid (isC_no (.inr hx2))
                have hx3 : ((mk X).toList == [46]) = true := by rw [mk_toList, hx2]; rfl
                have hx4 : ((mk X).toList != [46]) = false := by rw [mk_toList, hx2]; rfl
                clear hx0 hx2
                go_wp2
                go_round
                case rel => exact ⟨s.size + 1, s.size + 1, q, by go_num, by go_num, rfl, by omega, by omega, by omega, .inr ⟨rfl, by have := HT.out; rw [HC.out] at this; exact this⟩⟩
                case measure => simp [intOf] <;> omega
              · have HC := Lib.hid (isC_yes hx0 hx2)
                have hx3 : ((mk X).toList == [46]) = false := by rw [mk_toList, beq_eq_false_iff_ne]; exact hx2
                have hx4 : ((mk X).toList != [46]) = true := by rw [mk_toList, bne_iff_ne]; exact hx2
                clear hx0 hx2
                go_wp2
                go_round
                case rel => exact ⟨s.size + 1, s.size + 1, q + 1, by go_num, by go_num, by go_num, by omega, by omega, by omega, .inr ⟨rfl, by have := HT.out; rw [HC.out] at this; exact this⟩⟩
                case measure => simp [intOf] <;> omega
      · go_wp2
        go_ret
        refine ⟨ret_bool ?_, rfl⟩
        rw [hR.out, decide_eq_decide]
        omega
theorem dname_any (s : ByteArray) (w : World) (hs : s.size ≤ 2000000) : Calls Tryz.prog 37 #[.string s] w fun e w' => e = .returned (.bool (goodName (bs s))) ∧ w = w' := by
  have HG := Lib.hid (name_bytes (bs s))
  have hbl : (bs s).length = s.size := bs_len s
  by_cases h0 : s.size < 1 ∨ 27 < s.size
  · have HF := Lib.hid (show goodName (bs s) = false by rw [HG.out, decide_eq_false (by rintro ⟨a, b, _⟩; omega)]; rfl)
    clear hbl
    rcases h0 with h | h
    all_goals
      go_enter Tryz.func37, Tryz.ntmps37
      go_wp2
      go_ret
      exact ⟨ret_bool HF.out.symm, rfl⟩
  · have h1 : 1 ≤ s.size := by omega
    have h2 : s.size ≤ 27 := by omega
    by_cases hd : bs s = [46] ∨ bs s = [46, 46]
    · have HF := Lib.hid (show goodName (bs s) = false by rw [HG.out, decide_eq_false (by rintro ⟨_, _, c, d⟩; rcases hd with h | h; exact c h; exact d h)]; rfl)
      clear hbl h0
      rcases hd with h | h
      · have h3 : (s.toList == [46]) = true := by rw [toList_bs, h]; rfl
        clear h
        go_enter Tryz.func37, Tryz.ntmps37
        go_wp2
        go_ret
        exact ⟨ret_bool HF.out.symm, rfl⟩
      · have h3 : (s.toList == [46]) = false := by rw [toList_bs, h]; rfl
        have h4 : (s.toList == [46, 46]) = true := by rw [toList_bs, h]; rfl
        clear h
        go_enter Tryz.func37, Tryz.ntmps37
        go_wp2
        go_ret
        exact ⟨ret_bool HF.out.symm, rfl⟩
    · have h3 : (s.toList == [46]) = false := by rw [toList_bs, beq_eq_false_iff_ne]; exact fun h => hd (.inl h)
      have h4 : (s.toList == [46, 46]) = false := by rw [toList_bs, beq_eq_false_iff_ne]; exact fun h => hd (.inr h)
      have HF := Lib.hid (show goodName (bs s) = nameB (bs s) 0 by rw [HG.out, decide_eq_true ⟨by omega, by omega, fun h => hd (.inl h), fun h => hd (.inr h)⟩]; rfl)
      clear hbl h0 hd
      go_enter Tryz.func37, Tryz.ntmps37
      go_wp2
      go_loop [3] (fun i => ∃ k : Nat, k ≤ s.size ∧ i = .int .i64 k ∧ Hid (goodName (bs s) = nameB (bs s) k)) (fun i => s.size - (intOf i).toNat)
      case atStart => exact ⟨0, Nat.zero_le _, rfl, HF.out⟩
      case round =>
        obtain ⟨k, hk, rfl, hR⟩ := hrel
        by_cases hlt : k < s.size
        · have hget := bs_get s k hlt
          have HN := Lib.hid (nameB_next (bs s) k _ hget)
          by_cases hz : s[k].toNat = 0 ∨ s[k].toNat = 47
          · have HB := Lib.hid (show goodName (bs s) = false by
              rw [hR.out, HN.out, decide_eq_false (by
                rintro ⟨a, b⟩
                rcases hz with h | h
                · exact a (u8_0 h)
                · exact b (u8_47 h))]; rfl)
            clear HN hget
            rcases hz with h | h
            · have e1 : ((s[k].toNat : Int) == 0) = true := by simp [h]
              clear h
              go_wp2
              go_ret
              exact ⟨ret_bool HB.out.symm, rfl⟩
            · have e1 : ((s[k].toNat : Int) == 0) = false := by simp; omega
              have e2 : ((s[k].toNat : Int) == 47) = true := by simp [h]
              clear h
              go_wp2
              go_ret
              exact ⟨ret_bool HB.out.symm, rfl⟩
          · have e1 : ((s[k].toNat : Int) == 0) = false := by simp; omega
            have e2 : ((s[k].toNat : Int) == 47) = false := by simp; omega
            have HB := Lib.hid (show goodName (bs s) = nameB (bs s) (k + 1) by
              rw [hR.out, HN.out, decide_eq_true ⟨u8_0' (fun h => hz (.inl h)), u8_47' (fun h => hz (.inr h))⟩]; rfl)
            clear HN hget hz
            go_wp2
            go_round
            case rel => exact ⟨k + 1, by omega, by go_num, HB.out⟩
            case measure => simp [intOf]; omega
        · obtain rfl : k = s.size := by omega
          have HB := Lib.hid (show goodName (bs s) = true by rw [hR.out]; have := nameB_end (bs s); rwa [bs_len] at this)
          go_wp2
          go_ret
          exact ⟨ret_bool HB.out.symm, rfl⟩
theorem dabove_any (s : ByteArray) (w : World) (hs : s.size ≤ 2000000) : Calls Tryz.prog 38 #[.string s] w fun e w' => e = .returned (.string (mk (above (bs s)))) ∧ w = w' := by
  go_enter Tryz.func38, Tryz.ntmps38
  go_wp2
  go_loop [3] (fun i => ∃ k : Nat, k ≤ s.size ∧ i = .int .i64 ((k : Int) - 1) ∧ Hid (∀ j, k ≤ j → (bs s)[j]? ≠ some 47)) (fun i => (intOf i + 1).toNat)
  case atStart => exact ⟨s.size, Nat.le_refl _, rfl, fun j hj => by rw [List.getElem?_eq_none (by rw [bs_len]; exact hj)]; simp⟩
  case round =>
    obtain ⟨k, hk, rfl, hN⟩ := hrel
    cases k with
    | zero =>
      have HA := Lib.hid (above_none (bs s) (fun j _ => hN.out j (Nat.zero_le _)))
      go_wp2
      go_ret
      exact ⟨by rw [HA.out]; rfl, rfl⟩
    | succ k =>
      have hlt : k < s.size := by omega
      have hget := bs_get s k hlt
      have hkk : (((k + 1 : Nat) : Int) - 1) = (k : Int) := by omega
      rw [hkk]
      clear hkk
      by_cases h47 : s[k].toNat = 47
      · have e1 : ((s[k].toNat : Int) == 47) = true := by simp [h47]
        have HA := Lib.hid (above_at (bs s) k (by rw [hget, u8_47 h47]) (fun j hj => hN.out j (by omega)))
        have hex := Lib.hid (show s.extract 0 k = mk ((bs s).take k) from Lib.extract_upto s k)
        clear h47 hget
        go_wp2
        go_ret
        exact ⟨by rw [HA.out, ← hex.out]; rfl, rfl⟩
      · have e1 : ((s[k].toNat : Int) == 47) = false := by simp; omega
        have HN := Lib.hid (show ∀ j, k ≤ j → (bs s)[j]? ≠ some 47 from fun j hj => by
          rcases Nat.lt_or_ge k j with h | h
          · exact hN.out j h
          · obtain rfl : j = k := by omega
            rw [hget]; exact fun e => u8_47' h47 (Option.some.inj e))
        clear h47 hget
        go_wp2
        go_round
        case rel => exact ⟨k, by omega, by go_num, HN⟩
        case measure => simp [intOf]
end Pw
end Go.Proofs.YtnmgdlmicgbapaaGreatDoor
