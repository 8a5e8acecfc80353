/- The walk of words: how the document cuts a line. -/
import Derived.Test.YtjloonijnbfhhaaDoorRPieces
import Derived.Test.YtjloonijnbfhhaaDoorERefTok
import Derived.Test.YtjloonijnbfhhaaDoorERefWalk
namespace Go.Proofs.YtjloonijnbfhhaaDoor
open Go.RowKit

namespace Er
open Qw
theorem quoted_no (s : ByteArray) (i : Nat) (r : List UInt8) (w : World) (hs : s.size ≤ 1000000000000) (hi : (bs s).drop i = 34 :: r) (hd : Cl.dq r = none) : Calls Tryd.prog 30 #[.string s, .int .i64 i] w fun e w' => e = .returned (.tuple #[.string (mk []), .int .i64 0, .bool false]) ∧ Below w.heap.size w w' := by
  refine (quoted_any s i r w hs hi).mono ?_
  rintro e w' ⟨rfl, hb⟩
  have h1 : qn ((bs s).drop i) = 0 := by rw [hi]; simp [qn, qd, hd]
  have h2 : qx ((bs s).drop i) = [] := by rw [hi]; simp [qx, qd, hd]
  rw [h1, h2]
  exact ⟨rfl, hb⟩
theorem quoted_yes (s : ByteArray) (i m n : Nat) (r x : List UInt8) (w : World) (hs : s.size ≤ 1000000000000) (hi : (bs s).drop i = 34 :: r) (hd : Cl.dq r = some (x, n)) (hm : m = i + (n + 1)) : Calls Tryd.prog 30 #[.string s, .int .i64 i] w fun e w' => e = .returned (.tuple #[.string (mk x), .int .i64 (m : Int), .bool true]) ∧ Below w.heap.size w w' := by
  subst hm
  refine (quoted_any s i r w hs hi).mono ?_
  rintro e w' ⟨rfl, hb⟩
  have h1 : qn ((bs s).drop i) = n + 1 := by rw [hi]; simp [qn, qd, hd]
  have h2 : qx ((bs s).drop i) = x := by rw [hi]; simp [qx, qd, hd]
  rw [h1, h2]
  exact ⟨rfl, hb⟩

set_option maxRecDepth 100000 in
set_option maxHeartbeats 4000000 in
theorem words_any (s : ByteArray) (w : World) (hs : s.size ≤ 1000000000000) : Calls Tryd.prog 33 #[.string s] w (PCut w (Cl.toks Cl.tokR (bs s))) := by
  go_enter Tryd.func33, Tryd.ntmps33
  go_wp2
  go_loopg [4, 5] (s.size) (fun g s4 s5 wx => ∃ (k : Nat) (acc : List (List UInt8)), k + g = s.size ∧ s5 = .int .i64 k ∧ Hid (Cl.SofarR (bs s) k acc) ∧ acc.length ≤ k ∧ wx.ownsRow w.heap.size 9 1 s4 (strsV acc).length (strsV acc) ∧ Below w.heap.size w wx)
  case atStart => exact ⟨0, [], by omega, rfl, Cl.sofarR0 _, by simp, World.ownsRow_nil _ _ _ _, Below.refl _ _⟩
  case round =>
    obtain ⟨k0, acc, hkg, rfl, HT, hacc, hown, hbw⟩ := hrel
    go_wp2
    go_loopg [5] (s.size - k0) (fun g s5 wx => ∃ k : Nat, k + g = s.size ∧ k0 ≤ k ∧ s5 = .int .i64 k ∧ Hid (Cl.SofarR (bs s) k acc) ∧ wr = wx)
    case atStart => exact ⟨k0, by omega, Nat.le_refl _, rfl, HT, rfl⟩
    case round =>
      obtain ⟨k, hkj, hk0, rfl, HS, rfl⟩ := hrel
      clear HT
      by_cases hlt : k < s.size
      · have hlti : (k : Int) < (s.size : Int) := by omega
        have hkz : ((k : Int) == (s.size : Int)) = false := by rw [beq_eq_false_iff_ne]; omega
        by_cases hc : s[k].toNat = 32
        · have HN := Lib.hid (Cl.sofarR_blank HS.out (show (bs s).drop k = 32 :: (bs s).drop (k + 1) by rw [bs_drop s k hlt, (u8_eq (n := 32) (by omega)).2 hc]; rfl))
          have hcb : ((s[k].toNat : Int) == 32) = true := by rw [beq_iff_eq]; omega
          clear hc HS
          go_wp2
          go_roundg (s.size - (k + 1))
          case measure => omega
          case rel => exact ⟨k + 1, by omega, by omega, by go_num, HN.out, rfl⟩
        · have hcb : ((s[k].toNat : Int) == 32) = false := by rw [beq_eq_false_iff_ne]; omega
          have hne : s[k] ≠ 32 := fun e => hc (by rw [e]; rfl)
          have HNE := Lib.hid hne
          clear hc hne
          by_cases hq : s[k].toNat = 34
          · have hqb : ((s[k].toNat : Int) == 34) = true := by rw [beq_iff_eq]; omega
            have hd34 : (bs s).drop k = 34 :: (bs s).drop (k + 1) := by rw [bs_drop s k hlt, (u8_eq (n := 34) (by omega)).2 hq]; rfl
            have H34 := Lib.hid hd34
            cases hd : Cl.dq ((bs s).drop (k + 1)) with
            | none =>
              have HQ := Lib.hid (Cl.sofarR_bad HS.out hd34 hd)
              have HD := Lib.hid hd
              clear hd34 hq hd HS
              go_wp2_with (go_at_call 30; refine (quoted_no s k _ _ hs H34.out HD.out).mono ?_; rintro e w1 ⟨rfl, hb1⟩)
              try rw [Exit.noGoto_ret]
              go_ret2
              exact pcut_none HQ.out (hbw.trans (hb1.mono hbw.size))
            | some p =>
              obtain ⟨x, n⟩ := p
              have hle : k + (n + 1) ≤ s.size := by have := (Cl.starts_quoted hd34 hd).lt; rw [bs_len] at this; exact this
              have HD := Lib.hid hd
              obtain ⟨m, hm⟩ : ∃ m, m = k + (n + 1) := ⟨_, rfl⟩
              have HM := Lib.hid hm
              have hmk : k < m := by omega
              have hms : m ≤ s.size := by omega
              clear hd hd34 hq hle hm
              by_cases hml : m < s.size
              · have hmli : (m : Int) < (s.size : Int) := by omega
                by_cases hmc : s[m].toNat = 32
                · have hmb : ((s[m].toNat : Int) != 32) = false := by rw [bne_eq_false_iff_eq]; omega
                  have HW : Hid (Cl.SofarR (bs s) m (acc ++ [((bs s).drop k).take (m - k)])) := by
                    have := Cl.sofarR_quoted HS.out H34.out HD.out (.inr (by rw [← HM.out, bs_drop s m hml, (u8_eq (n := 32) (by omega)).2 hmc]; rfl))
                    rw [← HM.out] at this; exact this
                  have HE1 := Lib.hid (strsV_snoc acc s k m)
                  clear hmc HS HNE
                  go_wp2_with (first | (go_at_call 30; refine (quoted_yes s k m n _ x _ hs H34.out HD.out HM.out).mono ?_; rintro e w1 ⟨rfl, hb1⟩; have hown1 := own_below hown hb1; have hbw1 := hbw.trans (hb1.mono hbw.size)) | (at_builtin; refine wpList_append_cells strT w1 rfl _ _ rfl _ w.heap.size _ (strsV acc) [.string (s.extract k m)] 1 (by rfl) (by rfl) (one_str _) (by rfl) hown1 (by rfl) (by rw [strsV_len]; simp only [List.length_cons, List.length_nil]; omega) (by rw [strsV_len]; simp only [List.length_cons, List.length_nil]; omega) hbw1.size ?_; intro v1 w9 ho1 hg1 _))
                  go_roundg (s.size - m)
                  case measure => omega
                  case rel =>
                    refine ⟨m, _, by omega, rfl, HW.out, by simp only [List.length_append, List.length_cons, List.length_nil]; omega, ?_, hbw1.grown hg1 hbw1.size (fun j hj => (hown1.lt j hj).1)⟩
                    rw [HE1.out] at ho1; exact ho1
                · have hmb : ((s[m].toNat : Int) != 32) = true := by rw [bne_iff_ne]; omega
                  have HW := Lib.hid (Cl.sofarR_beside HS.out H34.out HD.out (by rw [← HM.out]; exact bs_drop s m hml) (fun e => hmc (by rw [e]; rfl)))
                  clear hmc HS HNE
                  go_wp2_with (go_at_call 30; refine (quoted_yes s k m n _ x _ hs H34.out HD.out HM.out).mono ?_; rintro e w1 ⟨rfl, hb1⟩)
                  try rw [Exit.noGoto_ret]
                  go_ret2
                  exact pcut_none HW.out (hbw.trans (hb1.mono hbw.size))
              · have hmz : m = s.size := by omega
                have HW : Hid (Cl.SofarR (bs s) m (acc ++ [((bs s).drop k).take (m - k)])) := by
                  have := Cl.sofarR_quoted HS.out H34.out HD.out (.inl (List.drop_eq_nil_of_le (by rw [bs_len, ← HM.out]; omega)))
                  rw [← HM.out] at this; exact this
                have HE1 := Lib.hid (strsV_snoc acc s k m)
                have hmi : ¬ (m : Int) < (s.size : Int) := by omega
                clear HS HNE hmz
                go_wp2_with (first | (go_at_call 30; refine (quoted_yes s k m n _ x _ hs H34.out HD.out HM.out).mono ?_; rintro e w1 ⟨rfl, hb1⟩; have hown1 := own_below hown hb1; have hbw1 := hbw.trans (hb1.mono hbw.size)) | (at_builtin; refine wpList_append_cells strT w1 rfl _ _ rfl _ w.heap.size _ (strsV acc) [.string (s.extract k m)] 1 (by rfl) (by rfl) (one_str _) (by rfl) hown1 (by rfl) (by rw [strsV_len]; simp only [List.length_cons, List.length_nil]; omega) (by rw [strsV_len]; simp only [List.length_cons, List.length_nil]; omega) hbw1.size ?_; intro v1 w9 ho1 hg1 _))
                go_roundg (s.size - m)
                case measure => omega
                case rel =>
                  refine ⟨m, _, by omega, rfl, HW.out, by simp only [List.length_append, List.length_cons, List.length_nil]; omega, ?_, hbw1.grown hg1 hbw1.size (fun j hj => (hown1.lt j hj).1)⟩
                  rw [HE1.out] at ho1; exact ho1
          · have hqb : ((s[k].toNat : Int) == 34) = false := by rw [beq_eq_false_iff_ne]; omega
            have hne34 : s[k] ≠ 34 := fun e => hq (by rw [e]; rfl)
            have HK := Lib.hid (bs_drop s k hlt)
            have HQ := Lib.hid hne34
            clear hq hne34
            go_wp2
            clear hqb hcb
            go_loopg [5] (s.size - k) (fun g s5 wx => ∃ j : Nat, j + g = s.size ∧ k ≤ j ∧ s5 = .int .i64 j ∧ Hid (∀ c ∈ ((bs s).drop k).take (j - k), c ≠ 32) ∧ wr = wx)
            case atStart => exact ⟨k, by omega, Nat.le_refl _, rfl, by show ∀ c ∈ _, _; simp, rfl⟩
            case round =>
              obtain ⟨j, hjg, hj0, rfl, HB, rfl⟩ := hrel
              have HE1 := Lib.hid (strsV_snoc acc s k j)
              by_cases hjl : j < s.size
              · have hjli : (j : Int) < (s.size : Int) := by omega
                by_cases hcj : s[j].toNat = 32
                · have HW := Lib.hid (Cl.sofarR_word HS.out HK.out HNE.out HQ.out hj0 HB.out (.inr (by rw [bs_drop s j hjl, (u8_eq (n := 32) (by omega)).2 hcj]; rfl)))
                  have hjb : ((s[j].toNat : Int) != 32) = false := by rw [bne_eq_false_iff_eq]; omega
                  have hkj2 : k < j := by
                    have : j ≠ k := by rintro rfl; exact HNE.out ((u8_eq (n := 32) (by omega)).2 hcj)
                    omega
                  clear hcj
                  go_wp2_with (at_builtin; refine wpList_append_cells strT wr rfl _ _ rfl _ w.heap.size _ (strsV acc) [.string (s.extract k j)] 1 (by rfl) (by rfl) (one_str _) (by rfl) hown (by rfl) (by rw [strsV_len]; simp only [List.length_cons, List.length_nil]; omega) (by rw [strsV_len]; simp only [List.length_cons, List.length_nil]; omega) hbw.size ?_; intro v1 w9 ho1 hg1 _)
                  go_roundg (s.size - j)
                  case measure => omega
                  case rel =>
                    refine ⟨j, _, by omega, rfl, HW.out, by simp only [List.length_append, List.length_cons, List.length_nil]; omega, ?_, hbw.grown hg1 hbw.size (fun j hj => (hown.lt j hj).1)⟩
                    rw [HE1.out] at ho1; exact ho1
                · have HN := Lib.hid (none_more HB.out hj0 hjl hcj)
                  have hjb : ((s[j].toNat : Int) != 32) = true := by rw [bne_iff_ne]; omega
                  clear hcj
                  go_wp2
                  go_roundg (s.size - (j + 1))
                  case measure => omega
                  case rel => exact ⟨j + 1, by omega, by omega, by go_num, HN.out, rfl⟩
              · have hji : ¬ (j : Int) < (s.size : Int) := by omega
                have HW := Lib.hid (Cl.sofarR_word HS.out HK.out HNE.out HQ.out hj0 HB.out (.inl (List.drop_eq_nil_of_le (by rw [bs_len]; omega))))
                go_wp2_with (at_builtin; refine wpList_append_cells strT wr rfl _ _ rfl _ w.heap.size _ (strsV acc) [.string (s.extract k j)] 1 (by rfl) (by rfl) (one_str _) (by rfl) hown (by rfl) (by rw [strsV_len]; simp only [List.length_cons, List.length_nil]; omega) (by rw [strsV_len]; simp only [List.length_cons, List.length_nil]; omega) hbw.size ?_; intro v1 w9 ho1 hg1 _)
                go_roundg (s.size - j)
                case measure => omega
                case rel =>
                  refine ⟨j, _, by omega, rfl, HW.out, by simp only [List.length_append, List.length_cons, List.length_nil]; omega, ?_, hbw.grown hg1 hbw.size (fun j hj => (hown.lt j hj).1)⟩
                  rw [HE1.out] at ho1; exact ho1
      · have hkz : ((k : Int) == (s.size : Int)) = true := by rw [beq_iff_eq]; omega
        have HE := Lib.hid (Cl.sofarR_end HS.out (by rw [bs_len]; omega))
        have hki : ¬ (k : Int) < (s.size : Int) := by omega
        go_wp2
        try rw [Exit.noGoto_ret]
        go_ret2
        exact pcut_some HE.out hbw hown
end Er
end Go.Proofs.YtjloonijnbfhhaaDoor
