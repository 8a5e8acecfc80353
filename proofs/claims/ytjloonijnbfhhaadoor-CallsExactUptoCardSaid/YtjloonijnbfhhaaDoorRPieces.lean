/- The walk of pieces: how the program cuts a line. -/
import Derived.Test.YtjloonijnbfhhaaDoorQQuoted
import Derived.Test.YtjloonijnbfhhaaDoorCallsTok
import Derived.Test.YtjloonijnbfhhaaDoorStrs
import Derived.Deep.LoopGhost
import Derived.WalkMore
namespace Go.Proofs.YtjloonijnbfhhaaDoor
open Go.RowKit

theorem strT : CellT Tryd.prog 27 9 (.string ByteArray.empty) 16 := ⟨Tryd.underlying27, by kernel_rfl, rfl⟩

namespace Qw
theorem extract_part (s : ByteArray) (k j : Nat) : bs (s.extract k j) = ((bs s).drop k).take (j - k) := Lib.extract_data s k j
theorem strsV_snoc (acc : List (List UInt8)) (s : ByteArray) (k j : Nat) : strsV acc ++ [.string (s.extract k j)] = strsV (acc ++ [((bs s).drop k).take (j - k)]) := by
  rw [strsV_app, ← extract_part]; rfl
theorem one_str (s : ByteArray) : ∀ u ∈ [Value.string s], u.oneCell' = true := by
  intro u hu
  rw [List.mem_singleton.1 hu]; rfl
theorem none_more {s : ByteArray} {j0 j : Nat} (h : ∀ c ∈ ((bs s).drop j0).take (j - j0), c ≠ 32) (hj : j0 ≤ j) (hlt : j < s.size) (hc : ¬ s[j].toNat = 32) : ∀ c ∈ ((bs s).drop j0).take (j + 1 - j0), c ≠ 32 := by
  intro c hm
  rw [show j + 1 - j0 = (j - j0) + 1 by omega, List.take_add, List.drop_drop, show j0 + (j - j0) = j by omega, bs_drop s j hlt] at hm
  rcases List.mem_append.1 hm with hm | hm
  · exact h c hm
  · have : c = s[j] := by simpa using hm
    rw [this]
    intro e
    exact hc (by rw [e]; rfl)
theorem qn_zero {r : List UInt8} (h : qn (34 :: r) = 0) : Cl.dq r = none := by
  cases hd : Cl.dq r with
  | none => rfl
  | some p => simp [qn, qd, hd] at h
theorem qn_pos {r : List UInt8} (h : qn (34 :: r) ≠ 0) : ∃ x n, Cl.dq r = some (x, n) ∧ qn (34 :: r) = n + 1 := by
  cases hd : Cl.dq r with
  | none => simp [qn, qd, hd] at h
  | some p => exact ⟨p.1, p.2, rfl, by simp [qn, qd, hd]⟩
/-- What pieces answers. -/
def PCut (w : World) (l : Option (List (List UInt8))) (e : Ending) (w' : World) : Prop :=
  Below w.heap.size w w' ∧ ∃ v, e = .returned (.tuple #[v, .bool l.isSome]) ∧ ∀ ts, l = some ts → w'.ownsRow w.heap.size 9 1 v (strsV ts).length (strsV ts)
theorem pcut_none {w w' : World} {l : Option (List (List UInt8))} {v : Value} (h : l = none) (hb : Below w.heap.size w w') : PCut w l (.returned (.tuple #[v, .bool false])) w' :=
  ⟨hb, v, by rw [h]; rfl, fun ts hs => by rw [h] at hs; cases hs⟩
theorem pcut_some {w w' : World} {l : Option (List (List UInt8))} {v : Value} {ts : List (List UInt8)} (h : l = some ts) (hb : Below w.heap.size w w') (ho : w'.ownsRow w.heap.size 9 1 v (strsV ts).length (strsV ts)) : PCut w l (.returned (.tuple #[v, .bool true])) w' :=
  ⟨hb, v, by rw [h]; rfl, fun us hs => by rw [h] at hs; cases hs; exact ho⟩

set_option maxRecDepth 100000 in
set_option maxHeartbeats 4000000 in
theorem pieces_any (s : ByteArray) (w : World) (hs : s.size ≤ 1000000000000) : Calls Tryd.prog 31 #[.string s] w (PCut w (Cl.toks Cl.tokP (bs s))) := by
  go_enter Tryd.func31, Tryd.ntmps31
  go_wp2
  go_step3
  go_wp2
  go_step3
  go_wp2
  go_loopg [4, 5] (s.size) (fun g s4 s5 wx => ∃ (k : Nat) (acc : List (List UInt8)), k + g = s.size ∧ s5 = .int .i64 k ∧ Hid (Cl.Sofar (bs s) k acc) ∧ acc.length ≤ k ∧ wx.ownsRow w.heap.size 9 1 s4 (strsV acc).length (strsV acc) ∧ Below w.heap.size w wx)
  case atStart => exact ⟨0, [], by omega, rfl, Cl.sofar0 _, by simp, World.ownsRow_nil _ _ _ _, Below.refl _ _⟩
  case round =>
    obtain ⟨k, acc, hkg, rfl, HT, hacc, hown, hbw⟩ := hrel
    cases gk with
    | zero =>
      have hks : k = s.size := by omega
      subst hks
      have HE := Lib.hid (Cl.sofar_end HT.out (Nat.le_refl _))
      go_wp2
      try rw [Exit.noGoto_ret]
      go_ret2
      exact pcut_some HE.out hbw hown
    | succ go =>
      have hlt : k < s.size := by omega
      by_cases hc : s[k].toNat = 32
      · have HN := Lib.hid (Cl.sofar_blank HT.out (show (bs s).drop k = 32 :: (bs s).drop (k + 1) by rw [bs_drop s k hlt, (u8_eq (n := 32) (by omega)).2 hc]; rfl))
        have hcb : ((s[k].toNat : Int) == 32) = true := by rw [beq_iff_eq]; omega
        clear hc
        go_wp2
        go_roundg go
        case measure => omega
        case rel => exact ⟨k + 1, acc, by omega, by go_num, HN.out, by omega, hown, hbw⟩
      · have hcb : ((s[k].toNat : Int) == 32) = false := by rw [beq_eq_false_iff_ne]; omega
        have hne : s[k] ≠ 32 := fun e => hc (by rw [e]; rfl)
        have HNE := Lib.hid hne
        clear hc hne
        by_cases hq : s[k].toNat = 34
        · have hqb : ((s[k].toNat : Int) == 34) = true := by rw [beq_iff_eq]; omega
          have hd34 : (bs s).drop k = 34 :: (bs s).drop (k + 1) := by rw [bs_drop s k hlt, (u8_eq (n := 34) (by omega)).2 hq]; rfl
          have H34 := Lib.hid hd34
          have HX := Lib.hid (extract_drop s k)
          have HL : (s.extract k s.size).size ≤ 1000000000000 := by rw [← bs_len, HX.out, List.length_drop, bs_len]; omega
          by_cases hn : qn ((bs s).drop k) = 0
          · have HQ := Lib.hid (Cl.sofar_bad HT.out hd34 (qn_zero (by rw [← hd34]; exact hn)))
            clear hd34 hq
            go_wp2_with (go_at_call 28; refine (quoted_any _ _ HL).mono ?_; rw [HX.out]; rintro e w1 ⟨rfl, hb1⟩)
            try rw [Exit.noGoto_ret]
            go_ret2
            exact pcut_none HQ.out (hbw.trans (hb1.mono hbw.size))
          · obtain ⟨x, n, hdq, hqn⟩ := qn_pos (by rw [← hd34]; exact hn)
            rw [← hd34] at hqn
            have HS := Lib.hid (Cl.starts_quoted hd34 hdq)
            have hle : k + (n + 1) ≤ s.size := by have := HS.out.lt; rw [bs_len] at this; exact this
            have hqi : (qn ((bs s).drop k) : Int) = (n : Int) + 1 := by omega
            have hnb : (((n : Int) + 1) == 0) = false := by rw [beq_eq_false_iff_ne]; omega
            clear hd34 hq hdq hqn hn
            go_wp2_with (go_at_call 28; refine (quoted_any _ _ HL).mono ?_; rw [HX.out, hqi]; rintro e w1 ⟨rfl, hb1⟩)
            have hown1 := own_below hown hb1
            have hbw1 := hbw.trans (hb1.mono hbw.size)
            clear hqi hnb hqb hcb
            go_loopg [4, 5] (s.size - (k + (n + 1))) (fun g s4 s5 wx => u4 = s4 ∧ ∃ j : Nat, j + g = s.size ∧ k + (n + 1) ≤ j ∧ s5 = .int .i64 j ∧ Hid (∀ c ∈ ((bs s).drop (k + (n + 1))).take (j - (k + (n + 1))), c ≠ 32) ∧ w1 = wx)
            case atStart => exact ⟨rfl, k + (n + 1), by omega, Nat.le_refl _, by go_num, by show ∀ c ∈ _, _; simp, rfl⟩
            case round =>
              obtain ⟨rfl, j, hjg, hj0, rfl, HB, rfl⟩ := hrel
              have HE1 := Lib.hid (strsV_snoc acc s k j)
              cases gk with
              | zero =>
                have hjs : j = s.size := by omega
                subst hjs
                have HW := Lib.hid (Cl.sofar_word HT.out H34.out (by decide) HS.out hj0 HB.out (.inl (List.drop_eq_nil_of_le (Nat.le_refl _))))
                go_wp2_with (at_builtin; refine wpList_append_cells strT w1 rfl _ _ rfl _ w.heap.size _ (strsV acc) [.string (s.extract k s.size)] 1 (by rfl) (by rfl) (one_str _) (by rfl) hown1 (by rfl) (by rw [strsV_len]; simp only [List.length_cons, List.length_nil]; omega) (by rw [strsV_len]; simp only [List.length_cons, List.length_nil]; omega) hbw1.size ?_; intro v1 w1 ho1 hg1 _)
                go_roundg 0
                case measure => omega
                case rel =>
                  refine ⟨s.size, _, by omega, rfl, HW.out, by simp only [List.length_append, List.length_cons, List.length_nil]; omega, ?_, hbw1.grown hg1 hbw1.size (fun j hj => (hown1.lt j hj).1)⟩
                  rw [HE1.out] at ho1; exact ho1
              | succ g2 =>
                have hjlt : j < s.size := by omega
                by_cases hcj : s[j].toNat = 32
                · have HW := Lib.hid (Cl.sofar_word HT.out H34.out (by decide) HS.out hj0 HB.out (.inr (by rw [bs_drop s j hjlt, (u8_eq (n := 32) (by omega)).2 hcj]; rfl)))
                  have hcb : ((s[j].toNat : Int) == 32) = true := by rw [beq_iff_eq]; omega
                  have hkj : k < j := by omega
                  clear hcj
                  go_wp2_with (at_builtin; refine wpList_append_cells strT w1 rfl _ _ rfl _ w.heap.size _ (strsV acc) [.string (s.extract k j)] 1 (by rfl) (by rfl) (one_str _) (by rfl) hown1 (by rfl) (by rw [strsV_len]; simp only [List.length_cons, List.length_nil]; omega) (by rw [strsV_len]; simp only [List.length_cons, List.length_nil]; omega) hbw1.size ?_; intro v1 w1 ho1 hg1 _)
                  go_roundg (s.size - j)
                  case measure => omega
                  case rel =>
                    refine ⟨j, _, by omega, rfl, HW.out, by simp only [List.length_append, List.length_cons, List.length_nil]; omega, ?_, hbw1.grown hg1 hbw1.size (fun j hj => (hown1.lt j hj).1)⟩
                    rw [HE1.out] at ho1; exact ho1
                · have HN := Lib.hid (none_more HB.out hj0 hjlt hcj)
                  have hcb : ((s[j].toNat : Int) == 32) = false := by rw [beq_eq_false_iff_ne]; omega
                  clear hcj
                  go_wp2
                  go_roundg g2
                  case measure => omega
                  case rel => exact ⟨rfl, j + 1, by omega, by omega, by go_num, HN.out, rfl⟩
        · have hqb : ((s[k].toNat : Int) == 34) = false := by rw [beq_eq_false_iff_ne]; omega
          have hne34 : s[k] ≠ 34 := fun e => hq (by rw [e]; rfl)
          have HK := Lib.hid (bs_drop s k hlt)
          have HS := Lib.hid (Cl.starts_bare (bs_drop s k hlt) hne34)
          clear hq hne34
          go_wp2
          clear hqb hcb
          go_loopg [4, 5] (s.size - (k)) (fun g s4 s5 wx => u4 = s4 ∧ ∃ j : Nat, j + g = s.size ∧ k ≤ j ∧ s5 = .int .i64 j ∧ Hid (∀ c ∈ ((bs s).drop (k)).take (j - (k)), c ≠ 32) ∧ wr = wx)
          case atStart => exact ⟨rfl, k, by omega, Nat.le_refl _, by go_num, by show ∀ c ∈ _, _; simp, rfl⟩
          case round =>
            obtain ⟨rfl, j, hjg, hj0, rfl, HB, rfl⟩ := hrel
            have HE1 := Lib.hid (strsV_snoc acc s k j)
            cases gk with
            | zero =>
              have hjs : j = s.size := by omega
              subst hjs
              have HW := Lib.hid (Cl.sofar_word HT.out HK.out HNE.out HS.out hj0 HB.out (.inl (List.drop_eq_nil_of_le (Nat.le_refl _))))
              go_wp2_with (at_builtin; refine wpList_append_cells strT wr rfl _ _ rfl _ w.heap.size _ (strsV acc) [.string (s.extract k s.size)] 1 (by rfl) (by rfl) (one_str _) (by rfl) hown (by rfl) (by rw [strsV_len]; simp only [List.length_cons, List.length_nil]; omega) (by rw [strsV_len]; simp only [List.length_cons, List.length_nil]; omega) hbw.size ?_; intro v1 w1 ho1 hg1 _)
              go_roundg 0
              case measure => omega
              case rel =>
                refine ⟨s.size, _, by omega, rfl, HW.out, by simp only [List.length_append, List.length_cons, List.length_nil]; omega, ?_, hbw.grown hg1 hbw.size (fun j hj => (hown.lt j hj).1)⟩
                rw [HE1.out] at ho1; exact ho1
            | succ g2 =>
              have hjlt : j < s.size := by omega
              by_cases hcj : s[j].toNat = 32
              · have HW := Lib.hid (Cl.sofar_word HT.out HK.out HNE.out HS.out hj0 HB.out (.inr (by rw [bs_drop s j hjlt, (u8_eq (n := 32) (by omega)).2 hcj]; rfl)))
                have hcb : ((s[j].toNat : Int) == 32) = true := by rw [beq_iff_eq]; omega
                have hkj : k < j := by have : j ≠ k := (by rintro rfl; exact HNE.out ((u8_eq (n := 32) (by omega)).2 hcj)); omega
                clear hcj
                go_wp2_with (at_builtin; refine wpList_append_cells strT wr rfl _ _ rfl _ w.heap.size _ (strsV acc) [.string (s.extract k j)] 1 (by rfl) (by rfl) (one_str _) (by rfl) hown (by rfl) (by rw [strsV_len]; simp only [List.length_cons, List.length_nil]; omega) (by rw [strsV_len]; simp only [List.length_cons, List.length_nil]; omega) hbw.size ?_; intro v1 w1 ho1 hg1 _)
                go_roundg (s.size - j)
                case measure => omega
                case rel =>
                  refine ⟨j, _, by omega, rfl, HW.out, by simp only [List.length_append, List.length_cons, List.length_nil]; omega, ?_, hbw.grown hg1 hbw.size (fun j hj => (hown.lt j hj).1)⟩
                  rw [HE1.out] at ho1; exact ho1
              · have HN := Lib.hid (none_more HB.out hj0 hjlt hcj)
                have hcb : ((s[j].toNat : Int) == 32) = false := by rw [beq_eq_false_iff_ne]; omega
                clear hcj
                go_wp2
                go_roundg g2
                case measure => omega
                case rel => exact ⟨rfl, j + 1, by omega, by omega, by go_num, HN.out, rfl⟩
end Qw
end Go.Proofs.YtjloonijnbfhhaaDoor
