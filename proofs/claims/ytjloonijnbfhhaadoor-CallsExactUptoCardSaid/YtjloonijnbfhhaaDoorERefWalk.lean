/- The walks of the document's quoted words, Unquote and Quote. -/
import Derived.Test.YtjloonijnbfhhaaDoorERefWord
import Derived.Deep.RegionHeld3
namespace Go.Proofs.YtjloonijnbfhhaaDoor
open Go.RowKit

namespace Er
open Qw
/-- What the document's quoted answers, at a place. -/
def QR (w : World) (L : List UInt8) (i : Nat) (e : Ending) (w' : World) : Prop :=
  e = .returned (.tuple #[.string (mk (qx L)), .int .i64 (if qn L = 0 then 0 else ((i + qn L : Nat) : Int)), .bool (decide (qn L ≠ 0))]) ∧ Below w.heap.size w w'
theorem qr_none {w w' : World} {L : List UInt8} {i : Nat} (h : qx L = [] ∧ qn L = 0) (hb : Below w.heap.size w w') : QR w L i (.returned (.tuple #[.string ⟨#[]⟩, .int .i64 0, .bool false])) w' := by
  refine ⟨?_, hb⟩
  rw [h.1, h.2]; rfl
theorem qr_some {w w' : World} {L acc : List UInt8} {i j k : Nat} (h : qx L = acc ∧ qn L = j + 1) (hk : i + j = k) (hb : Below w.heap.size w w') : QR w L i (.returned (.tuple #[.string (mk acc), .int .i64 ((k : Int) + 1), .bool true])) w' := by
  refine ⟨?_, hb⟩
  subst hk
  rw [h.1, h.2, if_neg (by omega)]
  have e : ((i + (j + 1) : Nat) : Int) = ((i + j : Nat) : Int) + 1 := by omega
  rw [e]
  simp
theorem drop_at (s : ByteArray) (i k : Nat) (h : i ≤ k) : ((bs s).drop i).drop (k - i) = (bs s).drop k := by rw [List.drop_drop, show i + (k - i) = k by omega]
theorem hexCell {c : UInt8} {a b : Nat} (h : c.toNat = 16 * a + b) : #[Value.int .u8 (16 * (a : Int) + (b : Int))] = (bytesV [c]).toArray := by
  have e : (16 * (a : Int) + (b : Int)) = (c.toNat : Int) := by omega
  rw [e]; rfl
theorem u8_in (n : Int) (h0 : 0 ≤ n) (h1 : n ≤ 255) : IntKind.u8.wrap n = n := by
  simp [IntKind.wrap, IntKind.signed, IntKind.bits]; omega

set_option maxRecDepth 100000 in
set_option maxHeartbeats 4000000 in
theorem quoted_any (s : ByteArray) (i : Nat) (r : List UInt8) (w : World) (hs : s.size ≤ 1000000000000) (hi : (bs s).drop i = 34 :: r) : Calls Tryd.prog 30 #[.string s, .int .i64 i] w (QR w ((bs s).drop i) i) := by
  have hil : i < s.size := by
    have := congrArg List.length hi
    rw [List.length_drop, bs_len, List.length_cons] at this; omega
  have H0 : Hid (Ahead ((bs s).drop i) 1 []) := by
    show Ahead _ 1 []
    rw [hi]; exact ahead0
  clear hi
  go_enter Tryd.func30, Tryd.ntmps30
  go_wp2
  go_loopw [1, 7] (fun i1 v wr => ∃ (k : Nat) (acc : List UInt8), k ≤ s.size ∧ i < k ∧ acc.length < k ∧ i1 = .int .i64 k ∧ Hid (Ahead ((bs s).drop i) (k - i) acc) ∧ wr.ownsRow w.heap.size 5 1 v acc.length (bytesV acc) ∧ Below w.heap.size w wr) (fun i1 _ _ => s.size - (intOf i1).toNat)
  case atStart => exact ⟨i + 1, [], by omega, by omega, by simp, by go_num, by rw [show i + 1 - i = 1 by omega]; exact H0, World.ownsRow_nil _ _ _ _, Below.refl _ _⟩
  case round =>
    obtain ⟨k, acc, hk, hik, hacc, rfl, HA, hown, hnx⟩ := hrel
    clear H0
    have hsz := hnx.size
    have HD := Lib.hid (drop_at s i k (by omega))
    by_cases hlt : k < s.size
    · have HK := Lib.hid (bs_drop s k hlt)
      have hlt2 : (k : Int) < (s.size : Int) := by omega
      by_cases hc : s[k].toNat = 34
      · have HE := Lib.hid (step_end HA.out (show ((bs s).drop i).drop (k - i) = 34 :: (bs s).drop (k + 1) by rw [HD.out, HK.out, (u8_eq (n := 34) (by omega)).2 hc]; rfl))
        have hcb : ((s[k].toNat : Int) == 34) = true := by rw [beq_iff_eq]; omega
        clear hc
        go_wp2_with (refine wpList_bytes_string bytesT Tryd.underlying9 _ rfl _ rfl _ _ acc rfl hown ?_)
        go_ret3
        exact qr_some HE.out (by omega) hnx
      · have hcb : ((s[k].toNat : Int) == 34) = false := by rw [beq_eq_false_iff_ne]; omega
        have hne : s[k] ≠ 34 := fun e => hc (by rw [e]; rfl)
        have HNE := Lib.hid hne
        clear hne
        by_cases hb : s[k].toNat < 32 ∨ 126 < s[k].toNat
        · have HE := Lib.hid (step_bad HA.out (HD.out.trans HK.out) HNE.out (by rw [HD.out]; exact at_bad s k hlt (by omega)))
          rcases hb with hb | hb
          all_goals
            clear hc
            go_wp2
            go_ret3
            exact qr_none HE.out hnx
        · have g1 : decide ((s[k].toNat : Int) < 32) = false := by rw [decide_eq_false_iff_not]; omega
          have g2 : decide ((126 : Int) < (s[k].toNat : Int)) = false := by rw [decide_eq_false_iff_not]; omega
          by_cases h92 : s[k].toNat = 92
          · have g3 : ((s[k].toNat : Int) != 92) = false := by rw [bne_eq_false_iff_eq]; omega
            clear hc hb
            by_cases h1 : k + 1 < s.size
            · have h1i : (k : Int) + 1 < (s.size : Int) := by omega
              by_cases h2 : s[k + 1].toNat = 34 ∨ s[k + 1].toNat = 92
              · have HM := Lib.hid (at_pair s k h1 h92 h2)
                have HS := Lib.hid (step_on HA.out (HD.out.trans HK.out) HNE.out (by rw [HD.out]; exact HM.out))
                clear h92
                rcases (show s[k + 1].toNat = 34 ∨ (s[k + 1].toNat ≠ 34 ∧ s[k + 1].toNat = 92) by omega) with h3 | ⟨h3, h4⟩
                · have g4 : ((s[k + 1].toNat : Int) == 34) = true := by rw [beq_iff_eq]; omega
                  clear h2 h3
                  go_wp2_with (at_builtin; refine wpList_append_bytes bytesT wr rfl _ _ rfl _ w.heap.size _ acc [s[k + 1]] 1 (by rfl) (by rfl) (by rfl) hown (by rfl) (by simp only [List.length_cons, List.length_nil]; omega) hsz ?_; intro v1 w1 ho1 hg1 _)
                  go_roundw
                  case rel => exact ⟨k + 2, _, by omega, by omega, by simp only [List.length_append, List.length_cons, List.length_nil]; omega, by go_num, by rw [show k + 2 - i = k - i + 2 by omega]; exact HS, ho1, hnx.grown hg1 hsz (fun j hj => (hown.lt j hj).1)⟩
                  case measure => simp [intOf]; omega
                · have g4 : ((s[k + 1].toNat : Int) == 34) = false := by rw [beq_eq_false_iff_ne]; omega
                  have g5 : ((s[k + 1].toNat : Int) == 92) = true := by rw [beq_iff_eq]; omega
                  clear h2 h3 h4
                  go_wp2_with (at_builtin; refine wpList_append_bytes bytesT wr rfl _ _ rfl _ w.heap.size _ acc [s[k + 1]] 1 (by rfl) (by rfl) (by rfl) hown (by rfl) (by simp only [List.length_cons, List.length_nil]; omega) hsz ?_; intro v1 w1 ho1 hg1 _)
                  go_roundw
                  case rel => exact ⟨k + 2, _, by omega, by omega, by simp only [List.length_append, List.length_cons, List.length_nil]; omega, by go_num, by rw [show k + 2 - i = k - i + 2 by omega]; exact HS, ho1, hnx.grown hg1 hsz (fun j hj => (hown.lt j hj).1)⟩
                  case measure => simp [intOf]; omega
              · have g4 : ((s[k + 1].toNat : Int) == 34) = false := by rw [beq_eq_false_iff_ne]; omega
                have g5 : ((s[k + 1].toNat : Int) == 92) = false := by rw [beq_eq_false_iff_ne]; omega
                by_cases h3 : k + 3 < s.size
                · have h3i : (k : Int) + 3 < (s.size : Int) := by omega
                  have h2i : (k : Int) + 2 < (s.size : Int) := by omega
                  by_cases h120 : s[k + 1].toNat = 120
                  · have g6 : ((s[k + 1].toNat : Int) == 120) = true := by rw [beq_iff_eq]; omega
                    by_cases d2 : (Cl.digit s[k + 2]).toNat < 16
                    · have g7 : decide (((Cl.digit s[k + 2]).toNat : Int) < 16) = true := by rw [decide_eq_true_eq]; omega
                      by_cases d3 : (Cl.digit s[k + 3]).toNat < 16
                      · have g8 : decide (((Cl.digit s[k + 3]).toNat : Int) < 16) = true := by rw [decide_eq_true_eq]; omega
                        have HM := Lib.hid (at_hex s k h3 h92 h120 d2 d3)
                        have HS := Lib.hid (step_on HA.out (HD.out.trans HK.out) HNE.out (by rw [HD.out]; exact HM.out))
                        have HX := Lib.hid (hex_sum s[k + 2] s[k + 3] d2 d3)
                        clear h2 h92 h120
                        go_wp2_with (go_at_call 49; refine (digit_any _ _).mono ?_; rintro e w' ⟨rfl, rfl⟩)
                        have hlen : acc.length + [(16 : UInt8) * Cl.digit s[k + 2] + Cl.digit s[k + 3]].length ≤ 140737488355328 := by simp only [List.length_cons, List.length_nil]; omega
                        have o1 : k + 4 ≤ s.size := by omega
                        have o2 : i < k + 4 := by omega
                        have o3 : (acc ++ [(16 : UInt8) * Cl.digit s[k + 2] + Cl.digit s[k + 3]]).length < k + 4 := by simp only [List.length_append, List.length_cons, List.length_nil]; omega
                        have o4 : k + 4 - i = k - i + 4 := by omega
                        have O4 := Lib.hid o4
                        clear o4
                        have o5 : s.size - (k + 4) < s.size - ((k : Int)).toNat := by omega
                        have O6 := Lib.hid (show ((k : Int) + 4).toNat = k + 4 by omega)
                        have q1 : (0 : Int) ≤ (k : Int) + 2 := by omega
                        have q2 : (0 : Int) ≤ (k : Int) + 3 := by omega
                        have q3 : ((k : Int) + 2).toNat = k + 2 := by omega
                        have q4 : ((k : Int) + 3).toNat = k + 3 := by omega
                        have q5 : IntKind.i64.wrap ((k : Int) + 2) = (k : Int) + 2 := IntWalk.i64_in _ (by omega)
                        have q6 : IntKind.i64.wrap ((k : Int) + 3) = (k : Int) + 3 := IntWalk.i64_in _ (by omega)
                        have q7 : IntKind.i64.wrap (16 * ((Cl.digit s[k + 2]).toNat : Int)) = 16 * ((Cl.digit s[k + 2]).toNat : Int) := IntWalk.i64_in _ (by omega)
                        have q8 : IntKind.i64.wrap (16 * ((Cl.digit s[k + 2]).toNat : Int) + ((Cl.digit s[k + 3]).toNat : Int)) = 16 * ((Cl.digit s[k + 2]).toNat : Int) + ((Cl.digit s[k + 3]).toNat : Int) := IntWalk.i64_in _ (by omega)
                        have q9 : IntKind.u8.wrap (16 * ((Cl.digit s[k + 2]).toNat : Int) + ((Cl.digit s[k + 3]).toNat : Int)) = 16 * ((Cl.digit s[k + 2]).toNat : Int) + ((Cl.digit s[k + 3]).toNat : Int) := u8_in _ (by omega) (by omega)
                        go_region_held3 (fun _ => True) (trivial) ((first | (go_at_call 49; refine (digit_any _ _).mono ?_; rintro e w' ⟨rfl, rfl⟩) | (refine step_append_bytes_drew bytesT _ rfl _ _ rfl _ w.heap.size _ acc [(16 : UInt8) * Cl.digit s[k + 2] + Cl.digit s[k + 3]] 1 (by exact hexCell HX.out) (by rfl) (by simp) (by rfl) (by exact hown) (by rfl) (by exact hlen) (by exact hsz) ?_; intro v1 w1 ho1 hg1)))
                        all_goals
                          go_wp2
                          go_roundw
                          case rel => exact ⟨k + 4, _, o1, o2, o3, by go_num, by rw [O4.out]; exact HS, ho1, hnx.grown hg1 hsz (fun j hj => (hown.lt j hj).1)⟩
                          case measure => simp only [intOf]; rw [O6.out]; exact o5
                      · have g8 : decide (((Cl.digit s[k + 3]).toNat : Int) < 16) = false := by rw [decide_eq_false_iff_not]; omega
                        have HE := Lib.hid (step_bad HA.out (HD.out.trans HK.out) HNE.out (by rw [HD.out]; exact at_no s k h1 h92 h2 (fun _ h => d3 h.2.2)))
                        clear h2 h92 h120
                        go_wp2_with (go_at_call 49; refine (digit_any _ _).mono ?_; rintro e w' ⟨rfl, rfl⟩)
                        go_ret3
                        exact qr_none HE.out hnx
                    · have g7 : decide (((Cl.digit s[k + 2]).toNat : Int) < 16) = false := by rw [decide_eq_false_iff_not]; omega
                      have HE := Lib.hid (step_bad HA.out (HD.out.trans HK.out) HNE.out (by rw [HD.out]; exact at_no s k h1 h92 h2 (fun _ h => d2 h.2.1)))
                      clear h2 h92 h120
                      go_wp2_with (go_at_call 49; refine (digit_any _ _).mono ?_; rintro e w' ⟨rfl, rfl⟩)
                      go_ret3
                      exact qr_none HE.out hnx
                  · have g6 : ((s[k + 1].toNat : Int) == 120) = false := by rw [beq_eq_false_iff_ne]; omega
                    have HE := Lib.hid (step_bad HA.out (HD.out.trans HK.out) HNE.out (by rw [HD.out]; exact at_no s k h1 h92 h2 (fun _ h => h120 h.1)))
                    clear h2 h92 h120
                    go_wp2_with (go_at_call 49; refine (digit_any _ _).mono ?_; rintro e w' ⟨rfl, rfl⟩)
                    go_ret3
                    exact qr_none HE.out hnx
                · have h3i : (s.size : Int) ≤ (k : Int) + 3 := by omega
                  have HE := Lib.hid (step_bad HA.out (HD.out.trans HK.out) HNE.out (by rw [HD.out]; exact at_no s k h1 h92 h2 (fun h => absurd h h3)))
                  clear h2 h92 h3
                  go_wp2_with (go_at_call 49; refine (digit_any _ _).mono ?_; rintro e w' ⟨rfl, rfl⟩)
                  go_ret3
                  exact qr_none HE.out hnx
            · have h1i : (s.size : Int) ≤ (k : Int) + 1 := by omega
              have HE := Lib.hid (step_bad HA.out (HD.out.trans HK.out) HNE.out (by rw [HD.out]; exact at_end s k (by omega) h92))
              clear h92 h1
              go_wp2_with (go_at_call 49; refine (digit_any _ _).mono ?_; rintro e w' ⟨rfl, rfl⟩)
              go_ret3
              exact qr_none HE.out hnx
          · have g3 : ((s[k].toNat : Int) != 92) = true := by rw [bne_iff_ne]; omega
            have HM := Lib.hid (at_self s k hlt (by omega) h92)
            have HS := Lib.hid (step_on HA.out (HD.out.trans HK.out) HNE.out (by rw [HD.out]; exact HM.out))
            clear hc hb h92
            go_wp2_with (at_builtin; refine wpList_append_bytes bytesT wr rfl _ _ rfl _ w.heap.size _ acc [s[k]] 1 (by rfl) (by rfl) (by rfl) hown (by rfl) (by simp only [List.length_cons, List.length_nil]; omega) hsz ?_; intro v1 w1 ho1 hg1 _)
            go_roundw
            case rel => exact ⟨k + 1, _, by omega, by omega, by simp only [List.length_append, List.length_cons, List.length_nil]; omega, by go_num, by rw [show k + 1 - i = k - i + 1 by omega]; exact HS, ho1, hnx.grown hg1 hsz (fun j hj => (hown.lt j hj).1)⟩
            case measure => simp [intOf]; omega
    · have HE := Lib.hid (step_out HA.out (show ((bs s).drop i).drop (k - i) = [] by rw [HD.out]; exact List.drop_eq_nil_of_le (by rw [bs_len]; omega)))
      go_wp2
      go_ret3
      exact qr_none HE.out hnx
end Er
end Go.Proofs.YtjloonijnbfhhaaDoor
