/- The walks of what one item may be, the document's: zeros, long, file. -/
import Derived.Test.YtnmgdlmicgbapaaGreatDoorPWItem
import Derived.WalkSpells
import Derived.WalkLawsBesides
namespace Go.Proofs.YtnmgdlmicgbapaaGreatDoor
open Go.RowKit

namespace Pw
open Pk
theorem dzeros_any (s : ByteArray) (w : World) (hs : s.size ≤ 2000000) : Calls Tryz.prog 48 #[.string s] w fun e w' => e = .returned (.bool (allZero (bs s))) ∧ w = w' := by
  go_enter Tryz.func48, Tryz.ntmps48
  go_wp2
  go_loop [3] (fun i => ∃ k : Nat, k ≤ s.size ∧ i = .int .i64 k ∧ Hid (allZero (bs s) = allZero ((bs s).drop k))) (fun i => s.size - (intOf i).toNat)
  case atStart => exact ⟨0, Nat.zero_le _, rfl, rfl⟩
  case round =>
    obtain ⟨k, hk, rfl, hR⟩ := hrel
    by_cases hlt : k < s.size
    · have HD := Lib.hid (bs_drop s k hlt)
      by_cases h0 : s[k].toNat = 0
      · have h1 : ((s[k].toNat : Int) != 0) = false := by simp [h0]
        have HZ := Lib.hid (show allZero ((bs s).drop k) = allZero ((bs s).drop (k + 1)) by
          rw [HD.out]
          have : (s[k] == 0) = true := by rw [beq_iff_eq]; exact UInt8.toNat.inj (by rw [h0]; rfl)
          simp only [allZero, List.all_cons, this, Bool.true_and])
        clear h0
        go_wp2
        go_round
        case rel => exact ⟨k + 1, by omega, by go_num, hR.out.trans HZ.out⟩
        case measure => simp [intOf]; omega
      · have h1 : ((s[k].toNat : Int) != 0) = true := by simp; omega
        have HZ := Lib.hid (show allZero ((bs s).drop k) = false by
          rw [HD.out]
          have : (s[k] == 0) = false := by rw [beq_eq_false_iff_ne]; rintro e; exact h0 (by rw [e]; rfl)
          simp only [allZero, List.all_cons, this, Bool.false_and])
        clear h0
        go_wp2
        go_ret
        exact ⟨ret_bool (by rw [hR.out, HZ.out]), rfl⟩
    · have HZ := Lib.hid (show allZero ((bs s).drop k) = true by rw [List.drop_eq_nil_of_le (by rw [bs_len]; omega)]; rfl)
      go_wp2
      go_ret
      exact ⟨ret_bool (by rw [hR.out, HZ.out]), rfl⟩
theorem long_any (size p : Int) (w : World) (h1 : 0 ≤ size) (h2 : size ≤ 8459264) (h3 : 0 ≤ p) (h4 : 512 * p < size) : Calls Tryz.prog 47 #[.int .i64 size, .int .i64 p] w fun e w' => e = .returned (.int .i64 (min 512 (size - 512 * p))) ∧ w = w' := by
  go_enter Tryz.func47, Tryz.ntmps47
  go_wp2
  all_goals
    go_ret
    exact ⟨ret_int (by omega), rfl⟩
theorem mk_mid (l : List UInt8) (a n : Nat) : (mk l).extract a (a + n) = mk ((l.drop a).take n) := by
  have := Lib.extract_mk l a (a + n)
  rw [show a + n - a = n by omega] at this
  exact this
set_option maxRecDepth 100000 in
set_option maxHeartbeats 1000000 in
theorem dfile_any (x : PItem) (sl : Value) (w : World) (hx : Sane x) (hp : IntsAt w sl x.pieces) : Calls Tryz.prog 39 #[itemV x sl] w fun e w' => e = .returned (.bool (file x)) ∧ Below w.heap.size w w' := by
  obtain ⟨ao, cap, rfl, hnil, hcap, hmax, hcell⟩ := hp
  have hm := hx.many
  have hxd := hx.data
  have HE := Lib.hid (show file x = (decide (0 ≤ x.size ∧ x.size ≤ 8459264) && filePs x.size (-1) x.data x.pieces) from rfl)
  have hp2 : IntsAt w (.slice ao x.pieces.length cap) x.pieces := ⟨ao, cap, rfl, hnil, hcap, hmax, hcell⟩
  clear hnil hcap hmax hcell
  unfold itemV
  by_cases hs : 0 ≤ x.size ∧ x.size ≤ 8459264
  · obtain ⟨hs1, hs2⟩ := hs
    have HF := Lib.hid (show file x = filePs x.size (-1) x.data x.pieces by rw [HE.out, decide_eq_true ⟨hs1, hs2⟩]; rfl)
    have hB0 := BoxAt.new w x (.slice ao x.pieces.length cap) 42
    have hP0 := hp2.alloc (.cells #[.string (mk x.path), .int .i64 x.kind, .int .i64 x.size, .string (mk x.data), (.slice ao x.pieces.length cap), .int .i64 x.same] 42)
    have hbe : Below w.heap.size w (w.alloc (.cells #[.string (mk x.path), .int .i64 x.kind, .int .i64 x.size, .string (mk x.data), (.slice ao x.pieces.length cap), .int .i64 x.same] 42)) := (Below.refl _ _).alloc (Nat.le_refl _) _
    clear HE hp2
    go_enter Tryz.func39, Tryz.ntmps39
    go_wp2
    generalize hw0 : (w.alloc (.cells #[.string (mk x.path), .int .i64 x.kind, .int .i64 x.size, .string (mk x.data), (.slice ao x.pieces.length cap), .int .i64 x.same] 42)) = w0 at *
    clear hw0
    have b2 := hB0 2 _ rfl
    have b3 := hB0 3 _ rfl
    have hms : (mk x.data).size = x.data.length := rfl
    go_loop [3, 4, 19] (fun av lv i => ∃ k : Nat, k ≤ x.pieces.length ∧ i = .int .i64 k ∧ ∃ (a : Nat) (last : Int), av = .int .i64 a ∧ lv = .int .i64 last ∧ -1 ≤ last ∧ last ≤ 100000 ∧ a ≤ x.data.length ∧ Hid (filePs x.size last (x.data.drop a) (x.pieces.drop k) = filePs x.size (-1) x.data x.pieces)) (fun _ _ i => x.pieces.length - (intOf i).toNat)
    case atStart => exact ⟨0, Nat.zero_le _, rfl, 0, -1, rfl, rfl, by omega, by omega, Nat.zero_le _, rfl⟩
    case round =>
      obtain ⟨k, hk, rfl, a, last, rfl, rfl, hl1, hl2, hal, hR⟩ := hrel
      by_cases hlt : k < x.pieces.length
      · obtain ⟨p, hpk⟩ : ∃ p, x.pieces[k]? = some p := ⟨_, List.getElem?_eq_getElem hlt⟩
        have hpm := hx.pieces p (List.mem_of_getElem? hpk)
        have hdr : x.pieces.drop k = p :: x.pieces.drop (k + 1) := by
          rw [List.drop_eq_getElem_cons hlt]; congr 1
          rw [List.getElem?_eq_getElem hlt] at hpk; exact Option.some.inj hpk
        rw [hdr] at hR
        obtain ⟨_, _, e1, _, _, _, hcell⟩ := hP0
        cases e1
        obtain ⟨g, o, rfl, hg, hc⟩ := hcell k p hpk
        clear hcell hpk hdr hB0
        by_cases h1 : p ≤ last
        · have HN := Lib.hid (filePs_no x.size last p (x.data.drop a) (x.pieces.drop (k + 1)) (.inl h1))
          go_wp2
          go_ret
          exact ⟨ret_bool (by rw [HF.out, ← hR.out, HN.out]), hbe⟩
        · by_cases h2 : x.size ≤ 512 * p
          · have HN := Lib.hid (filePs_no x.size last p (x.data.drop a) (x.pieces.drop (k + 1)) (.inr h2))
            by_cases h22 : 16522 < p
            all_goals
              go_wp2
              go_ret
              exact ⟨ret_bool (by rw [HF.out, ← hR.out, HN.out]), hbe⟩
          · obtain ⟨nn, hnn⟩ : ∃ nn : Nat, nn = (min 512 (x.size - 512 * p)).toNat := ⟨_, rfl⟩
            have HN := Lib.hid (filePs_step x.size last p (x.data.drop a) (x.pieces.drop (k + 1)) (by omega) (by omega) nn hnn)
            have hn1 : (nn : Int) ≤ 512 := by omega
            have hE := fun W => (long_any x.size p W hs1 hs2 (by omega) (by omega))
            have hee : min 512 (x.size - 512 * p) = (nn : Int) := by omega
            rw [hee] at hE
            have hdl : (x.data.drop a).length = x.data.length - a := List.length_drop
            rw [hdl] at HN
            have HDD := Lib.hid (show (x.data.drop a).drop nn = x.data.drop (a + nn) by rw [List.drop_drop])
            rw [HDD.out] at HN
            clear hee hnn hdl
            have hp1 : 0 ≤ p := by omega
            have hp2 : p ≤ 16522 := by omega
            by_cases h3 : x.data.length - a < nn
            · have h3' : (x.data.length : Int) < (a : Int) + (nn : Int) := by omega
              go_wp2_with (go_at_call 47; refine (hE _).mono ?_; rintro e w' ⟨rfl, rfl⟩)
              go_ret
              exact ⟨ret_bool (by rw [HF.out, ← hR.out, HN.out, decide_eq_true h3]; rfl), hbe⟩
            · have h3' : (a : Int) + (nn : Int) ≤ (x.data.length : Int) := by omega
              have h3n : a + nn ≤ x.data.length := by omega
              have hu := mk_mid x.data a nn
              have HZ := dzeros_any (mk ((x.data.drop a).take nn)) w0 (by have := List.length_take_le nn (x.data.drop a); show ((x.data.drop a).take nn).length ≤ _; omega)
              rw [bs_mk] at HZ
              cases ha : allZero ((x.data.drop a).take nn) with
              | true =>
                have HA := Lib.hid ha
                rw [ha] at HZ
                clear ha
                go_wp2_with (first | (go_at_call 47; refine (hE _).mono ?_; rintro e w' ⟨rfl, rfl⟩) | (go_at_call 48; refine HZ.mono ?_; rintro e w1 ⟨rfl, rfl⟩))
                go_ret
                exact ⟨ret_bool (by rw [HF.out, ← hR.out, HN.out, decide_eq_false h3, HA.out]; rfl), hbe⟩
              | false =>
                have HA := Lib.hid ha
                rw [ha] at HZ
                clear ha
                go_wp2_with (first | (go_at_call 47; refine (hE _).mono ?_; rintro e w' ⟨rfl, rfl⟩) | (go_at_call 48; refine HZ.mono ?_; rintro e w1 ⟨rfl, rfl⟩))
                go_round
                case rel =>
                  refine ⟨k + 1, by omega, by go_num, a + nn, _, by go_num, rfl, by omega, by omega, by omega, ?_⟩
                  have e := hR.out
                  rw [HN.out, decide_eq_false h3, HA.out] at e
                  exact e
                case measure => simp [intOf]; omega
      · obtain rfl : k = x.pieces.length := by omega
        have HD := Lib.hid (show filePs x.size last (x.data.drop a) (x.pieces.drop x.pieces.length) = (x.data.drop a).isEmpty by rw [List.drop_length]; rfl)
        clear hB0
        go_wp2
        go_ret
        refine ⟨ret_bool ?_, hbe⟩
        rw [HF.out, ← hR.out, HD.out]
        rw [Bool.eq_iff_iff]
        simp only [beq_iff_eq, List.isEmpty_iff, List.drop_eq_nil_iff]
        omega
  · have HF := Lib.hid (show file x = false by rw [HE.out, decide_eq_false hs]; rfl)
    go_enter Tryz.func39, Tryz.ntmps39
    by_cases h0 : x.size < 0
    all_goals
      go_wp2
      go_ret
      exact ⟨ret_bool HF.out.symm, (Below.refl _ _).alloc (Nat.le_refl _) _⟩
end Pw
end Go.Proofs.YtnmgdlmicgbapaaGreatDoor
