/- The walks of the document's Right, Summed and Encode. -/
import Derived.Test.YtnmgdlmicgbapaaGreatDoorPWStands
import Derived.Test.YtnmgdlmicgbapaaGreatDoorPWEnc
namespace Go.Proofs.YtnmgdlmicgbapaaGreatDoor
open Go.RowKit Go.Maps

namespace Pw
open Pk
set_option maxRecDepth 100000 in
set_option maxHeartbeats 2000000 in
theorem dright_any (l : List PItem) (ao : Option Addr) (cap : Nat) (w : World) (hI : ItemsAt w ao l) (hs : ∀ x ∈ l, Sane x) (hl : l.length ≤ 2000000) :
    Calls Tryz.prog 19 #[.slice ao l.length cap] w fun e w' => e = .returned (.bool (right lt l)) ∧ Below w.heap.size w w' := by
  have HR0 := Lib.hid (show rightFrom lt (l.take 0) (l.drop 0) = rightFrom lt [] l by simp)
  have HR := Lib.hid (show right lt l = (!l.isEmpty && rightFrom lt [] l) from rfl)
  go_enter Tryz.func19, Tryz.ntmps19
  go_wp2
  go_loopw [3] (fun i wr => ∃ k : Nat, k ≤ l.length ∧ i = .int .i64 k ∧ Hid (rightFrom lt [] l = rightFrom lt (l.take k) (l.drop k)) ∧ Below w.heap.size w wr) (fun i _ => l.length - (intOf i).toNat)
  case atStart => exact ⟨0, Nat.zero_le _, rfl, HR0.out.symm, Below.refl _ _⟩
  case round =>
    obtain ⟨k, hk, rfl, hA, hnx⟩ := hrel
    by_cases hlt : k < l.length
    · obtain ⟨x, hx⟩ : ∃ x, l[k]? = some x := ⟨_, List.getElem?_eq_getElem hlt⟩
      have HS := Lib.hid (rightFrom_step l k x hx)
      have HC := stands_any l ao cap k x hx wr (hI.below hnx) hs hl
      have hne : l.isEmpty = false := by cases l with | nil => simp at hlt | cons _ _ => rfl
      have HR2 := Lib.hid (show right lt l = (stands lt (l.take k) x && rightFrom lt (l.take (k + 1)) (l.drop (k + 1))) by rw [HR.out, hne, hA.out, HS.out]; rfl)
      have HA2 := Lib.hid (hA.out.trans HS.out)
      clear hne hx hI
      have hki : (k : Int) < (l.length : Int) := by omega
      generalize stands lt (l.take k) x = sb at *
      cases sb with
      | false =>
        go_wp2_with fail
        refine HC.mono ?_
        rintro e w5 ⟨rfl, hb5⟩
        go_wp2
        go_ret
        exact ⟨ret_bool (by rw [HR2.out]; rfl), hnx.trans (hb5.mono hnx.size)⟩
      | true =>
        go_wp2_with fail
        refine HC.mono ?_
        rintro e w5 ⟨rfl, hb5⟩
        go_wp2
        go_roundw
        case rel => exact ⟨k + 1, by omega, by go_num, HA2.out, hnx.trans (hb5.mono hnx.size)⟩
        case measure => simp [intOf]; omega
    · have HX := Lib.hid (show right lt l = decide (0 < l.length) by
        rw [HR.out, hA.out, List.drop_eq_nil_of_le (by omega : l.length ≤ k), rightFrom]
        cases l <;> simp)
      go_wp2
      go_ret
      exact ⟨ret_bool (by rw [HX.out]), hnx⟩
set_option maxRecDepth 100000 in
set_option maxHeartbeats 4000000 in
theorem dencode_any (l : List PItem) (ao : Option Addr) (cap : Nat) (w : World) (hI : ItemsAt w ao l) (hs : ∀ x ∈ l, Sane x) (hl : l.length ≤ 2000000) :
    Calls Tryz.prog 11 #[.slice ao l.length cap] w fun e w' => Below w.heap.size w w' ∧ (right lt l = false → e = .returned (.tuple #[.slice none 0 0, .int .i64 240])) ∧ (right lt l = true → ∃ v, e = .returned (.tuple #[v, .int .i64 0]) ∧ Own w w' v (enc l)) := by
  have HR := dright_any l ao cap w hI hs hl
  cases hr : right lt l with
  | false =>
    rw [hr] at HR
    clear hr hI
    go_enter Tryz.func11, Tryz.ntmps11
    go_wp2_with fail
    refine HR.mono ?_
    rintro e w1 ⟨rfl, hb1⟩
    go_wp2
    go_ret2
    exact ⟨hb1, fun _ => rfl, fun h => by cases h⟩
  | true =>
    have hF := right_fits (by omega) hr
    rw [hr] at HR
    have HA := fun k => acc_len l hF k
    have HE := Lib.hid (show enc l = acc l l.length ++ low 4 (crc (acc l l.length)) by rw [acc_all l _ (Nat.le_refl _)]; rfl)
    have hlen := hl
    have kc := fun (W : World) (C : Array Value) (n c : Nat) => Lib.run_convert_bytes_const (P := Tryz.prog) W 22 5 C n c Tryz.underlying22 Tryz.underlying5
    have HP := fun (W : World) (hW : Below w.heap.size w W) => low_full magic W.heap.size l.length 4 w.heap.size (W.alloc (.cells #[.int .u8 66, .int .u8 79, .int .u8 76, .int .u8 69, .int .u8 80, .int .u8 65, .int .u8 75, .int .u8 49] 5 (8, 9))) (by omega) (by decide) (by decide) (by decide) (by rw [World.size_alloc]; have := hW.size; omega) (fun j u hj => (World.cell?_alloc_mark _ _ _ _ _).trans (magic_get j u hj)) (by simp)
    clear hr
    go_enter Tryz.func11, Tryz.ntmps11
    go_wp2_with fail
    refine HR.mono ?_
    rintro e w1 ⟨rfl, hb1⟩
    go_wp2_with (go_at_call 20; refine (HP w1 hb1).mono ?_; rintro e w2 ⟨v2, rfl, ho2, ha2⟩)
    have hO : Own w w2 v2 (acc l 0) := ⟨by simpa [acc] using ho2, ha2.below (hb1.alloc hb1.size _) (by rw [World.size_alloc]; have := hb1.size; omega) (fun j e => by have : w1.heap.size = j := Option.some.inj e; have := hb1.size; omega)⟩
    clear HP HR ho2 ha2 hb1 kc
    go_loopw [5, 22] (fun bv i wr => ∃ k : Nat, k ≤ l.length ∧ i = .int .i64 k ∧ Own w wr bv (acc l k)) (fun _ i _ => l.length - (intOf i).toNat)
    case atStart => exact ⟨0, Nat.zero_le _, rfl, hO⟩
    case round =>
      obtain ⟨k, hk, rfl, hOr⟩ := hrel
      clear hO
      by_cases hlt : k < l.length
      · obtain ⟨x, hx⟩ : ∃ x, l[k]? = some x := ⟨_, List.getElem?_eq_getElem hlt⟩
        have hxm := List.mem_of_getElem? hx
        have hsx := hs x hxm
        have hfx := hF x hxm
        have hki : (k : Int) < (l.length : Int) := by omega
        obtain ⟨g, o, sl, rfl, hgw, hpx, hcw⟩ := hI k x hx
        have hcx := fun i c hi => (hOr.below.cell (p := ⟨g, o + (k * 6 + i), none⟩) hgw).trans (hcw i c hi)
        have d0 : wr.cell? ⟨g, o + k * 6, none⟩ = some (.string (mk x.path)) := hcx 0 _ rfl
        have d1 : wr.cell? ⟨g, o + k * 6 + 1, none⟩ = some (.int .i64 x.kind) := hcx 1 _ rfl
        have d2 : wr.cell? ⟨g, o + k * 6 + 2, none⟩ = some (.int .i64 x.size) := hcx 2 _ rfl
        have d3 : wr.cell? ⟨g, o + k * 6 + 3, none⟩ = some (.string (mk x.data)) := hcx 3 _ rfl
        have d4 : wr.cell? ⟨g, o + k * 6 + 4, none⟩ = some sl := hcx 4 _ rfl
        have d5 : wr.cell? ⟨g, o + k * 6 + 5, none⟩ = some (.int .i64 x.same) := hcx 5 _ rfl
        have hp2 := hpx
        obtain ⟨sa, sc, rfl, _⟩ := hp2
        have hR0 := row_new hOr x (.slice sa x.pieces.length sc) 42
        have HN := Lib.hid ((acc_succ l k x hx).trans (itemB_eq (acc l k) x))
        have hAk := HA k
        have f1 := hfx.kind; have f2 := hfx.path; have f3 := hfx.same; have f4 := hfx.size; have f5 := hfx.data; have f6 := hfx.count
        clear hcx hcw hx hOr
        have x1 := hR0.box 1 _ rfl
        have hkb : bytesV (low 1 x.kind.toNat) = [.int .u8 x.kind] := by
          rcases (show x.kind = 1 ∨ x.kind = 2 ∨ x.kind = 3 by omega) with e | e | e <;> rw [e] <;> rfl
        have HKB := Lib.hid hkb
        clear hkb
        go_upto_region 9 with fail
        generalize (wr.alloc (.cells #[.string (mk x.path), .int .i64 x.kind, .int .i64 x.size, .string (mk x.data), .slice sa x.pieces.length sc, .int .i64 x.same] 42)) = W at *
        generalize acc l k = A at *
        go_wp2_with (first | (go_at_call 20; refine (low_row hR11 4 (x.pieces.length : Int) (by decide) (by omega) (by first | omega | (simp only [List.length_append, low_len]; omega))).mono ?_; rintro e w12 ⟨v12, rfl, hR12⟩; have q12_4 := hR12.box 4 _ rfl) | (go_at_call 20; refine (low_row hR10 4 x.size (by decide) (by omega) (by first | omega | (simp only [List.length_append, low_len]; omega))).mono ?_; rintro e w11 ⟨v11, rfl, hR11⟩; have q11_4 := hR11.box 4 _ rfl) | (go_at_call 20; refine (low_row hR9 4 (x.same + 1) (by decide) (by omega) (by first | omega | (simp only [List.length_append, low_len]; omega))).mono ?_; rintro e w10 ⟨v10, rfl, hR10⟩; have q10_2 := hR10.box 2 _ rfl; have q10_4 := hR10.box 4 _ rfl) | (at_builtin; refine wpList_text_row hR8 rfl _ _ rfl x.path rfl rfl (by first | omega | (simp only [List.length_append, low_len]; omega)) ?_; intro v9 w9 hR9; have q9_5 := hR9.box 5 _ rfl; have q9_2 := hR9.box 2 _ rfl; have q9_4 := hR9.box 4 _ rfl) | (go_at_call 20; refine (low_row hR7 2 (x.path.length : Int) (by decide) (by omega) (by first | omega | (simp only [List.length_append, low_len]; omega))).mono ?_; rintro e w8 ⟨v8, rfl, hR8⟩; have q8_0 := hR8.box 0 _ rfl) | (at_builtin; refine wpList_append_bytes byT W rfl _ _ rfl _ w.heap.size _ A (low 1 x.kind.toNat) 1 (by rw [HKB.out]) (by rfl) (by rfl) hR0.own (by rfl) (by rw [low_len]; omega) hR0.below.size ?_; intro v7 w7 ho7 hg7 hat7; have hR7 := hR0.app ho7 ⟨hg7, hat7⟩; have q7_0 := hR7.box 0 _ rfl))
        clear hR0 hR7 hR8 hR9 hR10 hR11 ho7 hg7 hat7
        simp only [Int.toNat_natCast] at hR12
        generalize wr.heap.size = bx at *
        obtain ⟨B, hB, hBl, HB⟩ : ∃ B, Row w w12 v12 B bx x (.slice sa x.pieces.length sc) ∧ B.length ≤ 20000000000000 ∧ Hid (acc l (k + 1) = B ++ ((x.pieces.take x.pieces.length).flatMap fun p => low 4 p.toNat) ++ low 4 x.data.length ++ x.data) :=
          ⟨_, hR12, by simp only [List.length_append, low_len]; omega, HN.out⟩
        have HPL := fun j => pieces_len x.pieces j
        clear HN hR12
        go_loopw [5, 58] (fun bv i wy => ∃ j : Nat, j ≤ x.pieces.length ∧ i = .int .i64 j ∧ Row w wy bv (B ++ (x.pieces.take j).flatMap fun p => low 4 p.toNat) bx x (.slice sa x.pieces.length sc)) (fun _ i _ => x.pieces.length - (intOf i).toNat)
        case atStart => exact ⟨0, Nat.zero_le _, rfl, by simpa using hB⟩
        case round =>
          obtain ⟨j, hj, rfl, hRj⟩ := hrel
          have hPj := HPL j
          clear hB
          by_cases hjl : j < x.pieces.length
          · obtain ⟨p, hp⟩ : ∃ p, x.pieces[j]? = some p := ⟨_, List.getElem?_eq_getElem hjl⟩
            have hpf := hfx.pieces p (List.mem_of_getElem? hp)
            have hji : (j : Int) < (x.pieces.length : Int) := by omega
            have HPS := Lib.hid (pieces_succ x.pieces j p hp)
            have hpy := hpx.below hRj.below
            obtain ⟨_, _, e1, _, _, _, hcell⟩ := hpy
            cases e1
            obtain ⟨g3, o3, rfl, _, hc3⟩ := hcell j p hp
            have HPut := low_row hRj 4 p (by decide) (by omega) (by rw [List.length_append]; omega)
            have q4 := hRj.box 4 _ rfl
            clear hcell hp HPL
            go_wp2_with fail
            refine HPut.mono ?_
            rintro e w13 ⟨v13, rfl, hR13⟩
            go_wp2
            go_roundw
            case rel => exact ⟨j + 1, by omega, by go_num, by rw [HPS.out, ← List.append_assoc]; exact hR13⟩
            case measure => simp [intOf]; omega
          · obtain rfl : j = x.pieces.length := by omega
            have q3 := hRj.box 3 _ rfl
            clear HPL
            generalize hB2 : (B ++ (x.pieces.take x.pieces.length).flatMap fun p => low 4 p.toNat) = B2 at *
            have hBl2 : B2.length ≤ 30000000000000 := by rw [← hB2, List.length_append]; omega
            clear hB2
            go_wp2_with (first | (at_builtin; refine wpList_text_row hR14 rfl _ _ rfl x.data rfl rfl (by first | omega | (simp only [List.length_append, low_len]; omega)) ?_; intro v15 w15 hR15) | (go_at_call 20; refine (low_row hRj 4 (x.data.length : Int) (by decide) (by omega) (by omega)).mono ?_; rintro e w14 ⟨v14, rfl, hR14⟩; have q14 := hR14.box 3 _ rfl))
            go_roundw
            case rel => exact ⟨k + 1, by omega, by go_num, by rw [HB.out]; simpa only [Int.toNat_natCast] using hR15.toOwn⟩
            case measure => simp [intOf]; omega
      · obtain rfl : k = l.length := by omega
        have HAl := HA l.length
        have hpos : 8 ≤ (acc l l.length).length := by
          unfold acc
          rw [List.length_append, List.length_append]
          have : magic.length = 8 := rfl
          omega
        have HC := summed_any (acc l l.length) _ w.heap.size wr (by omega) (by omega) hOr.below.size hOr.own
        rw [← HE.out] at HC
        clear HE HA hpos
        go_wp2_with (go_at_call 21; refine HC.mono ?_; rintro e w4 ⟨v4, rfl, ho4, ha4⟩)
        go_ret2
        have hF := hOr.app ho4 ha4
        exact ⟨hF.below, (fun h => by cases h), fun _ => ⟨_, rfl, hF⟩⟩
end Pw
end Go.Proofs.YtnmgdlmicgbapaaGreatDoor
