/- The walk of the document's stands: may an item stand where it does? -/
import Derived.Test.YtnmgdlmicgbapaaGreatDoorPWRight
import Derived.Deep.DeepCutAuto
namespace Go.Proofs.YtnmgdlmicgbapaaGreatDoor
open Go.RowKit Go.Maps

namespace Pw
open Pk
/-- Is a directory met at a path? -/
def dirAt (p : List UInt8) (y : PItem) : Bool := decide (y.path = p ∧ y.kind = 2)
theorem any_snoc (l : List PItem) (j : Nat) (y : PItem) (f : PItem → Bool) (h : l[j]? = some y) : (l.take (j + 1)).any f = ((l.take j).any f || f y) := by
  rw [take_snoc l j y h, List.any_append]
  simp
theorem follows_eq (met : List PItem) (a p : List UInt8) : Pk.follows lt met a p = (decide (p ≠ [] ∧ (names p).length ≤ 32) && less lt (names a) (names p) && (names p).all goodName && met.any (dirAt (above p))) := rfl
/-- What the document asks behind the place: as the program's. -/
theorem tail_eq (met : List PItem) (x : PItem) : (x.same = -1 → (if x.same = -1 then may x else sameOk met x) = if x.kind = 2 then isEmpty x else if x.kind = 1 then file x else link x) ∧ (x.same < -1 → (if x.same = -1 then may x else sameOk met x) = false) := by
  constructor
  · intro h
    rw [if_pos h]
    unfold may
    by_cases h1 : x.kind = 1
    · rw [if_pos h1, if_neg (by omega), if_pos h1]
    · by_cases h2 : x.kind = 2
      · rw [if_neg h1, if_pos h2, if_pos h2]
      · rw [if_neg h1, if_neg h2, if_neg h2, if_neg h1]
  · intro h
    rw [if_neg (by omega)]
    unfold sameOk
    rw [decide_eq_false (by omega)]
    rfl
set_option maxRecDepth 100000 in
set_option maxHeartbeats 8000000 in
theorem stands_any (l : List PItem) (ao : Option Addr) (cap k : Nat) (x : PItem) (hx : l[k]? = some x) (w : World) (hI : ItemsAt w ao l) (hs : ∀ x ∈ l, Sane x) (hl : l.length ≤ 2000000) :
    Calls Tryz.prog 26 #[.slice ao l.length cap, .int .i64 k] w fun e w' => e = .returned (.bool (stands lt (l.take k) x)) ∧ Below w.heap.size w w' := by
  have hlt : k < l.length := (List.getElem?_eq_some_iff.1 hx).1
  have hsx := hs x (List.mem_of_getElem? hx)
  have hki : (k : Int) < (l.length : Int) := by omega
  obtain ⟨sm, hsm⟩ : ∃ sm, x.same = sm := ⟨_, rfl⟩
  have HSM := Lib.hid hsm
  have hsmr := hsx.same
  rw [hsm] at hsmr
  obtain ⟨g, o, sl, rfl, hgw, hpx, hcx⟩ := hI k x hx
  have d0 : w.cell? ⟨g, o + k * 6, none⟩ = some (.string (mk x.path)) := hcx 0 _ rfl
  have d1 : w.cell? ⟨g, o + k * 6 + 1, none⟩ = some (.int .i64 x.kind) := hcx 1 _ rfl
  have d2 : w.cell? ⟨g, o + k * 6 + 2, none⟩ = some (.int .i64 x.size) := hcx 2 _ rfl
  have d3 : w.cell? ⟨g, o + k * 6 + 3, none⟩ = some (.string (mk x.data)) := hcx 3 _ rfl
  have d4 : w.cell? ⟨g, o + k * 6 + 4, none⟩ = some sl := hcx 4 _ rfl
  have d5 : w.cell? ⟨g, o + k * 6 + 5, none⟩ = some (.int .i64 sm) := by rw [← hsm]; exact hcx 5 _ rfl
  have hp2 := hpx
  obtain ⟨sa, sc, rfl, _⟩ := hp2
  have hB8 := BoxAt.new w x (.slice sa x.pieces.length sc) 42
  rw [hsm] at hB8
  clear hsm
  have hpW := hpx.alloc (.cells #[.string (mk x.path), .int .i64 x.kind, .int .i64 x.size, .string (mk x.data), .slice sa x.pieces.length sc, .int .i64 sm] 42)
  have hIW : ItemsAt (w.alloc (.cells #[.string (mk x.path), .int .i64 x.kind, .int .i64 x.size, .string (mk x.data), .slice sa x.pieces.length sc, .int .i64 sm] 42)) _ l := hI.below ((Below.refl _ _).alloc (Nat.le_refl _) _)
  have hwW : Below w.heap.size w (w.alloc (.cells #[.string (mk x.path), .int .i64 x.kind, .int .i64 x.size, .string (mk x.data), .slice sa x.pieces.length sc, .int .i64 sm] 42)) := (Below.refl _ _).alloc (Nat.le_refl _) _
  have hzW : (w.alloc (.cells #[.string (mk x.path), .int .i64 x.kind, .int .i64 x.size, .string (mk x.data), .slice sa x.pieces.length sc, .int .i64 sm] 42)).heap.size = w.heap.size + 1 := by simp
  have HZW := Lib.hid hzW
  have x0 := hB8 0 _ rfl
  clear hcx hpx hI hzW
  have e0 := mk_toList x.path
  obtain ⟨bad, hbad⟩ : ∃ b : Bool, b = decide (¬ (k = 0 ↔ x.path = [])) := ⟨_, rfl⟩
  have HBAD := Lib.hid hbad
  clear hbad
  go_enter Tryz.func26, Tryz.ntmps26
  go_upto_region 2 with fail
  generalize hW : (w.alloc (.cells #[.string (mk x.path), .int .i64 x.kind, .int .i64 x.size, .string (mk x.data), .slice sa x.pieces.length sc, .int .i64 sm] 42)) = W at *
  clear hW
  go_cut [21] from 16 to 21 (fun v wx => v = .bool bad ∧ wx = W)
  case first =>
    by_cases hk0 : k = 0
    · have h0 : ((k : Int) == 0) = true := by rw [hk0]; rfl
      by_cases hp : x.path = []
      · have h1 : x.path.isEmpty = true := by rw [hp]; rfl
        have h2 : bad = false := by rw [HBAD.out]; simp [hk0, hp]
        subst h2
        clear hk0 hp
        go_wp2
        go_meet
        exact ⟨rfl, rfl⟩
      · have h1 : x.path.isEmpty = false := List.isEmpty_eq_false_iff.2 hp
        have h2 : bad = true := by rw [HBAD.out]; simp [hk0, hp]
        subst h2
        clear hk0 hp
        go_wp2
        go_meet
        exact ⟨rfl, rfl⟩
    · have h0 : ((k : Int) == 0) = false := by rw [beq_eq_false_iff_ne]; omega
      by_cases hp : x.path = []
      · have h1 : x.path.isEmpty = true := by rw [hp]; rfl
        have h2 : bad = true := by rw [HBAD.out]; simp [hk0, hp]
        subst h2
        clear hk0 hp
        go_wp2
        go_meet
        exact ⟨rfl, rfl⟩
      · have h1 : x.path.isEmpty = false := List.isEmpty_eq_false_iff.2 hp
        have h2 : bad = false := by rw [HBAD.out]; simp [hk0, hp]
        subst h2
        clear hk0 hp
        go_wp2
        go_meet
        exact ⟨rfl, rfl⟩
  case rest =>
    obtain ⟨rfl, rfl⟩ := hcut
    cases bad with
    | true =>
      have HX := Lib.hid (show stands lt (l.take k) x = false by
        have hb := of_decide_eq_true HBAD.out.symm
        cases k with
        | zero =>
          have : x.path ≠ [] := fun h => hb ⟨fun _ => h, fun _ => rfl⟩
          unfold stands
          simp [this]
        | succ j =>
          have : x.path = [] := by
            by_cases h : x.path = []
            · exact h
            · exact absurd ⟨fun h => by omega, fun h2 => absurd h2 h⟩ hb
          obtain ⟨y, hy⟩ : ∃ y, l[j]? = some y := ⟨_, List.getElem?_eq_getElem (by omega)⟩
          rw [stands_later l j y x hy, follows_eq, this]
          simp)
      go_wp2
      go_ret
      exact ⟨ret_bool HX.out.symm, hwW⟩
    | false =>
      have hP := Decidable.not_not.1 (of_decide_eq_false HBAD.out.symm)
      obtain ⟨F, hF, hF0, hF1⟩ : ∃ F : Bool, stands lt (l.take k) x = (F && kindB x.kind && (if x.same = -1 then may x else sameOk (l.take k) x)) ∧ (k = 0 → F = true) ∧ (∀ j y, k = j + 1 → l[j]? = some y → F = Pk.follows lt (l.take k) y.path x.path) := by
        cases k with
        | zero =>
          have : x.path = [] := hP.1 rfl
          exact ⟨true, (stands_first x this).trans (by simp [kindB]), fun _ => rfl, fun j y h => by omega⟩
        | succ j =>
          obtain ⟨y, hy⟩ : ∃ y, l[j]? = some y := ⟨_, List.getElem?_eq_getElem (by omega)⟩
          refine ⟨_, stands_later l j y x hy, fun h => by omega, fun j' y' h h' => ?_⟩
          cases h
          rw [hy] at h'
          cases h'
          rfl
      have HF := Lib.hid hF
      have HF0 := Lib.hid hF0
      have HF1 := Lib.hid hF1
      have HXP := Lib.hid (show k ≠ 0 → x.path ≠ [] from fun h h2 => h (hP.2 h2))
      clear hF hF0 hF1 hP
      obtain ⟨ps, hps⟩ : ∃ b : Bool, b = decide (0 < k) := ⟨_, rfl⟩
      have HPS := Lib.hid hps
      clear hps
      go_upto_region 4 with fail
      go_cut [23] from 22 to 23 (fun v wx => v = .bool ps ∧ wx = wc)
      case first =>
        by_cases hk0 : k = 0
        · have h0k : decide ((0 : Int) < (k : Int)) = false := decide_eq_false (by omega)
          have h0k2 : decide (0 < k) = false := decide_eq_false (by omega)
          have h2 : ps = false := by rw [HPS.out, h0k2]
          subst h2
          clear hk0
          go_wp2
          go_meet
          exact ⟨rfl, rfl⟩
        · have h0k : decide ((0 : Int) < (k : Int)) = true := decide_eq_true (by omega)
          have h0k2 : decide (0 < k) = true := decide_eq_true (by omega)
          have h2 : ps = true := by rw [HPS.out, h0k2]
          have h3 : 0 < k := by omega
          subst h2
          clear hk0
          go_wp2
          go_meet
          exact ⟨rfl, rfl⟩
      case rest =>
        obtain ⟨rfl, rfl⟩ := hcut
        go_upto_if 23 with fail
        go_cut [6, 8, 9, 10, 11] (fun _ _ _ _ _ wx => F = true ∧ Below wc.heap.size wc wx)
        case first =>
          cases ps with
          | false =>
            have hFt := HF0.out (by have := of_decide_eq_false HPS.out.symm; omega)
            subst hFt
            go_wp2
            go_meet
            exact ⟨trivial, Below.refl _ _⟩
          | true =>
            have hk0 := of_decide_eq_true HPS.out.symm
            obtain ⟨j, hj⟩ : ∃ j, k = j + 1 := ⟨k - 1, by omega⟩
            obtain ⟨y, hy⟩ : ∃ y, l[j]? = some y := ⟨_, List.getElem?_eq_getElem (by omega)⟩
            have HFE := Lib.hid ((HF1.out j y hj hy).trans (follows_eq (l.take k) y.path x.path))
            have hw1 : IntKind.i64.wrap ((k : Int) - 1) = (j : Int) := by rw [IntKind.wrap_i64]; omega
            have hji : (j : Int) < (l.length : Int) := by omega
            obtain ⟨g2, o2, sl2, e2, hg2, _, hcy⟩ := hIW j y hy
            cases e2
            have y0 : wc.cell? ⟨g, o + j * 6, none⟩ = some (.string (mk y.path)) := hcy 0 _ rfl
            have hsy := hs y (List.mem_of_getElem? hy)
            have hpne : x.path ≠ [] := HXP.out (by omega)
            have HN := dnames_any (mk x.path) wc hsx.path
            have H1 : Calls Tryz.prog 35 #[.string (mk x.path)] wc fun e w' => ∃ ao ca, e = .returned (.slice ao (names x.path).length ca) ∧ TextsAt w' ao (names x.path) ∧ Below wc.heap.size wc w' := HN.mono fun e w' ⟨v, he, ho, hb⟩ => by
              obtain ⟨ao, ca, rfl, h1, _⟩ := TextsAt.of_own ho
              exact ⟨ao, ca, he, h1, hb⟩
            have HA := fun W => dahead_any (mk y.path) (mk x.path) W hsy.path hsx.path
            have ebs : ∀ l : List UInt8, bs (mk l) = l := fun _ => rfl
            simp only [ebs] at HA
            have hPM : ∀ s ∈ names x.path, s.length ≤ 2000000 := fun s hs => by
              unfold names at hs
              split at hs
              · cases hs
              · have := cut_mem_len x.path s hs; have := hsx.path; omega
            have hPL := names_len (mk x.path) hsx.path
            rw [ebs] at hPL
            have hbx : w.heap.size < wc.heap.size := by rw [HZW.out]; omega
            clear hcy HN hj ebs HF1 HF0 HXP
            generalize names x.path = P at *
            generalize less lt (names y.path) P = lb at *
            go_upto_region 6 with (go_at_call 35; refine H1.mono ?_; rintro e w1 ⟨na, nc, rfl, ha, hb1⟩)
            have y1 := (hb1.cell (p := ⟨g, o + j * 6, none⟩) hg2).trans y0
            have x1 := (hb1.cell (p := ⟨w.heap.size, 0, none⟩) hbx).trans x0
            have hwb : Below w.heap.size w w1 := hwW.trans (hb1.mono hwW.size)
            by_cases h32 : 32 < P.length
            · have HX := Lib.hid (show stands lt (l.take k) x = false by rw [HF.out, HFE.out, decide_eq_false (by rintro ⟨_, h⟩; omega)]; simp)
              have h32i : (32 : Int) < (P.length : Int) := by omega
              go_quiet (fail)
              go_wp2
              go_ret
              exact ⟨ret_bool HX.out.symm, below_drewN hwb _⟩
            · have h32i : decide ((32 : Int) < (P.length : Int)) = false := decide_eq_false (by omega)
              have h32n : decide (32 < P.length) = false := decide_eq_false h32
              have HAd := HA w1.drew
              have hgd : g < w1.drew.heap.size := by show g < w1.heap.size; have := hb1.size; omega
              have hbd : w.heap.size < w1.drew.heap.size := by show _ < w1.heap.size; have := hb1.size; omega
              go_region_held3 (fun w' => w'.cell? ⟨g, o + j * 6, none⟩ = some (.string (mk y.path)) ∧ w'.cell? ⟨w.heap.size, 0, none⟩ = some (.string (mk x.path))) (go_keep) ((go_at_call 36; refine HAd.mono ?_; rintro e w2 ⟨rfl, hb2⟩; have q1 := (hb2.cell (p := ⟨g, o + j * 6, none⟩) hgd).trans y1; have q2 := (hb2.cell (p := ⟨w.heap.size, 0, none⟩) hbd).trans x1))
              have hb12 : Below wc.heap.size wc w2 := hb1.trans (((Below.refl w1.heap.size w1).drew.trans hb2).mono hb1.size)
              have hwb2 : Below w.heap.size w w2 := hwW.trans (hb12.mono hwW.size)
              have ha2 : TextsAt w2 na P := ha.below ((Below.refl w1.heap.size w1).drew.trans hb2)
              clear y1 x1 q1 q2 ha hwb HA HAd H1
              cases lb with
              | false =>
                have HX := Lib.hid (show stands lt (l.take k) x = false by rw [HF.out, HFE.out]; simp)
                go_wp2
                go_ret
                exact ⟨ret_bool HX.out.symm, hwb2⟩
              | true =>
                have HFE2 := Lib.hid (show F = (P.all goodName && (l.take k).any (dirAt (above x.path))) by rw [HFE.out, decide_eq_true ⟨hpne, by omega⟩]; simp)
                clear HFE
                go_wp2
                go_loopw [44] (fun i wr => ∃ a : Nat, a ≤ P.length ∧ i = .int .i64 a ∧ Hid (P.all goodName = (P.drop a).all goodName) ∧ Below w2.heap.size w2 wr) (fun i _ => P.length - (intOf i).toNat)
                case atStart => exact ⟨0, Nat.zero_le _, rfl, rfl, Below.refl _ _⟩
                case round =>
                  obtain ⟨a, haP, rfl, hA, hnx⟩ := hrel
                  have har := ha2.below hnx
                  have hwr := hwb2.trans (hnx.mono hwb2.size)
                  have hcr := hb12.trans (hnx.mono hb12.size)
                  by_cases hlp : a < P.length
                  · obtain ⟨s, hsg⟩ : ∃ s, P[a]? = some s := ⟨_, List.getElem?_eq_getElem hlp⟩
                    have HAd := Lib.hid (drop_get P a s hsg)
                    have HNm := dname_any (mk s) wr (hPM s (List.mem_of_getElem? hsg))
                    have ebs : bs (mk s) = s := rfl
                    rw [ebs] at HNm
                    obtain ⟨g3, o3, rfl, _, hc3⟩ := har a s hsg
                    have hkp : (a : Int) < (P.length : Int) := by omega
                    clear hsg hPM ebs
                    cases hg : goodName s with
                    | false =>
                      have HX := Lib.hid (show stands lt (l.take k) x = false by rw [HF.out, HFE2.out, hA.out, HAd.out, List.all_cons, hg]; simp)
                      rw [hg] at HNm
                      clear hg
                      go_wp2_with (go_at_call 37; refine HNm.mono ?_; rintro e w5 ⟨rfl, rfl⟩)
                      go_ret
                      exact ⟨ret_bool HX.out.symm, hwr⟩
                    | true =>
                      have HA2 := Lib.hid (show P.all goodName = (P.drop (a + 1)).all goodName by rw [hA.out, HAd.out, List.all_cons, hg]; simp)
                      rw [hg] at HNm
                      clear hg
                      go_wp2_with (go_at_call 37; refine HNm.mono ?_; rintro e w5 ⟨rfl, rfl⟩)
                      go_roundw
                      case rel => refine ⟨_, _, _, _, _, _, _, _, _, _, _, _, ?_, rfl⟩; exact ⟨a + 1, by omega, by go_num, HA2, hnx⟩
                      case measure => simp [intOf]; omega
                  · have HFE3 := Lib.hid (show F = (l.take k).any (dirAt (above x.path)) by rw [HFE2.out, hA.out, List.drop_eq_nil_of_le (by omega : P.length ≤ a)]; simp)
                    have hIr := hIW.below hcr
                    have x0r := (hcr.cell (p := ⟨w.heap.size, 0, none⟩) hbx).trans x0
                    have HAb := fun W => dabove_any (mk x.path) W hsx.path
                    have ebs : bs (mk x.path) = x.path := rfl
                    rw [ebs] at HAb
                    clear ebs HFE2 hA hPM har ha2 hIW x0 y0 hB8 hpW
                    generalize above x.path = AB at *
                    have eAB := mk_toList AB
                    generalize hq : wr = wq at *
                    clear hq
                    go_wp2
                    go_loopw [10, 11] (fun hv jv wz => ∃ c : Nat, c ≤ k ∧ jv = .int .i64 c ∧ hv = .bool ((l.take c).any (dirAt AB)) ∧ Below wq.heap.size wq wz) (fun _ jv _ => k - (intOf jv).toNat)
                    case atStart => exact ⟨0, Nat.zero_le _, rfl, rfl, Below.refl _ _⟩
                    case round =>
                      obtain ⟨c, hc, rfl, rfl, hnz⟩ := hrel
                      have hIz := hIr.below hnz
                      have hbq : w.heap.size < wq.heap.size := by have := hcr.size; omega
                      have x0z := (hnz.cell (p := ⟨w.heap.size, 0, none⟩) hbq).trans x0r
                      by_cases hlc : c < k
                      · obtain ⟨y2, hy2⟩ : ∃ y, l[c]? = some y := ⟨_, List.getElem?_eq_getElem (by omega)⟩
                        have hcl : (c : Int) < (l.length : Int) := by omega
                        have hck : (c : Int) < (k : Int) := by omega
                        obtain ⟨g4, o4, sl4, e4, _, _, hc4⟩ := hIz c y2 hy2
                        cases e4
                        have z0 : wr.cell? ⟨g, o + c * 6, none⟩ = some (.string (mk y2.path)) := hc4 0 _ rfl
                        have z1 : wr.cell? ⟨g, o + c * 6 + 1, none⟩ = some (.int .i64 y2.kind) := hc4 1 _ rfl
                        have HAN := Lib.hid (any_snoc l c y2 (dirAt AB) hy2)
                        have ey := mk_toList y2.path
                        clear hc4 hIz hIr hy2 x0r
                        generalize hhv : (l.take c).any (dirAt AB) = hv at *
                        clear hhv
                        cases hv with
                        | true =>
                          have HN := Lib.hid (show (l.take (c + 1)).any (dirAt AB) = true by rw [HAN.out]; rfl)
                          go_wp2_with fail
                          go_quiet (fail)
                          go_wp2
                          go_roundw
                          case rel => exact ⟨c + 1, by omega, by go_num, by rw [HN.out], below_drewN hnz _⟩
                          case measure => simp [intOf]; omega
                        | false =>
                          by_cases hpa : y2.path = AB
                          · have h2 : (y2.path == AB) = true := by rw [beq_iff_eq]; exact hpa
                            by_cases hk2 : y2.kind = 2
                            · have h3 : (y2.kind == 2) = true := by rw [hk2]; rfl
                              have HN := Lib.hid (show (l.take (c + 1)).any (dirAt AB) = true by rw [HAN.out]; unfold dirAt; rw [decide_eq_true ⟨hpa, hk2⟩]; rfl)
                              clear hpa hk2
                              go_wp2_with fail
                              go_quiet ((go_at_call 38; exact quiet_left (HAb _)))
                              go_wp2
                              go_roundw
                              case rel => exact ⟨c + 1, by omega, by go_num, by rw [HN.out], below_drewN hnz _⟩
                              case measure => simp [intOf]; omega
                            · have h3 : (y2.kind == 2) = false := by rw [beq_eq_false_iff_ne]; exact hk2
                              have HN := Lib.hid (show (l.take (c + 1)).any (dirAt AB) = false by rw [HAN.out]; unfold dirAt; rw [decide_eq_false (by rintro ⟨_, h⟩; exact hk2 h)]; rfl)
                              clear hpa hk2
                              go_wp2_with fail
                              go_quiet ((go_at_call 38; exact quiet_left (HAb _)))
                              go_wp2
                              go_roundw
                              case rel => exact ⟨c + 1, by omega, by go_num, by rw [HN.out], below_drewN hnz _⟩
                              case measure => simp [intOf]; omega
                          · have h2 : (y2.path == AB) = false := by rw [beq_eq_false_iff_ne]; exact hpa
                            have HN := Lib.hid (show (l.take (c + 1)).any (dirAt AB) = false by rw [HAN.out]; unfold dirAt; rw [decide_eq_false (by rintro ⟨h, _⟩; exact hpa h)]; rfl)
                            clear hpa
                            go_wp2_with fail
                            go_quiet ((go_at_call 38; exact quiet_left (HAb _)))
                            go_wp2
                            go_roundw
                            case rel => exact ⟨c + 1, by omega, by go_num, by rw [HN.out], below_drewN hnz _⟩
                            case measure => simp [intOf]; omega
                      · obtain rfl : c = k := by omega
                        have hwz := hwr.trans (hnz.mono hwr.size)
                        generalize hhv : (l.take c).any (dirAt AB) = hv at *
                        clear hhv
                        cases hv with
                        | false =>
                          have HX := Lib.hid (show stands lt (l.take c) x = false by rw [HF.out, HFE3.out]; rfl)
                          go_wp2
                          go_ret
                          exact ⟨ret_bool HX.out.symm, hwz⟩
                        | true =>
                          have hFt := HFE3.out
                          subst hFt
                          go_wp2
                          go_meet
                          exact ⟨trivial, hcr.trans (hnz.mono hcr.size)⟩
        case rest =>
          obtain ⟨rfl, hb9⟩ := hcut
          have hwc : Below w.heap.size w wc := hwW.trans (hb9.mono hwW.size)
          have hBc := hB8.below hb9 (by rw [HZW.out]; omega)
          have hpc := hpW.below hb9
          have hIc := hIW.below hb9
          have b0 := hBc 0 _ rfl
          have b1 := hBc 1 _ rfl
          have b2 := hBc 2 _ rfl
          have b3 := hBc 3 _ rfl
          have b4 := hBc 4 _ rfl
          have b5 : wc.cell? ⟨w.heap.size, 5, none⟩ = some (.int .i64 sm) := by rw [← HSM.out]; exact hBc 5 _ rfl
          clear hB8 hpW hIW x0 hb9 HF0 HF1 HXP hBc
          by_cases hk1 : x.kind < 1
          · have HX := Lib.hid (show stands lt (l.take k) x = false by rw [HF.out]; unfold kindB; rw [decide_eq_false (by omega)]; simp)
            have e1 : decide (x.kind < 1) = true := decide_eq_true hk1
            go_wp2
            go_ret
            exact ⟨ret_bool HX.out.symm, hwc⟩
          · have e1 : decide (x.kind < 1) = false := decide_eq_false hk1
            by_cases hk3 : 3 < x.kind
            · have HX := Lib.hid (show stands lt (l.take k) x = false by rw [HF.out]; unfold kindB; rw [decide_eq_false (by omega)]; simp)
              have e2 : decide (3 < x.kind) = true := decide_eq_true hk3
              go_wp2
              go_ret
              exact ⟨ret_bool HX.out.symm, hwc⟩
            · have e2 : decide (3 < x.kind) = false := decide_eq_false hk3
              have HS := Lib.hid (show stands lt (l.take k) x = (if x.same = -1 then may x else sameOk (l.take k) x) by rw [HF.out]; unfold kindB; rw [decide_eq_true ⟨by omega, by omega⟩]; simp)
              have HT := Lib.hid (tail_eq (l.take k) x)
              rw [HSM.out] at HT HS
              clear HF
              by_cases hsn : sm < -1
              · have HX := Lib.hid (show stands lt (l.take k) x = false by rw [HS.out]; exact HT.out.2 hsn)
                have e3 : decide (sm < -1) = true := decide_eq_true hsn
                go_wp2
                go_ret
                exact ⟨ret_bool HX.out.symm, hwc⟩
              · have e3 : decide (sm < -1) = false := decide_eq_false hsn
                by_cases hsk : (k : Int) ≤ sm
                · have HX := Lib.hid (show stands lt (l.take k) x = false by
                    rw [HS.out, if_neg (by omega)]
                    rw [sameOk_take l k x (by omega), HSM.out, if_neg (by omega)]
                    simp)
                  have e4 : decide ((k : Int) ≤ sm) = true := decide_eq_true hsk
                  go_wp2
                  go_ret
                  exact ⟨ret_bool HX.out.symm, hwc⟩
                · have e4 : decide ((k : Int) ≤ sm) = false := decide_eq_false hsk
                  have HE := Lib.hid (show isEmpty x = (decide (x.size = 0) && x.data.isEmpty && x.pieces.isEmpty) from rfl)
                  have ed := mk_toList x.data
                  by_cases hs1 : sm = -1
                  · subst hs1
                    have HX := Lib.hid (show stands lt (l.take k) x = if x.kind = 2 then isEmpty x else if x.kind = 1 then file x else link x by rw [HS.out]; exact HT.out.1 rfl)
                    clear HS HT
                    by_cases hk2 : x.kind = 2
                    · have e5 : (x.kind == 2) = true := by rw [hk2]; rfl
                      rw [if_pos hk2] at HX
                      clear hk1 hk3 hk2
                      go_wp2_with fail
                      go_quiet (fail)
                      go_wp2
                      all_goals
                        go_ret
                        refine ⟨ret_bool ?_, below_drewN hwc _⟩
                        rw [HX.out, HE.out]
                        simp_all
                      all_goals (cases x.pieces <;> simp <;> omega)
                    · have e5 : (x.kind == 2) = false := by rw [beq_eq_false_iff_ne]; exact hk2
                      rw [if_neg hk2] at HX
                      by_cases hkf : x.kind = 1
                      · have e6 : (x.kind == 1) = true := by rw [hkf]; rfl
                        rw [if_pos hkf] at HX
                        have HC := fun n => dfile_any x _ (wc.drewN n) hsx hpc
                        unfold itemV at HC
                        rw [HSM.out] at HC
                        clear hk1 hk3 hk2 hkf
                        go_wp2_with fail
                        go_quiet (fail)
                        go_wp2_with (go_at_call 39; refine (HC _).mono ?_; rintro e w5 ⟨rfl, hb5⟩)
                        go_ret
                        exact ⟨ret_bool HX.out.symm, (below_drewN hwc _).trans (hb5.mono (show _ ≤ wc.heap.size from hwc.size))⟩
                      · have e6 : (x.kind == 1) = false := by rw [beq_eq_false_iff_ne]; exact hkf
                        rw [if_neg hkf] at HX
                        have HLk := Lib.hid (show link x = (text x.data && decide (x.size = x.data.length) && x.pieces.isEmpty) from rfl)
                        have HC := fun W => dtext_any (mk x.data) W hsx.data
                        have ebs : bs (mk x.data) = x.data := rfl
                        rw [ebs] at HC
                        have hms : (mk x.data).size = x.data.length := rfl
                        clear hk1 hk3 hk2 hkf ebs
                        generalize text x.data = tx at *
                        go_wp2_with fail
                        go_quiet (fail)
                        go_wp2_with (go_at_call 40; refine (HC _).mono ?_; rintro e w5 ⟨rfl, rfl⟩)
                        all_goals
                          go_ret
                          refine ⟨ret_bool ?_, below_drewN hwc _⟩
                          rw [HX.out, HLk.out]
                          simp_all
                        all_goals (cases x.pieces <;> simp <;> omega)
                  · obtain ⟨n, rfl⟩ : ∃ n : Nat, sm = n := ⟨sm.toNat, by omega⟩
                    have hnk : n < k := by omega
                    have hni : (n : Int) < (l.length : Int) := by omega
                    obtain ⟨y, hy⟩ : ∃ y, l[n]? = some y := ⟨_, List.getElem?_eq_getElem (by omega)⟩
                    have HO2 := Lib.hid (show stands lt (l.take k) x = (decide (0 ≤ (n : Int) ∧ x.kind ≠ 2) && decide (y.kind = x.kind ∧ y.same = -1) && isEmpty x) by rw [HS.out, if_neg hs1, sameOk_take l k x (by omega), HSM.out, Int.toNat_natCast, if_pos hnk, hy])
                    obtain ⟨g2, o2, sl2, e7, _, _, hcy⟩ := hIc n y hy
                    cases e7
                    have yk : wc.cell? ⟨g, o + n * 6 + 1, none⟩ = some (.int .i64 y.kind) := hcy 1 _ rfl
                    have ys : wc.cell? ⟨g, o + n * 6 + 5, none⟩ = some (.int .i64 y.same) := hcy 5 _ rfl
                    clear hcy HS HT hs1 hsk hsn hIc
                    by_cases hk2 : x.kind = 2
                    · have e5 : (x.kind == 2) = true := by rw [hk2]; rfl
                      have HX := Lib.hid (show stands lt (l.take k) x = false by rw [HO2.out, decide_eq_false (by rintro ⟨_, h⟩; exact h hk2)]; rfl)
                      clear hk2 hk1 hk3
                      go_wp2_with fail
                      go_quiet (fail)
                      go_wp2
                      go_ret
                      exact ⟨ret_bool HX.out.symm, below_drewN hwc _⟩
                    · have e5 : (x.kind == 2) = false := by rw [beq_eq_false_iff_ne]; exact hk2
                      by_cases hyk : y.kind = x.kind
                      · have e6 : (y.kind != x.kind) = false := by rw [hyk]; simp
                        rw [hyk] at yk
                        by_cases hys : y.same = -1
                        · rw [hys] at ys
                          have HX := Lib.hid (show stands lt (l.take k) x = isEmpty x by rw [HO2.out, decide_eq_true ⟨by omega, hk2⟩, decide_eq_true ⟨hyk, hys⟩]; rfl)
                          clear e6 HO2 hyk hys hk2 hk1 hk3
                          go_wp2_with fail
                          go_quiet (fail)
                          go_wp2
                          all_goals
                            go_ret
                            refine ⟨ret_bool ?_, below_drewN hwc _⟩
                            rw [HX.out, HE.out]
                            simp_all
                          all_goals (cases x.pieces <;> simp <;> omega)
                        · have e7 : (y.same != -1) = true := by rw [bne_iff_ne]; exact hys
                          have HX := Lib.hid (show stands lt (l.take k) x = false by rw [HO2.out, decide_eq_false (p := y.kind = x.kind ∧ y.same = -1) (by rintro ⟨_, h⟩; exact hys h)]; simp)
                          clear hk2 hyk hys hk1 hk3
                          go_wp2_with fail
                          go_quiet (fail)
                          go_wp2
                          go_ret
                          exact ⟨ret_bool HX.out.symm, below_drewN hwc _⟩
                      · have e6 : (y.kind != x.kind) = true := by rw [bne_iff_ne]; exact hyk
                        have HX := Lib.hid (show stands lt (l.take k) x = false by rw [HO2.out, decide_eq_false (p := y.kind = x.kind ∧ y.same = -1) (by rintro ⟨h, _⟩; exact hyk h)]; simp)
                        clear hk2 hyk hk1 hk3
                        go_wp2_with fail
                        go_quiet (fail)
                        go_wp2
                        go_ret
                        exact ⟨ret_bool HX.out.symm, below_drewN hwc _⟩
end Pw
end Go.Proofs.YtnmgdlmicgbapaaGreatDoor
