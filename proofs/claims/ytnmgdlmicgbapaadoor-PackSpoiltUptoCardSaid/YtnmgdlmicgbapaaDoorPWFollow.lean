/- The walks: ContainsAny, what a name may be, follows: the program's. -/
import Derived.Test.YtnmgdlmicgbapaaDoorPWAny
import Derived.Test.YtnmgdlmicgbapaaDoorPWName
import Derived.Test.YtnmgdlmicgbapaaDoorPWDoc
namespace Go.Proofs.YtnmgdlmicgbapaaDoor
open Go.RowKit Go.Maps

namespace Pw
open Pk
theorem containsAny_any (s : ByteArray) (w : World) (hs : s.size ≤ 100000000) : Calls Tryd.prog 36 #[.string s, .string ⟨#[47, 0]⟩] w fun e w' => e = .returned (.bool (dirtyB (bs s))) ∧ Below w.heap.size w w' := by
  have H := indexAny_any s w hs
  go_enter Tryd.func36, Tryd.ntmps36
  go_wp2_with fail
  refine H.mono ?_
  rintro e w' ⟨⟨n, rfl, hn⟩, hb⟩
  go_wp2
  go_ret
  exact ⟨ret_bool (by simp), hb⟩
theorem goodName_dirty (l : List UInt8) : goodName l = decide (1 ≤ l.length ∧ l.length ≤ 27 ∧ dotsB l = false ∧ dirtyB l = false) := by
  unfold goodName
  rw [decide_eq_decide]
  have e1 : dotsB l = false ↔ l ≠ [46] ∧ l ≠ [46, 46] := by unfold dotsB; simp
  have e2 : dirtyB l = false ↔ ∀ c ∈ l, c ≠ 0 ∧ c ≠ 47 := by
    unfold dirtyB
    rw [List.any_eq_false]
    constructor
    · intro h c hc; have := h c hc; simp at this; exact ⟨this.2, this.1⟩
    · intro h c hc; have := h c hc; simp; exact ⟨this.2, this.1⟩
  rw [e1, e2]
  constructor
  · rintro ⟨a, b, c, d, e⟩; exact ⟨a, b, ⟨c, d⟩, e⟩
  · rintro ⟨a, b, ⟨c, d⟩, e⟩; exact ⟨a, b, c, d, e⟩
theorem name_any (l : List UInt8) (w : World) (hl : l.length ≤ 100000000) : Calls Tryd.prog 26 #[.string (mk l)] w fun e w' => e = .returned (.bool (goodName l)) ∧ Below w.heap.size w w' := by
  have HG := Lib.hid (goodName_dirty l)
  have hsz : (mk l).size = l.length := mk_size l
  have HD := does_any l w (by unfold maxLen; omega)
  by_cases h0 : l.length < 1
  · have HF := Lib.hid (show goodName l = false by rw [HG.out, decide_eq_false (by rintro ⟨a, b, _⟩; omega)])
    generalize dotsB l = d at HD HG
    generalize dotsV l = v at HD
    go_enter Tryd.func26, Tryd.ntmps26
    go_wp2_with (go_at_call 35; refine HD.mono ?_; rintro e w1 ⟨rfl, hb⟩)
    go_ret
    exact ⟨ret_bool HF.out.symm, hb⟩
  · by_cases h1 : 27 < l.length
    · have HF := Lib.hid (show goodName l = false by rw [HG.out, decide_eq_false (by rintro ⟨a, b, _⟩; omega)])
      generalize dotsB l = d at HD HG
      generalize dotsV l = v at HD
      go_enter Tryd.func26, Tryd.ntmps26
      go_wp2_with (go_at_call 35; refine HD.mono ?_; rintro e w1 ⟨rfl, hb⟩)
      go_ret
      exact ⟨ret_bool HF.out.symm, hb⟩
    · cases hd : dotsB l with
      | true =>
        have HF := Lib.hid (show goodName l = false by rw [HG.out, hd, decide_eq_false (by rintro ⟨_, _, a, _⟩; cases a)])
        rw [hd] at HD
        clear hd
        generalize dotsV l = v at HD
        go_enter Tryd.func26, Tryd.ntmps26
        go_wp2_with (go_at_call 35; refine HD.mono ?_; rintro e w1 ⟨rfl, hb⟩)
        go_ret
        exact ⟨ret_bool HF.out.symm, hb⟩
      | false =>
        have HF := Lib.hid (show goodName l = !dirtyB l by
          rw [HG.out, hd, Bool.eq_iff_iff, decide_eq_true_iff]
          constructor
          · rintro ⟨_, _, _, a⟩; rw [a]; rfl
          · intro a; exact ⟨by omega, by omega, rfl, by simpa using a⟩)
        rw [hd] at HD
        have HC := fun W => containsAny_any (mk l) W (by omega)
        have e1 : bs (mk l) = l := rfl
        rw [e1] at HC
        clear hd e1
        generalize dotsV l = v at HD
        generalize dirtyB l = d at HC HF
        go_enter Tryd.func26, Tryd.ntmps26
        go_wp2_with (go_at_call 35; refine HD.mono ?_; rintro e w1 ⟨rfl, hb⟩)
        refine (HC w1).mono ?_
        rintro e w2 ⟨rfl, hb2⟩
        go_wp2
        go_ret
        exact ⟨ret_bool (by rw [HF.out]), hb.trans (hb2.mono hb.size)⟩
theorem join_dropLast : ∀ l : List B, (Lib.join l.dropLast [47]).length ≤ (Lib.join l [47]).length
  | [] => Nat.le_refl _
  | [_] => Nat.zero_le _
  | [y, x] => by
    show (Lib.join [y] [47]).length ≤ _
    rw [Lib.join_one, join_cons2 _ _ (by simp)]
    simp
  | y :: z :: t :: q => by
    have ih := join_dropLast (z :: t :: q)
    rw [List.dropLast_cons_cons, join_cons2 _ _ (by simp), join_cons2 _ _ (by simp)]
    simp only [List.length_append, List.length_cons] at ih ⊢
    omega
theorem ownsMap_below {H : Type} {P : Program} {k : TypeId} {R : Value → Option (DataW H × List MemPlace)} {w w' : World} {b n B : Nat} {D : DataW H} (h : w.ownsMap P k R b n D) (hb : Below B w w') (hB : b < B) : w'.ownsMap P k R b n D := by
  obtain ⟨es, clock, h1, h2, h3, h4⟩ := h
  exact ⟨es, clock, (hb.block b hB).trans h1, h2, h3, h4⟩
theorem zeroBool (w : World) : (zeroValue 4).run Tryd.prog w = .ok (.bool false) w := by kernel_rfl
/-- What the map of the directories says. -/
def DirsOf (met : List PItem) (D : DataW Value) : Prop := ∀ l : List UInt8, D.atKey (.string l) (.held (.bool false)) = .held (.bool (met.any fun y => decide (y.path = l ∧ y.kind = 2)))
set_option maxRecDepth 100000 in
set_option maxHeartbeats 2000000 in
theorem follows_any (met : List PItem) (D : DataW Value) (b n : Nat) (s p : ByteArray) (w : World) (hs : s.size ≤ 100000000) (hp : p.size ≤ 100000000) (hm : ∃ m, w.cell? ⟨2, 0, none⟩ = some (.int .i64 m)) (hml : 2 < w.heap.size)
    (hd : w.ownsMap Tryd.prog 9 rawElem b n D) (hD : DirsOf met D) :
    Calls Tryd.prog 17 #[.string s, .string p, .map (some b)] w fun e w' => e = .returned (.bool (Pk.follows lt met (bs s) (bs p))) ∧ Below w.heap.size w w' := by
  have hlt0 := hd.lt
  have hnp := names_len p hp
  have hns := names_len s hs
  have H1 : Calls Tryd.prog 24 #[.string p] w fun e w' => ∃ ao ca, e = .returned (.slice ao (names (bs p)).length ca) ∧ TextsAt w' ao (names (bs p)) ∧ ((names (bs p)).length ≤ ca ∧ ca ≤ 9223372036854775807) ∧ Below w.heap.size w w' := (names_any p w hp hm).mono fun e w' ⟨v, he, ho, hb⟩ => by
    obtain ⟨ao, ca, rfl, h1, _, h2⟩ := TextsAt.of_own ho
    exact ⟨ao, ca, he, h1, h2, hb⟩
  have H2 : ∀ W, Below w.heap.size w W → Calls Tryd.prog 24 #[.string s] W fun e w' => ∃ ao ca, e = .returned (.slice ao (names (bs s)).length ca) ∧ TextsAt w' ao (names (bs s)) ∧ Below W.heap.size W w' := fun W hW => (names_any s W hs (by obtain ⟨m, hm⟩ := hm; exact ⟨m, (hW.cell hml).trans hm⟩)).mono fun e w' ⟨v, he, ho, hb⟩ => by
    obtain ⟨ao, ca, rfl, h1, _⟩ := TextsAt.of_own ho
    exact ⟨ao, ca, he, h1, hb⟩
  have HF := Lib.hid (show Pk.follows lt met (bs s) (bs p) = (decide (bs p ≠ [] ∧ (names (bs p)).length ≤ 32) && less lt (names (bs s)) (names (bs p)) && (names (bs p)).all goodName && met.any fun y => decide (y.path = above (bs p) ∧ y.kind = 2)) from rfl)
  have HA := Lib.hid (show above (bs p) = Lib.join (names (bs p)).dropLast [47] from rfl)
  have HE : bs p = [] → names (bs p) = [] := fun h => by unfold names; rw [if_pos h]
  have HJL : (Lib.join (names (bs p)).dropLast [47]).length ≤ 100000000 := by
    have h2 := join_dropLast (names (bs p))
    have h3 : (Lib.join (names (bs p)) [47]).length ≤ (bs p).length := by
      unfold names
      split
      · exact Nat.zero_le _
      · rw [join_cut]; exact Nat.le_refl _
    rw [bs_len] at h3
    omega
  have HM : ∀ x ∈ names (bs p), x.length ≤ 100000000 := fun x hx => by
    unfold names at hx
    split at hx
    · cases hx
    · have := cut_mem_len (bs p) x hx; rw [bs_len] at this; omega
  have HZ : (names (bs p)).length = 0 ↔ bs p = [] := by
    constructor
    · intro h
      have h := List.length_eq_zero_iff.1 h
      unfold names at h
      split at h
      · assumption
      · exact absurd h (cut_ne _)
    · intro h; rw [HE h]; rfl
  have HL := cmp_less (names (bs s)) (names (bs p))
  clear HE hm hml
  generalize names (bs p) = P at *
  generalize names (bs s) = N at *
  by_cases h0 : P.length = 0
  · have HR := Lib.hid (show Pk.follows lt met (bs s) (bs p) = false by rw [HF.out, decide_eq_false (by rintro ⟨a, _⟩; exact a (HZ.1 h0))]; simp)
    clear HL HZ HM HJL HA HF H2
    go_enter Tryd.func17, Tryd.ntmps17
    go_wp2_with fail
    refine H1.mono ?_
    rintro e w1 ⟨ao, ca, rfl, ha, hao, hb1⟩
    go_wp2
    go_ret
    exact ⟨ret_bool HR.out.symm, hb1⟩
  · by_cases h32 : 32 < P.length
    · have HR := Lib.hid (show Pk.follows lt met (bs s) (bs p) = false by rw [HF.out, decide_eq_false (by rintro ⟨_, a⟩; omega)]; simp)
      clear HL HZ HM HJL HA HF H2
      have h1 : ((P.length : Int) == 0) = false := by rw [beq_eq_false_iff_ne]; omega
      go_enter Tryd.func17, Tryd.ntmps17
      go_wp2_with fail
      refine H1.mono ?_
      rintro e w1 ⟨ao, ca, rfl, ha, hao, hb1⟩
      go_wp2
      go_ret
      exact ⟨ret_bool HR.out.symm, hb1⟩
    · have h1 : ((P.length : Int) == 0) = false := by rw [beq_eq_false_iff_ne]; omega
      by_cases hc : cmpL N P < 0
      · have hcl : decide ((0 : Int) ≤ cmpL N P) = false := decide_eq_false (by omega)
        have HC := fun (bo ao : Option Addr) (cb ca : Nat) (W : World) (h1 : TextsAt W bo N) (h2 : TextsAt W ao P) => compare_any N P bo ao cb ca W h1 h2 (by omega)
        have HR := Lib.hid (show Pk.follows lt met (bs s) (bs p) = (P.all goodName && met.any fun y => decide (y.path = above (bs p) ∧ y.kind = 2)) by
          rw [HF.out, HL, decide_eq_true hc, decide_eq_true ⟨fun h => h0 (HZ.2 h), by omega⟩]; simp)
        have HJ0 := Tryd.strings_Join_none
        have HD := Lib.hid (hD (above (bs p)))
        have HN := fun (x : List UInt8) (hx : x ∈ P) (W : World) => name_any x W (HM x hx)
        obtain ⟨L, hL⟩ : ∃ L, P.length = L + 1 := ⟨P.length - 1, by omega⟩
        have hL1 : (P.length : Int) - 1 = (L : Int) := by omega
        have HX : L = 0 → above (bs p) = [] := fun h => by
          rw [HA.out]
          match P, hL with
          | [x], _ => rfl
          | x :: y :: q, hL => simp at hL; omega
        have HJ := fun (g o ca : Nat) (W : World) (h0 : 0 < L) (h1 : TextsAt W (some ⟨g, o, none⟩) P) (h2 : P.length ≤ ca) => Tryd.strings_Join g o ca (P.dropLast.map mk) ⟨#[47]⟩ W (fun j x hj => by
            rw [List.getElem?_map] at hj
            cases hx : P.dropLast[j]? with
            | none => rw [hx] at hj; cases hj
            | some y =>
              rw [hx] at hj; cases hj
              have h3 : P[j]? = some y := by
                have hlt := (List.getElem?_eq_some_iff.1 hx).1
                rw [List.length_dropLast] at hlt
                rw [← hx, List.getElem?_dropLast, if_pos hlt]
              obtain ⟨g', o', e, _, h4⟩ := h1 j y h3
              cases e
              exact h4) (by obtain ⟨x, hx⟩ : ∃ x, P[0]? = some x := ⟨_, List.getElem?_eq_getElem (by omega)⟩
                            obtain ⟨g', o', e, h4, _⟩ := h1 0 x hx
                            cases e; exact h4) (by simp; omega) (by simp; omega) (by
                              rw [List.map_map, show ((fun x : ByteArray => x.data.toList) ∘ mk) = id from rfl, List.map_id]
                              show (Lib.join P.dropLast [47]).length ≤ _; omega)
        simp only [List.map_map, show ((fun x : ByteArray => x.data.toList) ∘ mk) = id from rfl, List.map_id, List.length_map, List.length_dropLast, hL, Nat.add_sub_cancel] at HJ
        have HJ' := fun (g o ca : Nat) (W : World) (h0 : 0 < L) (h1 : TextsAt W (some ⟨g, o, none⟩) P) (h2 : P.length ≤ ca) => HJ g o ca W h0 h1 (by omega)
        have e1 : (⟨(Lib.join P.dropLast (⟨#[47]⟩ : ByteArray).data.toList).toArray⟩ : ByteArray) = mk (above (bs p)) := by rw [HA.out]; rfl
        rw [e1] at HJ'
        have hab : (above (bs p)).length ≤ maxLen := by rw [HA.out]; unfold maxLen; omega
        have hki : (0 : Int) < (P.length : Int) := by omega
        clear HJ e1 HJL HA HF HL HZ hp hD hL
        generalize above (bs p) = A at *
        go_enter Tryd.func17, Tryd.ntmps17
        go_wp2_with fail
        refine H1.mono ?_
        rintro e w1 ⟨ao, ca, rfl, ha, hao, hb1⟩
        go_wp2_with fail
        refine (H2 w1 hb1).mono ?_
        rintro e w2 ⟨bo, cb, rfl, hb, hb2⟩
        go_wp2_with fail
        refine (HC bo ao cb ca w2 hb (ha.below hb2)).mono ?_
        rintro e w3 ⟨rfl, rfl⟩
        have hw3 := hb1.trans (hb2.mono hb1.size)
        have ha3 := ha.below hb2
        clear H1 H2 HC ha hb hb1 hb2 hc
        go_wp2
        go_loopw [29] (fun i wr => ∃ k : Nat, k ≤ P.length ∧ i = .int .i64 k ∧ Hid (P.all goodName = (P.drop k).all goodName) ∧ Below w2.heap.size w2 wr) (fun i _ => P.length - (intOf i).toNat)
        case atStart => exact ⟨0, Nat.zero_le _, rfl, rfl, Below.refl _ _⟩
        case round =>
          obtain ⟨k, hk, rfl, hA, hnx⟩ := hrel
          have har := ha3.below hnx
          have hwr := hw3.trans (hnx.mono hw3.size)
          by_cases hlt : k < P.length
          · obtain ⟨x, hx⟩ : ∃ x, P[k]? = some x := ⟨_, List.getElem?_eq_getElem hlt⟩
            have HA := Lib.hid (drop_get P k x hx)
            have HNx := HN x (List.mem_of_getElem? hx)
            obtain ⟨g, o, rfl, _, hc⟩ := har k x hx
            have hkl : (k : Int) < (P.length : Int) := by omega
            clear hx HJ' HX HN
            cases hg : goodName x with
            | false =>
              have HR2 := Lib.hid (show Pk.follows lt met (bs s) (bs p) = false by rw [HR.out, hA.out, HA.out, List.all_cons, hg]; simp)
              rw [hg] at HNx
              clear hg HR
              go_wp2_with fail
              refine (HNx wr).mono ?_
              rintro e w5 ⟨rfl, hb5⟩
              go_wp2
              go_ret
              exact ⟨ret_bool HR2.out.symm, hwr.trans (hb5.mono hwr.size)⟩
            | true =>
              have HA2 := Lib.hid (show P.all goodName = (P.drop (k + 1)).all goodName by rw [hA.out, HA.out, List.all_cons, hg]; simp)
              rw [hg] at HNx
              clear hg
              go_wp2_with fail
              refine (HNx wr).mono ?_
              rintro e w5 ⟨rfl, hb5⟩
              go_wp2
              go_roundw
              case rel => exact ⟨k + 1, by omega, by go_num, HA2, hnx.trans (hb5.mono hnx.size)⟩
              case measure => simp [intOf]; omega
          · have HR2 := Lib.hid (show Pk.follows lt met (bs s) (bs p) = met.any fun y => decide (y.path = A ∧ y.kind = 2) by rw [HR.out, hA.out, List.drop_eq_nil_of_le (by omega : P.length ≤ k)]; simp)
            obtain ⟨x, hx⟩ : ∃ x, P[0]? = some x := ⟨_, List.getElem?_eq_getElem (by omega)⟩
            obtain ⟨g, o, rfl, _, hc⟩ := har 0 x hx
            clear hx hc HR HN hA
            by_cases hL0 : L = 0
            · obtain rfl := hL0
              obtain rfl := HX rfl
              clear HJ' HX
              have hdr := ownsMap_below hd hwr hlt0
              go_wp2_with fail
              refine (HJ0 _ _ _ wr).mono ?_
              rintro e w5 ⟨rfl, rfl⟩
              go_wp2_with (refine wpList_lookup_raw _ rfl _ _ 45 rfl 9 4 (string_keyed Tryd.underlying9) Tryd.underlying45 (.bool false) (zeroBool _) b n D rfl hdr _ (.string []) rfl (keyOf_text Tryd.underlying9 [] hab) _ HD.out ?_)
              go_ret
              exact ⟨ret_bool (by rw [HR2.out]; simp only [Bool.decide_and]), hwr⟩
            · have HJW := HJ' g o ca wr (by omega) har hao.1
              clear HJ' HJ0 HX
              go_wp2_with fail
              refine HJW.mono ?_
              rintro e w5 ⟨rfl, hb5⟩
              have hw5 := hwr.trans (hb5.mono hwr.size)
              have hdr := ownsMap_below hd hw5 hlt0
              go_wp2_with (refine wpList_lookup_raw _ rfl _ _ 45 rfl 9 4 (string_keyed Tryd.underlying9) Tryd.underlying45 (.bool false) (zeroBool _) b n D rfl hdr _ (.string A) rfl (keyOf_text Tryd.underlying9 A hab) _ HD.out ?_)
              go_ret
              exact ⟨ret_bool (by rw [HR2.out]; simp only [Bool.decide_and]), hw5⟩
      · have hcl : decide ((0 : Int) ≤ cmpL N P) = true := decide_eq_true (by omega)
        have HC := fun (bo ao : Option Addr) (cb ca : Nat) (W : World) (h1 : TextsAt W bo N) (h2 : TextsAt W ao P) => compare_any N P bo ao cb ca W h1 h2 (by omega)
        have HR := Lib.hid (show Pk.follows lt met (bs s) (bs p) = false by rw [HF.out, HL, decide_eq_false hc]; simp)
        clear HL HZ HM HJL HA HF hc
        generalize cmpL N P = c at HC hcl
        go_enter Tryd.func17, Tryd.ntmps17
        go_wp2_with fail
        refine H1.mono ?_
        rintro e w1 ⟨ao, ca, rfl, ha, hao, hb1⟩
        go_wp2_with fail
        refine (H2 w1 hb1).mono ?_
        rintro e w2 ⟨bo, cb, rfl, hb, hb2⟩
        go_wp2_with fail
        refine (HC bo ao cb ca w2 hb (ha.below hb2)).mono ?_
        rintro e w3 ⟨rfl, rfl⟩
        go_wp2
        go_ret
        exact ⟨ret_bool HR.out.symm, hb1.trans (hb2.mono hb1.size)⟩
end Pw
end Go.Proofs.YtnmgdlmicgbapaaDoor
