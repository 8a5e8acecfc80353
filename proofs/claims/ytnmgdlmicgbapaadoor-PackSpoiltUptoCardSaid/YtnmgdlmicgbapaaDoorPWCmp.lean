/- The walks of the order of paths: the document's ahead, the library's Compare. -/
import Derived.Test.YtnmgdlmicgbapaaDoorPWNames
namespace Go.Proofs.YtnmgdlmicgbapaaDoor
open Go.RowKit

namespace Pw
open Pk
/-- One text ahead of another, in the language's order. -/
def lt (x y : List UInt8) : Bool := Op.bytesLess x y
theorem lt_irrefl : ∀ x : List UInt8, lt x x = false
  | [] => rfl
  | c :: r => by
    have ih := lt_irrefl r
    unfold lt at ih ⊢
    simp [Op.bytesLess, ih]
def cmpV (x y : List UInt8) : Int := if lt x y then -1 else if x = y then 0 else 1
def cmpL : List (List UInt8) → List (List UInt8) → Int
  | [], [] => 0
  | [], _ :: _ => -1
  | _ :: _, [] => 1
  | x :: a, y :: b => if x = y then cmpL a b else cmpV x y
theorem cmp_less : ∀ a b : List (List UInt8), less lt a b = decide (cmpL a b < 0)
  | [], [] => rfl
  | [], _ :: _ => rfl
  | _ :: _, [] => rfl
  | x :: a, y :: b => by
    unfold less cmpL
    by_cases h : x = y
    · rw [if_pos h, if_pos h]; exact cmp_less a b
    · rw [if_neg h, if_neg h]
      unfold cmpV
      cases lt x y
      · simp [h]
      · simp
theorem cmp_any (x y : List UInt8) (w : World) : Calls Tryd.prog 34 #[.string (mk x), .string (mk y)] w fun e w' => e = .returned (.int .i64 (cmpV x y)) ∧ w = w' := by
  have e1 := mk_toList x
  have e2 := mk_toList y
  have HV := Lib.hid (show cmpV x y = if lt x y then -1 else if x = y then 0 else 1 from rfl)
  cases hl : lt x y with
  | true =>
    have h1 : Op.bytesLess x y = true := hl
    rw [hl] at HV
    clear hl
    go_enter Tryd.func34, Tryd.ntmps34
    go_wp2
    go_ret
    exact ⟨ret_int (by rw [HV.out]; rfl), rfl⟩
  | false =>
    have h1 : Op.bytesLess x y = false := hl
    rw [hl] at HV
    clear hl
    by_cases he : x = y
    · have h2 : (x == y) = true := by rw [beq_iff_eq]; exact he
      rw [if_pos he] at HV
      clear he
      go_enter Tryd.func34, Tryd.ntmps34
      go_wp2
      go_ret
      exact ⟨ret_int (by rw [HV.out]; rfl), rfl⟩
    · have h2 : (x == y) = false := by rw [beq_eq_false_iff_ne]; exact he
      rw [if_neg he] at HV
      clear he
      go_enter Tryd.func34, Tryd.ntmps34
      go_wp2
      go_ret
      exact ⟨ret_int (by rw [HV.out]; rfl), rfl⟩
/-- Texts, where they lie. -/
def TextsAt (w : World) (ao : Option Addr) (l : List (List UInt8)) : Prop := ∀ j x, l[j]? = some x → ∃ g o, ao = some ⟨g, o, none⟩ ∧ g < w.heap.size ∧ w.cell? ⟨g, o + j, none⟩ = some (.string (mk x))
theorem TextsAt.below {w w' : World} {ao : Option Addr} {l : List (List UInt8)} (h : TextsAt w ao l) (hb : Below w.heap.size w w') : TextsAt w' ao l := by
  intro j x hx
  obtain ⟨g, o, e, hg, hc⟩ := h j x hx
  exact ⟨g, o, e, by have := hb.size; omega, (hb.cell (p := ⟨g, o + j, none⟩) hg).trans hc⟩
theorem TextsAt.of_own {w : World} {base : Nat} {v : Value} {e : TypeId} {l : List (List UInt8)} (h : w.ownsRow base e 1 v l.length (strsV l)) : ∃ ao cap, v = .slice ao l.length cap ∧ TextsAt w ao l ∧ (ao = none → l.length = 0 ∧ cap = 0) ∧ l.length ≤ cap ∧ cap ≤ 9223372036854775807 := by
  rcases Nat.eq_zero_or_pos l.length with h0 | h0
  · obtain rfl : l = [] := List.length_eq_zero_iff.1 h0
    rcases h.2 with ⟨rfl, _⟩ | ⟨g, cap, cur, rfl, _, _, hc, hm, _⟩
    · exact ⟨none, 0, rfl, fun j x hx => (by cases hx), fun _ => ⟨rfl, rfl⟩, Nat.zero_le _, by omega⟩
    · exact ⟨_, cap, rfl, fun j x hx => (by cases hx), fun h => (by cases h), hc, hm⟩
  · obtain ⟨g, cap, rfl, _, h2, h3, h4, h5, _⟩ := own_at h h0
    refine ⟨_, cap, rfl, fun j x hx => ⟨g, 0, rfl, h2, ?_⟩, fun h => (by cases h), h3, h4⟩
    have hj := (List.getElem?_eq_some_iff.1 hx).1
    rw [Nat.zero_add, h5 j (by omega)]
    exact strsV_at hx
theorem drop_get {α : Type} (l : List α) (k : Nat) (x : α) (h : l[k]? = some x) : l.drop k = x :: l.drop (k + 1) := by
  obtain ⟨hk, e⟩ := List.getElem?_eq_some_iff.1 h
  rw [List.drop_eq_getElem_cons hk, e]
set_option maxHeartbeats 1000000 in
theorem compare_any (a b : List (List UInt8)) (ao bo : Option Addr) (ca cb : Nat) (w : World) (ha : TextsAt w ao a) (hb : TextsAt w bo b) (hal : a.length ≤ 100000001) :
    Calls Tryd.prog 25 #[.slice ao a.length ca, .slice bo b.length cb] w fun e w' => e = .returned (.int .i64 (cmpL a b)) ∧ w = w' := by
  go_enter Tryd.func25, Tryd.ntmps25
  go_wp2
  go_loop [11] (fun i => ∃ k : Nat, k ≤ a.length ∧ k ≤ b.length ∧ i = .int .i64 k ∧ Hid (cmpL a b = cmpL (a.drop k) (b.drop k))) (fun i => a.length - (intOf i).toNat)
  case atStart => exact ⟨0, Nat.zero_le _, Nat.zero_le _, rfl, rfl⟩
  case round =>
    obtain ⟨k, hk, hkb, rfl, hR⟩ := hrel
    by_cases hlt : k < a.length
    · obtain ⟨x, hx⟩ : ∃ x, a[k]? = some x := ⟨_, List.getElem?_eq_getElem hlt⟩
      have HA := Lib.hid (drop_get a k x hx)
      obtain ⟨g, o, rfl, _, hc⟩ := ha k x hx
      clear hx
      by_cases hlb : k < b.length
      · obtain ⟨y, hy⟩ : ∃ y, b[k]? = some y := ⟨_, List.getElem?_eq_getElem hlb⟩
        have HB := Lib.hid (drop_get b k y hy)
        obtain ⟨g2, o2, rfl, _, hc2⟩ := hb k y hy
        have HV := Lib.hid (show cmpV x y = if lt x y then -1 else if x = y then 0 else 1 from rfl)
        clear hy ha hb
        by_cases he : x = y
        · have hV0 : cmpV x y = 0 := by rw [HV.out, he, lt_irrefl]; simp
          have HC := cmp_any x y w
          rw [hV0] at HC
          have HR := Lib.hid (show cmpL a b = cmpL (a.drop (k + 1)) (b.drop (k + 1)) by rw [hR.out, HA.out, HB.out, cmpL, if_pos he])
          clear hV0 he
          go_wp2_with (go_at_call 34; refine HC.mono ?_; rintro e w' ⟨rfl, rfl⟩)
          go_round
          case rel => exact ⟨k + 1, by omega, by omega, by go_num, HR⟩
          case measure => simp [intOf]; omega
        · have hV0 : (cmpV x y == 0) = false := by
            rw [beq_eq_false_iff_ne, HV.out]
            cases lt x y <;> simp [he]
          have hV1 : (cmpV x y != 0) = true := by rw [bne_iff_ne]; exact (beq_eq_false_iff_ne.1 hV0)
          have HC := cmp_any x y w
          have HR := Lib.hid (show cmpL a b = cmpV x y by rw [hR.out, HA.out, HB.out, cmpL, if_neg he])
          clear he
          generalize cmpV x y = n at HC hV0 hV1 HR
          go_wp2_with (go_at_call 34; refine HC.mono ?_; rintro e w' ⟨rfl, rfl⟩)
          go_ret
          exact ⟨ret_int HR.out.symm, rfl⟩
      · have HR := Lib.hid (show cmpL a b = 1 by rw [hR.out, HA.out, List.drop_eq_nil_of_le (by omega : b.length ≤ k), cmpL])
        go_wp2
        go_ret
        exact ⟨ret_int HR.out.symm, rfl⟩
    · by_cases hlb : a.length < b.length
      · have HR := Lib.hid (show cmpL a b = -1 by
          rw [hR.out, List.drop_eq_nil_of_le (by omega : a.length ≤ k)]
          cases hd : b.drop k with
          | nil => have := congrArg List.length hd; rw [List.length_drop] at this; simp at this; omega
          | cons y r => rfl)
        go_wp2
        go_ret
        exact ⟨ret_int HR.out.symm, rfl⟩
      · have HR := Lib.hid (show cmpL a b = 0 by rw [hR.out, List.drop_eq_nil_of_le (by omega : a.length ≤ k), List.drop_eq_nil_of_le (by omega : b.length ≤ k), cmpL])
        go_wp2
        go_ret
        exact ⟨ret_int HR.out.symm, rfl⟩
theorem names_len (s : ByteArray) (hs : s.size ≤ 100000000) : (names (bs s)).length ≤ 100000001 := by
  unfold names
  split
  · exact Nat.zero_le _
  · have h1 := cut_count (bs s)
    have h2 := List.count_le_length (a := (47 : UInt8)) (l := bs s)
    rw [bs_len] at h2
    omega
end Pw
end Go.Proofs.YtnmgdlmicgbapaaDoor
