/- The walks of the document's cursor: take, number. -/
import Derived.Test.YtnmgdlmicgbapaaGreatDoorDWRead
import Derived.Test.YtnmgdlmicgbapaaGreatDoorDDoc
namespace Go.Proofs.YtnmgdlmicgbapaaGreatDoor
open Go.RowKit

namespace Pw
open Pk
/-- The document's cursor over the bytes b, at a place, spoilt or not. -/
structure Cu (w0 W : World) (cb : Nat) (b : List UInt8) (at' : Nat) (bad : Bool) : Prop where
  row : ∃ ao ca, W.cell? ⟨cb, 0, none⟩ = some (.slice ao b.length ca) ∧ BytesSeen w0 ao b ∧ (ao = none → b.length = 0 ∧ ca = 0) ∧ b.length ≤ ca ∧ ca ≤ 9223372036854775807
  place : W.cell? ⟨cb, 1, none⟩ = some (.int .i64 at')
  flag : W.cell? ⟨cb, 2, none⟩ = some (.bool bad)
  f1 : W.frozen? ⟨cb, 1, none⟩ = false
  f2 : W.frozen? ⟨cb, 2, none⟩ = false
  blk : Blk W cb 37
  le : at' ≤ b.length
  lt : cb < W.heap.size
  ge : w0.heap.size ≤ cb
  below : Below w0.heap.size w0 W
theorem Cu.kept {w0 W W' : World} {cb at' : Nat} {b : List UInt8} {bad : Bool} {row : Option Nat} (h : Cu w0 W cb b at' bad) (hg : W.grownBy W' row) (hne : some cb ≠ row) (hr : ∀ j, row = some j → w0.heap.size ≤ j) : Cu w0 W' cb b at' bad := by
  have hb := hg.block cb h.lt hne
  have hc : ∀ i, W'.cell? ⟨cb, i, none⟩ = W.cell? ⟨cb, i, none⟩ := fun i => World.cell?_of_block (a := ⟨cb, i, none⟩) hb
  have hf : ∀ i, W'.frozen? ⟨cb, i, none⟩ = W.frozen? ⟨cb, i, none⟩ := fun i => World.frozen?_of_block (a := ⟨cb, i, none⟩) hb
  obtain ⟨ao, ca, h0, h1, h2, h3⟩ := h.row
  exact ⟨⟨ao, ca, (hc 0).trans h0, h1, h2, h3⟩, (hc 1).trans h.place, (hc 2).trans h.flag, (hf 1).trans h.f1, (hf 2).trans h.f2, h.blk.kept hg hne, h.le, Nat.lt_of_lt_of_le h.lt hg.size, h.ge, h.below.grown hg h.below.size hr⟩
theorem Cu.set2 {w0 W : World} {cb at' : Nat} {b : List UInt8} {bad : Bool} (h : Cu w0 W cb b at' bad) (k : Bool) : Cu w0 (W.setCell ⟨cb, 2, none⟩ (.bool k)) cb b at' k := by
  obtain ⟨ao, ca, h0, h1, h2, h3⟩ := h.row
  have hg := grownBy_set (W := W) cb 2 (.bool k)
  exact ⟨⟨ao, ca, (World.cell?_setCell_other _ _ _ _ (by simp)).trans h0, h1, h2, h3⟩, (World.cell?_setCell_other _ _ _ _ (by simp)).trans h.place, World.cell?_setCell_same _ _ _ h.flag, by rw [World.frozen?_setCell]; exact h.f1, by rw [World.frozen?_setCell]; exact h.f2, h.blk.set _ _ _, h.le, Nat.lt_of_lt_of_le h.lt hg.size, h.ge, h.below.grown hg h.below.size (fun j e => by cases e; exact h.ge)⟩
theorem Cu.set1 {w0 W : World} {cb at' : Nat} {b : List UInt8} {bad : Bool} (h : Cu w0 W cb b at' bad) (k : Nat) (hk : k ≤ b.length) : Cu w0 (W.setCell ⟨cb, 1, none⟩ (.int .i64 k)) cb b k bad := by
  obtain ⟨ao, ca, h0, h1, h2, h3⟩ := h.row
  have hg := grownBy_set (W := W) cb 1 (.int .i64 k)
  exact ⟨⟨ao, ca, (World.cell?_setCell_other _ _ _ _ (by simp)).trans h0, h1, h2, h3⟩, World.cell?_setCell_same _ _ _ h.place, (World.cell?_setCell_other _ _ _ _ (by simp)).trans h.flag, by rw [World.frozen?_setCell]; exact h.f1, by rw [World.frozen?_setCell]; exact h.f2, h.blk.set _ _ _, hk, Nat.lt_of_lt_of_le h.lt hg.size, h.ge, h.below.grown hg h.below.size (fun j e => by cases e; exact h.ge)⟩
theorem Cu.drewN {w0 W : World} {cb at' : Nat} {b : List UInt8} {bad : Bool} (h : Cu w0 W cb b at' bad) (n : Nat) : Cu w0 (W.drewN n) cb b at' bad :=
  h.kept (row := none) ⟨rfl, rfl, rfl, Nat.le_refl _, fun _ _ _ => rfl⟩ (by simp) (fun j e => by cases e)
theorem grown_drewN (W : World) (n : Nat) (row : Option Nat) : W.grownBy (W.drewN n) row := ⟨rfl, rfl, rfl, Nat.le_refl _, fun _ _ _ => rfl⟩
set_option maxRecDepth 100000 in
/-- Spoilt already, or now. -/
theorem take_bad {w0 W : World} {cb at' : Nat} {b : List UInt8} {bad : Bool} (h : Cu w0 W cb b at' bad) (n : Nat) (hn : bad = true ∨ b.length < at' + n) (hnl : n < 4294967296) :
    Calls Tryz.prog 9 #[.pointer (some ⟨cb, 0, none⟩), .int .i64 n] W fun e w' => e = .returned (.slice none 0 0) ∧ Cu w0 w' cb b at' true ∧ W.grownBy w' (some cb) := by
  obtain ⟨ao, ca, h0, _⟩ := h.row
  have h1 := h.place
  have h2 := h.flag
  have h3 := h.f2
  have hle := h.le
  have hD := fun n => (h.drewN n).set2 true
  have hG := fun n => (grown_drewN W n (some cb)).trans (grownBy_set (W := W.drewN n) cb 2 (.bool true))
  clear h
  cases bad with
  | true =>
    go_enter Tryz.func9, Tryz.ntmps9
    go_wp2_with fail
    go_quiet (fail)
    go_wp2
    go_ret
    exact ⟨rfl, hD _, hG _⟩
  | false =>
    have hlt : b.length < at' + n := hn.resolve_left (by simp)
    have hlti : decide ((b.length : Int) - (at' : Int) < (n : Int)) = true := decide_eq_true (by omega)
    have hw : IntKind.i64.wrap ((b.length : Int) - (at' : Int)) = (b.length : Int) - (at' : Int) := by rw [IntKind.wrap_i64]; omega
    have hlt2 : (b.length : Int) - (at' : Int) < (n : Int) := by omega
    clear hn
    go_enter Tryz.func9, Tryz.ntmps9
    go_wp2_with fail
    go_quiet (fail)
    go_wp2
    go_ret
    exact ⟨rfl, hD _, hG _⟩
set_option maxRecDepth 100000 in
/-- What is there. -/
theorem take_there {w0 W : World} {cb at' : Nat} {b : List UInt8} (h : Cu w0 W cb b at' false) (n : Nat) (hn : at' + n ≤ b.length) (hbl : b.length ≤ 1000000000000) :
    Calls Tryz.prog 9 #[.pointer (some ⟨cb, 0, none⟩), .int .i64 n] W fun e w' => (∃ ao' ca', e = .returned (.slice ao' n ca') ∧ BytesSeen w0 ao' ((b.drop at').take n) ∧ (ao' = none → n = 0 ∧ ca' = 0) ∧ n ≤ ca' ∧ ca' ≤ 9223372036854775807) ∧ Cu w0 w' cb b (at' + n) false ∧ W.grownBy w' (some cb) := by
  obtain ⟨ao, ca, h0, hs, hnil, hca1, hca2⟩ := h.row
  have h1 := h.place
  have h2 := h.flag
  have h3 := h.f1
  have hle := h.le
  have hD : ∀ n' k, Cu w0 (((W.drewN n').setCell ⟨cb, 1, none⟩ (.int .i64 ((at' : Int) + (n : Int)))).drewN k) cb b (at' + n) false := fun n' k => by
    have := ((h.drewN n').set1 (at' + n) hn).drewN k
    rwa [Int.natCast_add] at this
  have hG := fun n' k => ((grown_drewN W n' (some cb)).trans (grownBy_set (W := W.drewN n') cb 1 (.int .i64 ((at' : Int) + (n : Int))))).trans (grown_drewN _ k (some cb))
  have hlti : decide ((b.length : Int) - (at' : Int) < (n : Int)) = false := decide_eq_false (by omega)
  have hw : IntKind.i64.wrap ((b.length : Int) - (at' : Int)) = (b.length : Int) - (at' : Int) := by rw [IntKind.wrap_i64]; omega
  have hlt2 : ¬ (b.length : Int) - (at' : Int) < (n : Int) := by omega
  have hw3 : IntKind.i64.wrap ((at' : Int) + (n : Int) - (n : Int)) = (at' : Int) := by rw [IntKind.wrap_i64]; omega
  have hb1 : (at' : Int) ≤ (at' : Int) + (n : Int) := by omega
  have hb2 : (at' : Int) + (n : Int) ≤ (ca : Int) := by omega
  have hb3 : (0 : Int) ≤ (at' : Int) + (n : Int) := by omega
  clear h
  go_enter Tryz.func9, Tryz.ntmps9
  go_wp2_with fail
  go_quiet (fail)
  go_wp2_with fail
  go_quiet (fail)
  have hSeen : ∀ a, ao = some a → BytesSeen w0 (some (a.add at')) ((b.drop at').take n) := by
    intro a ha j c hj
    subst ha
    have hjn : j < n := by have := (List.getElem?_eq_some_iff.1 hj).1; rw [List.length_take] at this; omega
    rw [List.getElem?_take_of_lt hjn, List.getElem?_drop] at hj
    obtain ⟨g, o, e, hg, hc⟩ := hs (at' + j) c hj
    cases e
    exact ⟨g, o + at', by rw [Addr.add_lit], hg, by rw [Nat.add_assoc]; exact hc⟩
  go_wp2
  · have hn0 : n = 0 := by omega
    go_ret
    refine ⟨⟨ao, 0, rfl, fun j c hj => ?_, fun _ => ⟨hn0, rfl⟩, by omega, Nat.zero_le _⟩, hD _ _, hG _ _⟩
    have := (List.getElem?_eq_some_iff.1 hj).1
    rw [List.length_take] at this
    omega
  · cases ao with
    | none =>
      obtain ⟨hb0, hc0⟩ := hnil rfl
      have hn0 : n = 0 := by omega
      go_ret
      refine ⟨⟨none, ca - at', rfl, fun j c hj => ?_, fun _ => ⟨hn0, by omega⟩, by omega, by omega⟩, hD _ _, hG _ _⟩
      have := (List.getElem?_eq_some_iff.1 hj).1
      rw [List.length_take] at this
      omega
    | some a =>
      go_ret
      exact ⟨⟨some (a.add at'), ca - at', rfl, hSeen a rfl, (fun e => by cases e), by omega, by omega⟩, hD _ _, hG _ _⟩
theorem val_drop (l : List UInt8) (k : Nat) (c : UInt8) (h : l[k]? = some c) : val (l.drop k) = c.toNat + 256 * val (l.drop (k + 1)) := by
  obtain ⟨hk, e⟩ := List.getElem?_eq_some_iff.1 h
  rw [List.drop_eq_getElem_cons hk, e, val]
set_option maxRecDepth 100000 in
theorem cnum_bad {w0 W : World} {cb at' : Nat} {b : List UInt8} {bad : Bool} (h : Cu w0 W cb b at' bad) (n : Nat) (hn : bad = true ∨ b.length < at' + n) (hnl : n < 4294967296) :
    Calls Tryz.prog 10 #[.pointer (some ⟨cb, 0, none⟩), .int .i64 n] W fun e w' => e = .returned (.int .i64 0) ∧ Cu w0 w' cb b at' true ∧ W.grownBy w' (some cb) := by
  have H := take_bad h n hn hnl
  clear hn
  go_enter Tryz.func10, Tryz.ntmps10
  go_wp2_with fail
  refine H.mono ?_
  rintro e w1 ⟨rfl, hC, hg⟩
  go_wp2
  go_loop [6, 7] (fun v i => v = .int .i64 0 ∧ i = .int .i64 (-1)) (fun _ _ => 0)
  case atStart => exact ⟨rfl, rfl⟩
  case round =>
    obtain ⟨rfl, rfl⟩ := hrel
    go_wp2
    go_ret
    exact ⟨rfl, hC, hg⟩
set_option maxRecDepth 100000 in
theorem cnum_there {w0 W : World} {cb at' : Nat} {b : List UInt8} (h : Cu w0 W cb b at' false) (n : Nat) (hn : at' + n ≤ b.length) (hbl : b.length ≤ 1000000000000) (hn4 : n ≤ 4) :
    Calls Tryz.prog 10 #[.pointer (some ⟨cb, 0, none⟩), .int .i64 n] W fun e w' => e = .returned (.int .i64 (val ((b.drop at').take n))) ∧ Cu w0 w' cb b (at' + n) false ∧ W.grownBy w' (some cb) := by
  have H := take_there h n hn hbl
  have hl : ((b.drop at').take n).length = n := by rw [List.length_take, List.length_drop]; omega
  generalize (b.drop at').take n = t at *
  go_enter Tryz.func10, Tryz.ntmps10
  go_wp2_with fail
  refine H.mono ?_
  rintro e w1 ⟨⟨ao, ca, rfl, hs0, hnil, hca1, hca2⟩, hC, hg⟩
  have hs := hs0.below hC.below
  clear H hs0
  go_wp2
  go_loop [6, 7] (fun v i => ∃ k : Nat, k ≤ n ∧ i = .int .i64 ((k : Int) - 1) ∧ v = .int .i64 (val (t.drop k))) (fun _ i => (intOf i + 1).toNat)
  case atStart => exact ⟨n, Nat.le_refl _, rfl, by rw [List.drop_eq_nil_of_le (by omega)]; rfl⟩
  case round =>
    obtain ⟨k, hk, rfl, rfl⟩ := hrel
    cases k with
    | zero =>
      go_wp2
      go_ret
      exact ⟨rfl, hC, hg⟩
    | succ k =>
      obtain ⟨c, hc⟩ : ∃ c, t[k]? = some c := ⟨_, List.getElem?_eq_getElem (by omega)⟩
      obtain ⟨g, o, rfl, _, hcell⟩ := hs k c hc
      have hkk : (((k + 1 : Nat) : Int) - 1) = (k : Int) := by omega
      rw [hkk]
      have hki : (k : Int) < (n : Int) := by omega
      have HV := Lib.hid (val_drop t k c hc)
      have hvl := val_lt (t.drop (k + 1))
      rw [List.length_drop, hl] at hvl
      have hv2 : val (t.drop (k + 1)) < 4294967296 := Nat.lt_of_lt_of_le hvl (by
        have : 256 ^ (n - (k + 1)) ≤ 256 ^ 4 := Nat.pow_le_pow_right (by decide) (by omega)
        exact this)
      have hcl := c.toNat_lt
      clear hkk hc hs hvl
      generalize val (t.drop (k + 1)) = v at *
      go_wp2
      go_round
      case rel => exact ⟨k, by omega, by go_num, by rw [HV.out]; go_num⟩
      case measure => simp [intOf]
theorem cnum_any {w0 W : World} {cb : Nat} {b : List UInt8} {s : Nat × Bool} (h : Cu w0 W cb b s.1 s.2) (n : Nat) (hbl : b.length ≤ 1000000000000) (hn4 : n ≤ 4) :
    Calls Tryz.prog 10 #[.pointer (some ⟨cb, 0, none⟩), .int .i64 n] W fun e w' => e = .returned (.int .i64 (rnum b n s).1) ∧ Cu w0 w' cb b (rnum b n s).2.1 (rnum b n s).2.2 ∧ W.grownBy w' (some cb) := by
  by_cases hb : s.2 = true ∨ b.length < s.1 + n
  · have e : rnum b n s = (0, (s.1, true)) := by unfold rnum; rw [if_pos hb]
    rw [e]
    exact cnum_bad h n hb (by omega)
  · have e : rnum b n s = (val ((b.drop s.1).take n), (s.1 + n, false)) := by unfold rnum; rw [if_neg hb]
    have h2 : s.2 = false := by cases hs : s.2 with | false => rfl | true => exact absurd (.inl hs) hb
    rw [h2] at h
    rw [e]
    exact cnum_there h n (by have := fun h => hb (.inr h); omega) hbl hn4
theorem ctake_any {w0 W : World} {cb : Nat} {b : List UInt8} {s : Nat × Bool} (h : Cu w0 W cb b s.1 s.2) (n : Nat) (hbl : b.length ≤ 1000000000000) (hn : n < 4294967296) :
    Calls Tryz.prog 9 #[.pointer (some ⟨cb, 0, none⟩), .int .i64 n] W fun e w' => (∃ ao ca, e = .returned (.slice ao (rtake b n s).1.length ca) ∧ BytesSeen w0 ao (rtake b n s).1 ∧ (ao = none → (rtake b n s).1.length = 0 ∧ ca = 0) ∧ (rtake b n s).1.length ≤ ca ∧ ca ≤ 9223372036854775807) ∧ Cu w0 w' cb b (rtake b n s).2.1 (rtake b n s).2.2 ∧ W.grownBy w' (some cb) := by
  by_cases hb : s.2 = true ∨ b.length < s.1 + n
  · have e : rtake b n s = ([], (s.1, true)) := by unfold rtake; rw [if_pos hb]
    rw [e]
    refine (take_bad h n hb hn).mono fun e w' ⟨he, hC, hg⟩ => ⟨⟨none, 0, he, fun j c hj => (by cases hj), fun _ => ⟨rfl, rfl⟩, Nat.le_refl _, Nat.zero_le _⟩, hC, hg⟩
  · have e : rtake b n s = ((b.drop s.1).take n, (s.1 + n, false)) := by unfold rtake; rw [if_neg hb]
    have h2 : s.2 = false := by cases hs : s.2 with | false => rfl | true => exact absurd (.inl hs) hb
    have hle : s.1 + n ≤ b.length := by have := fun h => hb (.inr h); omega
    have hl : ((b.drop s.1).take n).length = n := by rw [List.length_take, List.length_drop]; omega
    rw [h2] at h
    rw [e]
    simp only [hl]
    exact take_there h n hle hbl
end Pw
end Go.Proofs.YtnmgdlmicgbapaaGreatDoor
