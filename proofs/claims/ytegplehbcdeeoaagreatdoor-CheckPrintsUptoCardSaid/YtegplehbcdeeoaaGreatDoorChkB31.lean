/- What the row's list of package-level variables gives the walks of the checker and of its reference. -/
import Derived.Test.YtegplehbcdeeoaaGreatDoorChkB28
import Derived.Test.YtegplehbcdeeoaaGreatDoorChkB29
import Derived.Test.YtegplehbcdeeoaaGreatDoorRows
import Derived.Lib.LaidTab
import Derived.Lib.SmallJoins
import Derived.Lay
import Derived.Stop.LaidErr
import Derived.MakeChecks
import Derived.Deep.DeepHandedRow
import Derived.Deep.DeepWitnessRowRef
import Derived.ProofKit
import Derived.OpenShut
import Derived.SizedLaws
import Derived.Shelf.Vars
/- Findings as lines: the reference's walk. -/
namespace Go.Proofs.YtegplehbcdeeoaaGreatDoor
open Go.RowKit

namespace Ck
open Pk Pw
/-- Which of its fields a kind has, as a number. -/
def fieldsP : List Nat := [0, 0, 0, 2, 1, 3, 3, 2, 2, 3, 3, 5, 5, 5, 1, 1, 5, 1, 1]
def fieldP (k : Nat) : Nat := fieldsP.getD k 0
theorem fields_are : ∀ K : Fin 19, fieldP K.val = (if (kindP K.val).2.1 then 1 else 0) + (if (kindP K.val).2.2.1 then 2 else 0) + (if (kindP K.val).2.2.2 then 4 else 0) := by decide +kernel
/-- What the reference's tables hold. -/
structure RVars (w : World) : Prop where
  words : ∀ k, 1 ≤ k → k < 19 → w.cell? ⟨1, k, none⟩ = some (.string (mk (kindP k).1))
  fields : ∀ k, k < 19 → w.cell? ⟨2, k, none⟩ = some (.int .i64 (fieldP k : Nat))
  lt5 : 1 < w.heap.size
  lt6 : 2 < w.heap.size
theorem RVars.below {w w' : World} (h : RVars w) (hb : Below w.heap.size w w') : RVars w' :=
  ⟨fun k h1 h2 => (World.cell?_of_block (a := ⟨_, _, none⟩) (hb.block _ h.lt5)).trans (h.words k h1 h2), fun k h1 => (World.cell?_of_block (a := ⟨_, _, none⟩) (hb.block _ h.lt6)).trans (h.fields k h1), Nat.lt_of_lt_of_le h.lt5 hb.size, Nat.lt_of_lt_of_le h.lt6 hb.size⟩
/-- A text, lengthened: under a name of its own. -/
theorem step_str (S x : B) (h : S.length + x.length ≤ 1000000000000) : ∃ S' : B, mk S ++ mk x = mk S' ∧ Hid (S' = S ++ x) ∧ Hid (S'.length = S.length + x.length) ∧ ∃ L, (mk S).size = L ∧ ¬ (9223372036854775807 < L + x.length) :=
  ⟨S ++ x, mk_add S x, Lib.hid rfl, Lib.hid (List.length_append ..), S.length, mk_size S, by omega⟩
set_option maxRecDepth 100000 in
set_option maxHeartbeats 4000000 in
theorem refPrint_any (l : List Fi) (ao : Option Addr) (cap : Nat) (w : World) (hl : l.length ≤ 100000000000) (hin : ∀ f ∈ l, f.In) (hs : FAt w ao l) (hv : RVars w) (hlen : ∀ k, (printP (l.take k)).length ≤ 100000000000) (hnm : ∀ f ∈ l, f.name.length ≤ 10000000000) :
    Calls Tryz.prog 13 #[.slice ao l.length cap] w fun e w' => e = .returned (.string (mk (printP l))) ∧ Below w.heap.size w w' := by
  have hS := Lib.hid hs
  have hI := Lib.hid hin
  have hV := Lib.hid hv
  have hL := Lib.hid hlen
  have hM := Lib.hid hnm
  clear hs hin hv hlen hnm
  go_enter Tryz.func13, Tryz.ntmps13
  go_wp2_with fail
  go_loopw [3, 4] (fun sv iv wr => ∃ k : Nat, sv = .string (mk (printP (l.take k))) ∧ iv = .int .i64 k ∧ k ≤ l.length ∧ Hid (Below w.heap.size w wr)) (fun _ iv _ => l.length - (intOf iv).toNat)
  case atStart => exact ⟨0, rfl, rfl, Nat.zero_le _, Lib.hid (Below.refl _ _)⟩
  case round =>
    obtain ⟨k, rfl, rfl, hk, hH⟩ := hrel
    by_cases c : k < l.length
    · have hci : (k : Int) < (l.length : Int) := by omega
      obtain ⟨f, hf⟩ : ∃ f, l[k]? = some f := ⟨_, List.getElem?_eq_getElem c⟩
      have hmem := List.mem_of_getElem? hf
      obtain ⟨⟨i1, i2⟩, ⟨i3, i4⟩, ⟨i5, i6⟩⟩ := hI.out f hmem
      have hnl := hM.out f hmem
      have hPl := hL.out k
      obtain ⟨g, o, rfl, e0, e1, e2, e3⟩ := hS.out.at' hH.out hf
      have htl := Lib.hid (take_line hf)
      have hat := Lib.hid (fun V (hb : Below w.heap.size w V) => hS.out.at' hb hf)
      have hVT := hV.out.below hH.out
      generalize printP (l.take k) = P at *
      clear hf hmem
      by_cases hbad : f.kind < 1 ∨ 18 < f.kind
      · have hl1 := Lib.hid (show lineP f = [63, 10] by unfold lineP; rw [if_pos hbad])
        have hbad2 : f.kind < 1 ∨ (¬ f.kind < 1 ∧ (18 : Int) < f.kind) := by omega
        obtain ⟨S1, a1, h1, n1, L0, z0, g0⟩ := step_str P [63, 10] (by simp; omega)
        replace a1 : mk P ++ (⟨#[63, 10]⟩ : ByteArray) = mk S1 := a1
        replace g0 : ¬ (9223372036854775807 < L0 + 2) := g0
        clear hbad hVT
        rcases hbad2 with hx | ⟨hx, hy⟩
        all_goals
          go_wp2_with fail
          go_roundw
          case rel => exact ⟨k + 1, by rw [htl.out, hl1.out, h1.out], by go_num, by omega, hH⟩
          case measure => simp only [intOf]; omega
      · obtain ⟨K, hK⟩ : ∃ K : Nat, f.kind = K := ⟨f.kind.toNat, by omega⟩
        have hKb : 1 ≤ K ∧ K < 19 := by omega
        obtain ⟨hw1, hw2, hw3⟩ := kind_word ⟨K, hKb.2⟩ hKb.1
        dsimp only at hw1 hw2 hw3
        have hfe := fields_are ⟨K, hKb.2⟩
        dsimp only at hfe
        have k0 := fun V (hb : Below w.heap.size w V) => (hV.out.below hb).words K hKb.1 hKb.2
        have k1 := fun V (hb : Below w.heap.size w V) => (hV.out.below hb).fields K hKb.2
        have hl1 := Lib.hid (show lineP f = (kindP K).1 ++ (if (kindP K).2.1 then 32 :: Lib.itoa f.inode else []) ++ (if (kindP K).2.2.1 then 32 :: Lib.itoa f.block else []) ++ (if (kindP K).2.2.2 then 32 :: shownP f.name else []) ++ [10] by
          unfold lineP
          rw [if_neg hbad, hK, Int.toNat_natCast])
        have hIa := fun W => decimal_any f.inode i3 i4 W
        have hIb := fun W => decimal_any f.block i5 i6 W
        have hSn := fun W => told_any f.name (by omega) W
        have hla := Lib.itoa_length_le f.inode i3 i4
        have hlb := Lib.itoa_length_le f.block i5 i6
        have hln := shownP_len f.name
        have hb1 : ¬ f.kind < 1 := by omega
        have hb2 : ¬ (18 : Int) < f.kind := by omega
        have hb3 : ¬ f.kind < 0 := by omega
        have hb4 : f.kind < 19 := by omega
        rw [hK] at hb1 hb2 hb3 hb4 e0
        replace hat := Lib.hid (fun V (hb : Below w.heap.size w V) => by have := hat.out V hb; rw [hK] at this; exact this)
        clear hbad hK hVT hw3
        generalize fieldP K = fk at *
        generalize kindP K = kc at *
        obtain ⟨wd, bi, bb, bn⟩ := kc
        dsimp only at hw1 hw2 k0 hl1 hfe
        generalize f.inode = fi at *
        generalize f.block = fb at *
        generalize f.name = fn at *
        generalize lineP f = lp at *
        have zw := mk_size wd
        have za := mk_size (Lib.itoa fi)
        have zb := mk_size (Lib.itoa fb)
        have zn := mk_size (shownP fn)
        generalize Lib.itoa fi = si at *
        generalize Lib.itoa fb = sj at *
        generalize shownP fn = sm at *
        have hBel := hH.out
        obtain ⟨g1', o1', ee, e0, e1, e2, e3⟩ := hat.out wr hBel
        cases ee
        have k0' := k0 wr hBel
        have k1' := k1 wr hBel
        clear hH
        cases bi <;> cases bb <;> cases bn
        · obtain rfl : fk = 0 := hfe
          replace k1 : ∀ V, Below w.heap.size w V → V.cell? ⟨2, K, none⟩ = some (.int .i64 0) := k1
          replace k1' := k1 wr hBel
          obtain ⟨S1, a1, h1, n1, L0, z0, g0⟩ := step_str P wd (by omega)
          have b1 : Hid (S1.length ≤ 200000000000) := Lib.hid (by have hh := n1.out; omega)
          obtain ⟨S2, a2, h2, n2, L1, z1, g1⟩ := step_str S1 [10] (by have hg := b1.out; simp only [List.length_cons, List.length_nil]; omega)
          replace a2 : mk S1 ++ (⟨#[10]⟩ : ByteArray) = mk S2 := a2
          replace g1 : ¬ (9223372036854775807 < L1 + 1) := g1
          clear k0
          go_wp2_with (first | (go_at_call 24; (with_reducible refine (hIa _).mono ?_); rintro e V2 ⟨rfl, hb⟩; have hBel := hBel.trans (hb.mono hBel.size); clear hb e0 e1 e2 e3 k1'; obtain ⟨g9, o9, ee, e0, e1, e2, e3⟩ := hat.out _ hBel; cases ee; have k1' := k1 _ hBel) | (go_at_call 24; (with_reducible refine (hIb _).mono ?_); rintro e V2 ⟨rfl, hb⟩; have hBel := hBel.trans (hb.mono hBel.size); clear hb e0 e1 e2 e3 k1'; obtain ⟨g9, o9, ee, e0, e1, e2, e3⟩ := hat.out _ hBel; cases ee; have k1' := k1 _ hBel) | (go_at_call 25; (with_reducible refine (hSn _).mono ?_); rintro e V2 ⟨rfl, hb⟩; have hBel := hBel.trans (hb.mono hBel.size); clear hb e0 e1 e2 e3 k1'; obtain ⟨g9, o9, ee, e0, e1, e2, e3⟩ := hat.out _ hBel; cases ee; have k1' := k1 _ hBel))
          go_roundw
          case rel => exact ⟨k + 1, by rw [htl.out, hl1.out, h2.out, h1.out]; simp, by go_num, by omega, Lib.hid hBel⟩
          case measure => simp only [intOf]; omega
        · obtain rfl : fk = 4 := hfe
          replace k1 : ∀ V, Below w.heap.size w V → V.cell? ⟨2, K, none⟩ = some (.int .i64 4) := k1
          replace k1' := k1 wr hBel
          obtain ⟨S1, a1, h1, n1, L0, z0, g0⟩ := step_str P wd (by omega)
          have b1 : Hid (S1.length ≤ 200000000000) := Lib.hid (by have hh := n1.out; omega)
          obtain ⟨S2, a2, h2, n2, L1, z1, g1⟩ := step_str S1 [32] (by have hg := b1.out; simp only [List.length_cons, List.length_nil]; omega)
          replace a2 : mk S1 ++ (⟨#[32]⟩ : ByteArray) = mk S2 := a2
          replace g1 : ¬ (9223372036854775807 < L1 + 1) := g1
          have b2 : Hid (S2.length ≤ 260000000000) := Lib.hid (by have hh := n2.out; have hg := b1.out; simp only [List.length_cons, List.length_nil] at hh; omega)
          obtain ⟨S3, a3, h3, n3, L2, z2, g2⟩ := step_str S2 sm (by have hg := b2.out; omega)
          have b3 : Hid (S3.length ≤ 320000000000) := Lib.hid (by have hh := n3.out; have hg := b2.out; omega)
          obtain ⟨S4, a4, h4, n4, L3, z3, g3⟩ := step_str S3 [10] (by have hg := b3.out; simp only [List.length_cons, List.length_nil]; omega)
          replace a4 : mk S3 ++ (⟨#[10]⟩ : ByteArray) = mk S4 := a4
          replace g3 : ¬ (9223372036854775807 < L3 + 1) := g3
          clear k0
          go_wp2_with (first | (go_at_call 24; (with_reducible refine (hIa _).mono ?_); rintro e V2 ⟨rfl, hb⟩; have hBel := hBel.trans (hb.mono hBel.size); clear hb e0 e1 e2 e3 k1'; obtain ⟨g9, o9, ee, e0, e1, e2, e3⟩ := hat.out _ hBel; cases ee; have k1' := k1 _ hBel) | (go_at_call 24; (with_reducible refine (hIb _).mono ?_); rintro e V2 ⟨rfl, hb⟩; have hBel := hBel.trans (hb.mono hBel.size); clear hb e0 e1 e2 e3 k1'; obtain ⟨g9, o9, ee, e0, e1, e2, e3⟩ := hat.out _ hBel; cases ee; have k1' := k1 _ hBel) | (go_at_call 25; (with_reducible refine (hSn _).mono ?_); rintro e V2 ⟨rfl, hb⟩; have hBel := hBel.trans (hb.mono hBel.size); clear hb e0 e1 e2 e3 k1'; obtain ⟨g9, o9, ee, e0, e1, e2, e3⟩ := hat.out _ hBel; cases ee; have k1' := k1 _ hBel))
          go_roundw
          case rel => exact ⟨k + 1, by rw [htl.out, hl1.out, h4.out, h3.out, h2.out, h1.out]; simp, by go_num, by omega, Lib.hid hBel⟩
          case measure => simp only [intOf]; omega
        · obtain rfl : fk = 2 := hfe
          replace k1 : ∀ V, Below w.heap.size w V → V.cell? ⟨2, K, none⟩ = some (.int .i64 2) := k1
          replace k1' := k1 wr hBel
          obtain ⟨S1, a1, h1, n1, L0, z0, g0⟩ := step_str P wd (by omega)
          have b1 : Hid (S1.length ≤ 200000000000) := Lib.hid (by have hh := n1.out; omega)
          obtain ⟨S2, a2, h2, n2, L1, z1, g1⟩ := step_str S1 [32] (by have hg := b1.out; simp only [List.length_cons, List.length_nil]; omega)
          replace a2 : mk S1 ++ (⟨#[32]⟩ : ByteArray) = mk S2 := a2
          replace g1 : ¬ (9223372036854775807 < L1 + 1) := g1
          have b2 : Hid (S2.length ≤ 260000000000) := Lib.hid (by have hh := n2.out; have hg := b1.out; simp only [List.length_cons, List.length_nil] at hh; omega)
          obtain ⟨S3, a3, h3, n3, L2, z2, g2⟩ := step_str S2 sj (by have hg := b2.out; omega)
          have b3 : Hid (S3.length ≤ 320000000000) := Lib.hid (by have hh := n3.out; have hg := b2.out; omega)
          obtain ⟨S4, a4, h4, n4, L3, z3, g3⟩ := step_str S3 [10] (by have hg := b3.out; simp only [List.length_cons, List.length_nil]; omega)
          replace a4 : mk S3 ++ (⟨#[10]⟩ : ByteArray) = mk S4 := a4
          replace g3 : ¬ (9223372036854775807 < L3 + 1) := g3
          clear k0
          go_wp2_with (first | (go_at_call 24; (with_reducible refine (hIa _).mono ?_); rintro e V2 ⟨rfl, hb⟩; have hBel := hBel.trans (hb.mono hBel.size); clear hb e0 e1 e2 e3 k1'; obtain ⟨g9, o9, ee, e0, e1, e2, e3⟩ := hat.out _ hBel; cases ee; have k1' := k1 _ hBel) | (go_at_call 24; (with_reducible refine (hIb _).mono ?_); rintro e V2 ⟨rfl, hb⟩; have hBel := hBel.trans (hb.mono hBel.size); clear hb e0 e1 e2 e3 k1'; obtain ⟨g9, o9, ee, e0, e1, e2, e3⟩ := hat.out _ hBel; cases ee; have k1' := k1 _ hBel) | (go_at_call 25; (with_reducible refine (hSn _).mono ?_); rintro e V2 ⟨rfl, hb⟩; have hBel := hBel.trans (hb.mono hBel.size); clear hb e0 e1 e2 e3 k1'; obtain ⟨g9, o9, ee, e0, e1, e2, e3⟩ := hat.out _ hBel; cases ee; have k1' := k1 _ hBel))
          go_roundw
          case rel => exact ⟨k + 1, by rw [htl.out, hl1.out, h4.out, h3.out, h2.out, h1.out]; simp, by go_num, by omega, Lib.hid hBel⟩
          case measure => simp only [intOf]; omega
        · obtain rfl : fk = 6 := hfe
          replace k1 : ∀ V, Below w.heap.size w V → V.cell? ⟨2, K, none⟩ = some (.int .i64 6) := k1
          replace k1' := k1 wr hBel
          obtain ⟨S1, a1, h1, n1, L0, z0, g0⟩ := step_str P wd (by omega)
          have b1 : Hid (S1.length ≤ 200000000000) := Lib.hid (by have hh := n1.out; omega)
          obtain ⟨S2, a2, h2, n2, L1, z1, g1⟩ := step_str S1 [32] (by have hg := b1.out; simp only [List.length_cons, List.length_nil]; omega)
          replace a2 : mk S1 ++ (⟨#[32]⟩ : ByteArray) = mk S2 := a2
          replace g1 : ¬ (9223372036854775807 < L1 + 1) := g1
          have b2 : Hid (S2.length ≤ 260000000000) := Lib.hid (by have hh := n2.out; have hg := b1.out; simp only [List.length_cons, List.length_nil] at hh; omega)
          obtain ⟨S3, a3, h3, n3, L2, z2, g2⟩ := step_str S2 sj (by have hg := b2.out; omega)
          have b3 : Hid (S3.length ≤ 320000000000) := Lib.hid (by have hh := n3.out; have hg := b2.out; omega)
          obtain ⟨S4, a4, h4, n4, L3, z3, g3⟩ := step_str S3 [32] (by have hg := b3.out; simp only [List.length_cons, List.length_nil]; omega)
          replace a4 : mk S3 ++ (⟨#[32]⟩ : ByteArray) = mk S4 := a4
          replace g3 : ¬ (9223372036854775807 < L3 + 1) := g3
          have b4 : Hid (S4.length ≤ 380000000000) := Lib.hid (by have hh := n4.out; have hg := b3.out; simp only [List.length_cons, List.length_nil] at hh; omega)
          obtain ⟨S5, a5, h5, n5, L4, z4, g4⟩ := step_str S4 sm (by have hg := b4.out; omega)
          have b5 : Hid (S5.length ≤ 440000000000) := Lib.hid (by have hh := n5.out; have hg := b4.out; omega)
          obtain ⟨S6, a6, h6, n6, L5, z5, g5⟩ := step_str S5 [10] (by have hg := b5.out; simp only [List.length_cons, List.length_nil]; omega)
          replace a6 : mk S5 ++ (⟨#[10]⟩ : ByteArray) = mk S6 := a6
          replace g5 : ¬ (9223372036854775807 < L5 + 1) := g5
          clear k0
          go_wp2_with (first | (go_at_call 24; (with_reducible refine (hIa _).mono ?_); rintro e V2 ⟨rfl, hb⟩; have hBel := hBel.trans (hb.mono hBel.size); clear hb e0 e1 e2 e3 k1'; obtain ⟨g9, o9, ee, e0, e1, e2, e3⟩ := hat.out _ hBel; cases ee; have k1' := k1 _ hBel) | (go_at_call 24; (with_reducible refine (hIb _).mono ?_); rintro e V2 ⟨rfl, hb⟩; have hBel := hBel.trans (hb.mono hBel.size); clear hb e0 e1 e2 e3 k1'; obtain ⟨g9, o9, ee, e0, e1, e2, e3⟩ := hat.out _ hBel; cases ee; have k1' := k1 _ hBel) | (go_at_call 25; (with_reducible refine (hSn _).mono ?_); rintro e V2 ⟨rfl, hb⟩; have hBel := hBel.trans (hb.mono hBel.size); clear hb e0 e1 e2 e3 k1'; obtain ⟨g9, o9, ee, e0, e1, e2, e3⟩ := hat.out _ hBel; cases ee; have k1' := k1 _ hBel))
          go_roundw
          case rel => exact ⟨k + 1, by rw [htl.out, hl1.out, h6.out, h5.out, h4.out, h3.out, h2.out, h1.out]; simp, by go_num, by omega, Lib.hid hBel⟩
          case measure => simp only [intOf]; omega
        · obtain rfl : fk = 1 := hfe
          replace k1 : ∀ V, Below w.heap.size w V → V.cell? ⟨2, K, none⟩ = some (.int .i64 1) := k1
          replace k1' := k1 wr hBel
          obtain ⟨S1, a1, h1, n1, L0, z0, g0⟩ := step_str P wd (by omega)
          have b1 : Hid (S1.length ≤ 200000000000) := Lib.hid (by have hh := n1.out; omega)
          obtain ⟨S2, a2, h2, n2, L1, z1, g1⟩ := step_str S1 [32] (by have hg := b1.out; simp only [List.length_cons, List.length_nil]; omega)
          replace a2 : mk S1 ++ (⟨#[32]⟩ : ByteArray) = mk S2 := a2
          replace g1 : ¬ (9223372036854775807 < L1 + 1) := g1
          have b2 : Hid (S2.length ≤ 260000000000) := Lib.hid (by have hh := n2.out; have hg := b1.out; simp only [List.length_cons, List.length_nil] at hh; omega)
          obtain ⟨S3, a3, h3, n3, L2, z2, g2⟩ := step_str S2 si (by have hg := b2.out; omega)
          have b3 : Hid (S3.length ≤ 320000000000) := Lib.hid (by have hh := n3.out; have hg := b2.out; omega)
          obtain ⟨S4, a4, h4, n4, L3, z3, g3⟩ := step_str S3 [10] (by have hg := b3.out; simp only [List.length_cons, List.length_nil]; omega)
          replace a4 : mk S3 ++ (⟨#[10]⟩ : ByteArray) = mk S4 := a4
          replace g3 : ¬ (9223372036854775807 < L3 + 1) := g3
          clear k0
          go_wp2_with (first | (go_at_call 24; (with_reducible refine (hIa _).mono ?_); rintro e V2 ⟨rfl, hb⟩; have hBel := hBel.trans (hb.mono hBel.size); clear hb e0 e1 e2 e3 k1'; obtain ⟨g9, o9, ee, e0, e1, e2, e3⟩ := hat.out _ hBel; cases ee; have k1' := k1 _ hBel) | (go_at_call 24; (with_reducible refine (hIb _).mono ?_); rintro e V2 ⟨rfl, hb⟩; have hBel := hBel.trans (hb.mono hBel.size); clear hb e0 e1 e2 e3 k1'; obtain ⟨g9, o9, ee, e0, e1, e2, e3⟩ := hat.out _ hBel; cases ee; have k1' := k1 _ hBel) | (go_at_call 25; (with_reducible refine (hSn _).mono ?_); rintro e V2 ⟨rfl, hb⟩; have hBel := hBel.trans (hb.mono hBel.size); clear hb e0 e1 e2 e3 k1'; obtain ⟨g9, o9, ee, e0, e1, e2, e3⟩ := hat.out _ hBel; cases ee; have k1' := k1 _ hBel))
          go_roundw
          case rel => exact ⟨k + 1, by rw [htl.out, hl1.out, h4.out, h3.out, h2.out, h1.out]; simp, by go_num, by omega, Lib.hid hBel⟩
          case measure => simp only [intOf]; omega
        · obtain rfl : fk = 5 := hfe
          replace k1 : ∀ V, Below w.heap.size w V → V.cell? ⟨2, K, none⟩ = some (.int .i64 5) := k1
          replace k1' := k1 wr hBel
          obtain ⟨S1, a1, h1, n1, L0, z0, g0⟩ := step_str P wd (by omega)
          have b1 : Hid (S1.length ≤ 200000000000) := Lib.hid (by have hh := n1.out; omega)
          obtain ⟨S2, a2, h2, n2, L1, z1, g1⟩ := step_str S1 [32] (by have hg := b1.out; simp only [List.length_cons, List.length_nil]; omega)
          replace a2 : mk S1 ++ (⟨#[32]⟩ : ByteArray) = mk S2 := a2
          replace g1 : ¬ (9223372036854775807 < L1 + 1) := g1
          have b2 : Hid (S2.length ≤ 260000000000) := Lib.hid (by have hh := n2.out; have hg := b1.out; simp only [List.length_cons, List.length_nil] at hh; omega)
          obtain ⟨S3, a3, h3, n3, L2, z2, g2⟩ := step_str S2 si (by have hg := b2.out; omega)
          have b3 : Hid (S3.length ≤ 320000000000) := Lib.hid (by have hh := n3.out; have hg := b2.out; omega)
          obtain ⟨S4, a4, h4, n4, L3, z3, g3⟩ := step_str S3 [32] (by have hg := b3.out; simp only [List.length_cons, List.length_nil]; omega)
          replace a4 : mk S3 ++ (⟨#[32]⟩ : ByteArray) = mk S4 := a4
          replace g3 : ¬ (9223372036854775807 < L3 + 1) := g3
          have b4 : Hid (S4.length ≤ 380000000000) := Lib.hid (by have hh := n4.out; have hg := b3.out; simp only [List.length_cons, List.length_nil] at hh; omega)
          obtain ⟨S5, a5, h5, n5, L4, z4, g4⟩ := step_str S4 sm (by have hg := b4.out; omega)
          have b5 : Hid (S5.length ≤ 440000000000) := Lib.hid (by have hh := n5.out; have hg := b4.out; omega)
          obtain ⟨S6, a6, h6, n6, L5, z5, g5⟩ := step_str S5 [10] (by have hg := b5.out; simp only [List.length_cons, List.length_nil]; omega)
          replace a6 : mk S5 ++ (⟨#[10]⟩ : ByteArray) = mk S6 := a6
          replace g5 : ¬ (9223372036854775807 < L5 + 1) := g5
          clear k0
          go_wp2_with (first | (go_at_call 24; (with_reducible refine (hIa _).mono ?_); rintro e V2 ⟨rfl, hb⟩; have hBel := hBel.trans (hb.mono hBel.size); clear hb e0 e1 e2 e3 k1'; obtain ⟨g9, o9, ee, e0, e1, e2, e3⟩ := hat.out _ hBel; cases ee; have k1' := k1 _ hBel) | (go_at_call 24; (with_reducible refine (hIb _).mono ?_); rintro e V2 ⟨rfl, hb⟩; have hBel := hBel.trans (hb.mono hBel.size); clear hb e0 e1 e2 e3 k1'; obtain ⟨g9, o9, ee, e0, e1, e2, e3⟩ := hat.out _ hBel; cases ee; have k1' := k1 _ hBel) | (go_at_call 25; (with_reducible refine (hSn _).mono ?_); rintro e V2 ⟨rfl, hb⟩; have hBel := hBel.trans (hb.mono hBel.size); clear hb e0 e1 e2 e3 k1'; obtain ⟨g9, o9, ee, e0, e1, e2, e3⟩ := hat.out _ hBel; cases ee; have k1' := k1 _ hBel))
          go_roundw
          case rel => exact ⟨k + 1, by rw [htl.out, hl1.out, h6.out, h5.out, h4.out, h3.out, h2.out, h1.out]; simp, by go_num, by omega, Lib.hid hBel⟩
          case measure => simp only [intOf]; omega
        · obtain rfl : fk = 3 := hfe
          replace k1 : ∀ V, Below w.heap.size w V → V.cell? ⟨2, K, none⟩ = some (.int .i64 3) := k1
          replace k1' := k1 wr hBel
          obtain ⟨S1, a1, h1, n1, L0, z0, g0⟩ := step_str P wd (by omega)
          have b1 : Hid (S1.length ≤ 200000000000) := Lib.hid (by have hh := n1.out; omega)
          obtain ⟨S2, a2, h2, n2, L1, z1, g1⟩ := step_str S1 [32] (by have hg := b1.out; simp only [List.length_cons, List.length_nil]; omega)
          replace a2 : mk S1 ++ (⟨#[32]⟩ : ByteArray) = mk S2 := a2
          replace g1 : ¬ (9223372036854775807 < L1 + 1) := g1
          have b2 : Hid (S2.length ≤ 260000000000) := Lib.hid (by have hh := n2.out; have hg := b1.out; simp only [List.length_cons, List.length_nil] at hh; omega)
          obtain ⟨S3, a3, h3, n3, L2, z2, g2⟩ := step_str S2 si (by have hg := b2.out; omega)
          have b3 : Hid (S3.length ≤ 320000000000) := Lib.hid (by have hh := n3.out; have hg := b2.out; omega)
          obtain ⟨S4, a4, h4, n4, L3, z3, g3⟩ := step_str S3 [32] (by have hg := b3.out; simp only [List.length_cons, List.length_nil]; omega)
          replace a4 : mk S3 ++ (⟨#[32]⟩ : ByteArray) = mk S4 := a4
          replace g3 : ¬ (9223372036854775807 < L3 + 1) := g3
          have b4 : Hid (S4.length ≤ 380000000000) := Lib.hid (by have hh := n4.out; have hg := b3.out; simp only [List.length_cons, List.length_nil] at hh; omega)
          obtain ⟨S5, a5, h5, n5, L4, z4, g4⟩ := step_str S4 sj (by have hg := b4.out; omega)
          have b5 : Hid (S5.length ≤ 440000000000) := Lib.hid (by have hh := n5.out; have hg := b4.out; omega)
          obtain ⟨S6, a6, h6, n6, L5, z5, g5⟩ := step_str S5 [10] (by have hg := b5.out; simp only [List.length_cons, List.length_nil]; omega)
          replace a6 : mk S5 ++ (⟨#[10]⟩ : ByteArray) = mk S6 := a6
          replace g5 : ¬ (9223372036854775807 < L5 + 1) := g5
          clear k0
          go_wp2_with (first | (go_at_call 24; (with_reducible refine (hIa _).mono ?_); rintro e V2 ⟨rfl, hb⟩; have hBel := hBel.trans (hb.mono hBel.size); clear hb e0 e1 e2 e3 k1'; obtain ⟨g9, o9, ee, e0, e1, e2, e3⟩ := hat.out _ hBel; cases ee; have k1' := k1 _ hBel) | (go_at_call 24; (with_reducible refine (hIb _).mono ?_); rintro e V2 ⟨rfl, hb⟩; have hBel := hBel.trans (hb.mono hBel.size); clear hb e0 e1 e2 e3 k1'; obtain ⟨g9, o9, ee, e0, e1, e2, e3⟩ := hat.out _ hBel; cases ee; have k1' := k1 _ hBel) | (go_at_call 25; (with_reducible refine (hSn _).mono ?_); rintro e V2 ⟨rfl, hb⟩; have hBel := hBel.trans (hb.mono hBel.size); clear hb e0 e1 e2 e3 k1'; obtain ⟨g9, o9, ee, e0, e1, e2, e3⟩ := hat.out _ hBel; cases ee; have k1' := k1 _ hBel))
          go_roundw
          case rel => exact ⟨k + 1, by rw [htl.out, hl1.out, h6.out, h5.out, h4.out, h3.out, h2.out, h1.out]; simp, by go_num, by omega, Lib.hid hBel⟩
          case measure => simp only [intOf]; omega
        · obtain rfl : fk = 7 := hfe
          replace k1 : ∀ V, Below w.heap.size w V → V.cell? ⟨2, K, none⟩ = some (.int .i64 7) := k1
          replace k1' := k1 wr hBel
          obtain ⟨S1, a1, h1, n1, L0, z0, g0⟩ := step_str P wd (by omega)
          have b1 : Hid (S1.length ≤ 200000000000) := Lib.hid (by have hh := n1.out; omega)
          obtain ⟨S2, a2, h2, n2, L1, z1, g1⟩ := step_str S1 [32] (by have hg := b1.out; simp only [List.length_cons, List.length_nil]; omega)
          replace a2 : mk S1 ++ (⟨#[32]⟩ : ByteArray) = mk S2 := a2
          replace g1 : ¬ (9223372036854775807 < L1 + 1) := g1
          have b2 : Hid (S2.length ≤ 260000000000) := Lib.hid (by have hh := n2.out; have hg := b1.out; simp only [List.length_cons, List.length_nil] at hh; omega)
          obtain ⟨S3, a3, h3, n3, L2, z2, g2⟩ := step_str S2 si (by have hg := b2.out; omega)
          have b3 : Hid (S3.length ≤ 320000000000) := Lib.hid (by have hh := n3.out; have hg := b2.out; omega)
          obtain ⟨S4, a4, h4, n4, L3, z3, g3⟩ := step_str S3 [32] (by have hg := b3.out; simp only [List.length_cons, List.length_nil]; omega)
          replace a4 : mk S3 ++ (⟨#[32]⟩ : ByteArray) = mk S4 := a4
          replace g3 : ¬ (9223372036854775807 < L3 + 1) := g3
          have b4 : Hid (S4.length ≤ 380000000000) := Lib.hid (by have hh := n4.out; have hg := b3.out; simp only [List.length_cons, List.length_nil] at hh; omega)
          obtain ⟨S5, a5, h5, n5, L4, z4, g4⟩ := step_str S4 sj (by have hg := b4.out; omega)
          have b5 : Hid (S5.length ≤ 440000000000) := Lib.hid (by have hh := n5.out; have hg := b4.out; omega)
          obtain ⟨S6, a6, h6, n6, L5, z5, g5⟩ := step_str S5 [32] (by have hg := b5.out; simp only [List.length_cons, List.length_nil]; omega)
          replace a6 : mk S5 ++ (⟨#[32]⟩ : ByteArray) = mk S6 := a6
          replace g5 : ¬ (9223372036854775807 < L5 + 1) := g5
          have b6 : Hid (S6.length ≤ 500000000000) := Lib.hid (by have hh := n6.out; have hg := b5.out; simp only [List.length_cons, List.length_nil] at hh; omega)
          obtain ⟨S7, a7, h7, n7, L6, z6, g6⟩ := step_str S6 sm (by have hg := b6.out; omega)
          have b7 : Hid (S7.length ≤ 560000000000) := Lib.hid (by have hh := n7.out; have hg := b6.out; omega)
          obtain ⟨S8, a8, h8, n8, L7, z7, g7⟩ := step_str S7 [10] (by have hg := b7.out; simp only [List.length_cons, List.length_nil]; omega)
          replace a8 : mk S7 ++ (⟨#[10]⟩ : ByteArray) = mk S8 := a8
          replace g7 : ¬ (9223372036854775807 < L7 + 1) := g7
          clear k0
          go_wp2_with (first | (go_at_call 24; (with_reducible refine (hIa _).mono ?_); rintro e V2 ⟨rfl, hb⟩; have hBel := hBel.trans (hb.mono hBel.size); clear hb e0 e1 e2 e3 k1'; obtain ⟨g9, o9, ee, e0, e1, e2, e3⟩ := hat.out _ hBel; cases ee; have k1' := k1 _ hBel) | (go_at_call 24; (with_reducible refine (hIb _).mono ?_); rintro e V2 ⟨rfl, hb⟩; have hBel := hBel.trans (hb.mono hBel.size); clear hb e0 e1 e2 e3 k1'; obtain ⟨g9, o9, ee, e0, e1, e2, e3⟩ := hat.out _ hBel; cases ee; have k1' := k1 _ hBel) | (go_at_call 25; (with_reducible refine (hSn _).mono ?_); rintro e V2 ⟨rfl, hb⟩; have hBel := hBel.trans (hb.mono hBel.size); clear hb e0 e1 e2 e3 k1'; obtain ⟨g9, o9, ee, e0, e1, e2, e3⟩ := hat.out _ hBel; cases ee; have k1' := k1 _ hBel))
          go_roundw
          case rel => exact ⟨k + 1, by rw [htl.out, hl1.out, h8.out, h7.out, h6.out, h5.out, h4.out, h3.out, h2.out, h1.out]; simp, by go_num, by omega, Lib.hid hBel⟩
          case measure => simp only [intOf]; omega
    · obtain rfl : k = l.length := by omega
      have hci : ¬ (l.length : Int) < (l.length : Int) := by omega
      rw [List.take_length]
      go_wp2_with fail
      go_ret
      exact ⟨rfl, hH.out⟩
end Ck
end Go.Proofs.YtegplehbcdeeoaaGreatDoor
namespace Go.Proofs.YtegplehbcdeeoaaGreatDoor
open Go.ChangeShapes Go.WideShapes Go.ChangeAt Go.RowKit

namespace Cv
theorem own : ownKnob Tryz.prog.godebug = none := by kernel_rfl
theorem laidOut : laidOutB Tryz.prog = true := by kernel_rfl
theorem gHalf : Tryz.prog.globalNamed "bole/sum.half" = some 5 := by kernel_rfl
theorem gWidths : Tryz.prog.globalNamed "bole/rec.widths" = some 4 := by kernel_rfl
theorem gKinds : Tryz.prog.globalNamed "bole/check.kinds" = some 0 := by kernel_rfl
theorem gWords : Tryz.prog.globalNamed "bole/boleref19.words" = some 1 := by kernel_rfl
theorem gFields : Tryz.prog.globalNamed "bole/boleref19.fields" = some 2 := by kernel_rfl
theorem tHalf : (Tryz.prog.globals[5]?).map (·.type) = some 234 := by kernel_rfl
theorem tWidths : (Tryz.prog.globals[4]?).map (·.type) = some 226 := by kernel_rfl
theorem tKinds : (Tryz.prog.globals[0]?).map (·.type) = some 55 := by kernel_rfl
theorem tWords : (Tryz.prog.globals[1]?).map (·.type) = some 59 := by kernel_rfl
theorem tFields : (Tryz.prog.globals[2]?).map (·.type) = some 60 := by kernel_rfl
theorem tTab : (Tryz.prog.globals[3]?).map (·.type) = some 223 := by kernel_rfl
theorem cU32 : Tryz.prog.cellsOf 76 = 1 := by kernel_rfl
theorem cU64 : Tryz.prog.cellsOf 146 = 1 := by kernel_rfl
theorem cInt : Tryz.prog.cellsOf 3 = 1 := by kernel_rfl
theorem cBool : Tryz.prog.cellsOf 4 = 1 := by kernel_rfl
theorem cStr : Tryz.prog.cellsOf 9 = 1 := by kernel_rfl
theorem cKind : Tryz.prog.cellsOf 54 = 4 := by kernel_rfl
theorem cHalf : Tryz.prog.cellsOf 234 = 16 := by kernel_rfl
theorem cTab : Tryz.prog.cellsOf 223 = 20 := by kernel_rfl
theorem cFields : Tryz.prog.cellsOf 60 = 19 := by kernel_rfl
/-- The list of the statement. -/
abbrev laid8 : List (String × DataW Unit) := [("math/bits.deBruijn32tab", Rows.laid_math_bits_deBruijn32tab), ("math/bits.deBruijn64tab", Rows.laid_math_bits_deBruijn64tab), ("internal/strconv.uint64pow10", Rows.laid_internal_strconv_uint64pow10), ("bole/boleref19.words", Rows.laid_bole_boleref19_words), ("bole/boleref19.fields", Rows.laid_bole_boleref19_fields), ("bole/rec.widths", Rows.laid_bole_rec_widths), ("bole/sum.half", Rows.laid_bole_sum_half), ("bole/check.kinds", Rows.laid_bole_check_kinds)]
section
variable {H : Type} {enc : TypeId × Value → H} {P : Program} {w : World} {base : Nat} {sp : Nat → Bool} {held : Bool} {fuel : Nat}
theorem one_of {cs : List Value} {i : Nat} {v : Value} (h : (cs.drop (i * 1)).take 1 = [v]) : cs[i]? = some v := by
  have := congrArg (·[0]?) h
  simpa [List.getElem?_take, List.getElem?_drop] using this
theorem at_of {ds : List (DataW H)} {xs : List (DataW H × List MemPlace)} {i : Nat} {d : DataW H} (h : xs.map (·.1) = ds) (hd : ds[i]? = some d) : ∃ p, xs[i]? = some (d, p) := by
  rw [← h, List.getElem?_map] at hd
  obtain ⟨x, hx, rfl⟩ := Option.map_eq_some_iff.1 hd
  exact ⟨x.2, hx⟩
/-- An array of bools that reads as a list holds the list. -/
theorem cells_of_bools {t e : TypeId} {n : Nat} {cs : List Value} {ds : List (DataW H)} {p : List MemPlace} (ht : P.underlying t = some (.array n e)) (he : P.underlying e = some .bool) (hce : P.cellsOf e = 1)
    (h : DataW.trod enc P w base sp held fuel t cs = some (.agg ds, p)) (i : Nat) (z : Bool) (hz : ds[i]? = some (.lit (.bool z))) : cs[i]? = some (Value.bool z) := by
  obtain ⟨xs, m, _, hx, _, hl, hf⟩ := DataW.trod_array ht h
  simp only [Prod.mk.injEq, DataW.agg.injEq] at hx
  obtain ⟨q, hq⟩ := at_of hx.1.symm hz
  have hi := hf i (by have := (List.getElem?_eq_some_iff.1 hq).1; omega)
  rw [hq, hce] at hi
  obtain ⟨z', hc, hx2⟩ := DataW.trod_bool he hi
  simp only [Prod.mk.injEq, DataW.lit.injEq, Lit.bool.injEq] at hx2
  rw [← hx2.1] at hc
  exact one_of hc
/-- An array of texts that reads as a list holds the list. -/
theorem cells_of_strs {t e : TypeId} {n : Nat} {cs : List Value} {ds : List (DataW H)} {p : List MemPlace} (ht : P.underlying t = some (.array n e)) (he : P.underlying e = some .string) (hce : P.cellsOf e = 1)
    (h : DataW.trod enc P w base sp held fuel t cs = some (.agg ds, p)) (i : Nat) (z : List UInt8) (hz : ds[i]? = some (.lit (.string z))) : cs[i]? = some (Value.string (mk z)) := by
  obtain ⟨xs, m, _, hx, _, hl, hf⟩ := DataW.trod_array ht h
  simp only [Prod.mk.injEq, DataW.agg.injEq] at hx
  obtain ⟨q, hq⟩ := at_of hx.1.symm hz
  have hi := hf i (by have := (List.getElem?_eq_some_iff.1 hq).1; omega)
  rw [hq, hce] at hi
  obtain ⟨s, hc, hx2, _⟩ := DataW.trod_string he hi
  simp only [Prod.mk.injEq, DataW.lit.injEq, Lit.string.injEq] at hx2
  rw [hx2.1]
  exact one_of hc
end
theorem tabs_of {W : World} (h : laidMet Tryz.prog laid8 W) : Ck.CVars W ∧ Ck.RVars W := by
  have h2 := h.tail.tail
  have h3 := h2.tail
  have h4 := h3.tail
  have h5 := h4.tail
  have h6 := h5.tail
  have h7 := h6.tail
  have hw : ∀ (i : Nat) (z : Bool), ([false, true, true, false, true, false, false, false, true] : List Bool)[i]? = some z → W.cell? ⟨4, i, none⟩ = some (.bool z) := by
    intro i z hz
    obtain ⟨ps, ⟨g', t', cs, fuel, p, q, hg', ht', hvar, hd, _, _⟩, _⟩ := h5
    obtain rfl := Option.some.inj (gWidths.symm.trans hg')
    obtain rfl := Option.some.inj (tWidths.symm.trans ht')
    have := cells_of_bools Tryz.underlying226 Tryz.underlying4 cBool (ds := ([false, true, true, false, true, false, false, false, true] : List Bool).map fun z => DataW.lit (Lit.bool z)) hd i z (by rw [List.getElem?_map, hz]; rfl)
    rw [World.var?_cell gWidths hvar i]
    simpa using this
  have ht : Lib.TabIs Tryz.prog W "bole/sum.half" .u32 (Pk.half.map fun n : Nat => (n : Int)) := by
    have h2 := h6
    rw [show Rows.laid_bole_sum_half = Lib.tabData .u32 (Pk.half.map fun n : Nat => (n : Int)) by kernel_rfl] at h2
    exact Lib.tabIs_of_head gHalf tHalf Tryz.underlying234 Tryz.underlying76 cU32 cHalf h2
  have hh : ∀ k, k < 16 → W.cell? ⟨5, k, none⟩ = some (.int .u32 (Pk.half.getD k 0 : Nat)) := by
    intro k hk
    have hl : Pk.half.length = 16 := rfl
    rw [ht.cell gHalf k (by rw [List.length_map, hl]; exact hk)]
    rw [List.getD_eq_getElem?_getD, List.getD_eq_getElem?_getD, List.getElem?_map, List.getElem?_eq_getElem (by omega)]
    rfl
  have hfl : Lib.TabIs Tryz.prog W "bole/boleref19.fields" .i64 (Ck.fieldsP.map fun n : Nat => (n : Int)) := by
    have h2 := h4
    rw [show Rows.laid_bole_boleref19_fields = Lib.tabData .i64 (Ck.fieldsP.map fun n : Nat => (n : Int)) by kernel_rfl] at h2
    exact Lib.tabIs_of_head gFields tFields Tryz.underlying60 Tryz.underlying3 cInt cFields h2
  have hf : ∀ k, k < 19 → W.cell? ⟨2, k, none⟩ = some (.int .i64 (Ck.fieldP k : Nat)) := by
    intro k hk
    have hl : Ck.fieldsP.length = 19 := rfl
    rw [hfl.cell gFields k (by rw [List.length_map, hl]; exact hk)]
    unfold Ck.fieldP
    rw [List.getD_eq_getElem?_getD, List.getD_eq_getElem?_getD, List.getElem?_map, List.getElem?_eq_getElem (by omega)]
    rfl
  have hwd : ∀ k, 1 ≤ k → k < 19 → W.cell? ⟨1, k, none⟩ = some (.string (mk (Ck.kindP k).1)) := by
    intro k hk1 hk
    obtain ⟨ps, ⟨g', t', cs, fuel, p, q, hg', ht', hvar, hd, _, _⟩, _⟩ := h3
    obtain rfl := Option.some.inj (gWords.symm.trans hg')
    obtain rfl := Option.some.inj (tWords.symm.trans ht')
    have hds : Rows.laid_bole_boleref19_words (H := Unit) = .agg ([63] :: (Ck.kindsP.drop 1).map (·.1) |>.map fun z => DataW.lit (Lit.string z)) := by kernel_rfl
    rw [hds] at hd
    have hl : Ck.kindsP.length = 19 := rfl
    have := cells_of_strs Tryz.underlying59 Tryz.underlying9 cStr hd k (Ck.kindP k).1 (by
      rw [List.getElem?_map, List.getElem?_cons, if_neg (by omega), List.getElem?_map, List.getElem?_drop, show 1 + (k - 1) = k by omega, List.getElem?_eq_getElem (by omega)]
      unfold Ck.kindP
      rw [List.getD_eq_getElem?_getD, List.getElem?_eq_getElem (by omega)]
      rfl)
    rw [World.var?_cell gWords hvar k]
    simpa using this
  have hkd : ∀ k c, Ck.kindsP[k]? = some c → W.cell? ⟨0, k * 4, none⟩ = some (.string (mk c.1)) ∧ W.cell? ⟨0, k * 4 + 1, none⟩ = some (.bool c.2.1) ∧ W.cell? ⟨0, k * 4 + 2, none⟩ = some (.bool c.2.2.1) ∧ W.cell? ⟨0, k * 4 + 3, none⟩ = some (.bool c.2.2.2) := by
    intro k c hk
    obtain ⟨ps, ⟨g', t', cs, fuel, p, q, hg', ht', hvar, hd, _, _⟩, _⟩ := h7
    obtain rfl := Option.some.inj (gKinds.symm.trans hg')
    obtain rfl := Option.some.inj (tKinds.symm.trans ht')
    have hds : Rows.laid_bole_check_kinds (H := Unit) = .agg (Ck.kindsP.map fun c => DataW.agg [.lit (.string c.1), .lit (.bool c.2.1), .lit (.bool c.2.2.1), .lit (.bool c.2.2.2)]) := by kernel_rfl
    rw [hds] at hd
    obtain ⟨xs, m, _, hx, _, hl, hf⟩ := DataW.trod_array Tryz.underlying55 hd
    simp only [Prod.mk.injEq, DataW.agg.injEq] at hx
    obtain ⟨q, hq⟩ := at_of hx.1.symm (show _ = some (DataW.agg [.lit (.string c.1), .lit (.bool c.2.1), .lit (.bool c.2.2.1), .lit (.bool c.2.2.2)]) by rw [List.getElem?_map, hk]; rfl)
    have hi := hf k (by have := (List.getElem?_eq_some_iff.1 hq).1; omega)
    rw [hq, cKind] at hi
    obtain ⟨y0, y1, y2, y3, n, e0, _, f0, f1, f2, f3⟩ := Joins.trod_struct4 Tryz.underlying54 hi
    simp only [Prod.mk.injEq, DataW.agg.injEq, List.cons.injEq, and_true] at e0
    obtain ⟨⟨a0, a1, a2, a3⟩, _⟩ := e0
    dsimp only at f0 f1 f2 f3
    rw [cStr] at f0
    rw [cBool] at f1 f2 f3
    obtain ⟨s0, g0, x0, _⟩ := DataW.trod_string Tryz.underlying9 f0
    obtain ⟨b1, g1, x1⟩ := DataW.trod_bool Tryz.underlying4 f1
    obtain ⟨b2, g2, x2⟩ := DataW.trod_bool Tryz.underlying4 f2
    obtain ⟨b3, g3, x3⟩ := DataW.trod_bool Tryz.underlying4 f3
    rw [x0] at a0
    rw [x1] at a1
    rw [x2] at a2
    rw [x3] at a3
    simp only [DataW.lit.injEq, Lit.string.injEq, Lit.bool.injEq] at a0 a1 a2 a3
    have hat : ∀ (j : Nat) (v : Value), j < 4 → ((List.take 4 (List.drop (k * 4) cs.toList)).drop j).take 1 = [v] → W.cell? ⟨0, k * 4 + j, none⟩ = some v := by
      intro j v hj he
      have := congrArg (·[0]?) he
      rw [World.var?_cell gKinds hvar (k * 4 + j)]
      simp only [List.getElem?_take, List.getElem?_drop, Nat.zero_lt_one, if_true, Nat.add_zero, List.getElem?_cons_zero, hj] at this
      simpa using this
    have r0 : mk c.1 = s0 := by rw [a0]; rfl
    rw [r0, a1, a2, a3]
    exact ⟨hat 0 _ (by omega) g0, hat 1 _ (by omega) g1, hat 2 _ (by omega) g2, hat 3 _ (by omega) g3⟩
  have htb : Lib.TabIs Tryz.prog W "internal/strconv.uint64pow10" .u64 Lib.pow10Tab := by
    exact Lib.tabIs_of_head (k := .u64) (zs := Lib.pow10Tab) Ck.gTab tTab Tryz.underlying223 Tryz.underlying146 cU64 cTab h2
  have kv : Ck.KVars W := ⟨hh, hw 1 true rfl, hw 2 true rfl, hw 4 true rfl, World.block_lt_of_cell? _ _ (hh 0 (by decide)), World.block_lt_of_cell? _ _ (hw 1 true rfl)⟩
  exact ⟨⟨kv, htb, hkd, World.block_lt_of_cell? _ _ (hkd 0 _ rfl).1, World.block_lt_of_cell? _ _ (htb.cell Ck.gTab 0 (by decide))⟩, ⟨hwd, hf, World.block_lt_of_cell? _ _ (hwd 1 (by decide) (by decide)), World.block_lt_of_cell? _ _ (hf 0 (by decide))⟩⟩
noncomputable def world (os : Os) : World := World.laidAll Tryz.prog os laid8
theorem world_met (os : Os) (args : Array Value) : laidMet Tryz.prog laid8 ((world os).forCall (fun _ _ => 0) ⟨#[], args, []⟩).memory := laidMet_laidAll _ (by kernel_rfl) (by kernel_rfl)
end Cv
end Go.Proofs.YtegplehbcdeeoaaGreatDoor
