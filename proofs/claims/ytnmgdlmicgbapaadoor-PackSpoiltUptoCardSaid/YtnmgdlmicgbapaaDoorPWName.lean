/- The walks of what a name may be, the program's: does, ContainsAny, Name. -/
import Derived.Test.YtnmgdlmicgbapaaDoorPWCmp
import Derived.Test.YtnmgdlmicgbapaaDoorMapMore
namespace Go.Proofs.YtnmgdlmicgbapaaDoor
open Go.RowKit Go.Maps

namespace Pw
open Pk
/-- The map's making. -/
theorem wpList_makeMap_to {P : Program} (W : World) {ops : Array Oper} {rest : List Oper} {o : Oper} {a : Act} {Q : Exit → Act → World → Prop} (hg : o.guard = none) (t : TypeId) (hop : o.op = Op.makeMap t none) (Φ : World → Prop) (hΦ : Φ (W.alloc (.map #[] 0)))
    (h : ∀ w1, Φ w1 → wpList P ops Q rest (a.put o.dst (.map (some W.heap.size))) w1) : wpList P ops Q (o :: rest) a W := by
  refine wpList_plain hg fun K' hK' => ?_
  unfold Oper.wp
  simp [execOp, hop, run_makeMap, Result.andThen]
  exact hK' _ _ (h _ hΦ)
theorem keyOf_text {P : Program} {k : TypeId} (hk : P.underlying k = some .string) (l : List UInt8) (hl : l.length ≤ maxLen) : keyOf P k (.string (mk l)) = some (.string l) := by
  have : (mk l).size ≤ maxLen := hl
  simp [keyOf, hk, mapKey, mk] at this ⊢
  exact this
theorem kl (l : List UInt8) : WideAt.IsKeyLit (.string l) := trivial
theorem zeroDo (w : World) : (zeroValue 70).run Tryd.prog w = .ok .nilFunc w := by kernel_rfl
/-- The map of the dots. -/
abbrev doD : DataW Value := ((DataW.map []).put (.string [46]) (.held (.func (.func 45) #[] #[]))).put (.string [46, 46]) (.held (.func (.func 46) #[] #[]))
/-- What the map of the dots has for a text. -/
def dotsV (l : List UInt8) : Value := if l = [46, 46] then .func (.func 46) #[] #[] else if l = [46] then .func (.func 45) #[] #[] else .nilFunc
def dotsB (l : List UInt8) : Bool := decide (l = [46] ∨ l = [46, 46])
theorem doD_at (l : List UInt8) : doD.atKey (.string l) (.held .nilFunc) = .held (dotsV l) ∧ Maps.has doD (.string l) = dotsB l := by
  have i0 : IsMap (DataW.map (H := Value) []) := isMap_empty
  have i1 : IsMap ((DataW.map (H := Value) []).put (.string [46]) (.held (.func (.func 45) #[] #[])))   := i0.put _ _
  by_cases h2 : l = [46, 46]
  · subst h2
    exact ⟨atKey_put_same i1 (kl _) _ _, has_put_same i1 (kl _) _⟩
  · have n2 : (Lit.string l) ≠ Lit.string [46, 46] := fun e => h2 (by injection e)
    by_cases h1 : l = [46]
    · subst h1
      exact ⟨(atKey_put_other n2 _ _).trans (atKey_put_same i0 (kl _) _ _), (has_put_other n2 _).trans (has_put_same i0 (kl _) _)⟩
    · have n1 : (Lit.string l) ≠ Lit.string [46] := fun e => h1 (by injection e)
      refine ⟨(atKey_put_other n2 _ _).trans ((atKey_put_other n1 _ _).trans ?_), (has_put_other n2 _).trans ((has_put_other n1 _).trans ?_)⟩
      · unfold dotsV; rw [if_neg h2, if_neg h1]; rfl
      · unfold dotsB; rw [decide_eq_false (by simp [h1, h2])]; rfl
set_option maxRecDepth 100000 in
theorem does_any (l : List UInt8) (w : World) (hl : l.length ≤ maxLen) : Calls Tryd.prog 35 #[.string (mk l)] w fun e w' => e = .returned (.tuple #[dotsV l, .bool (dotsB l)]) ∧ Below w.heap.size w w' := by
  obtain ⟨ha, hb⟩ := doD_at l
  have HA := Lib.hid ha
  have HB := Lib.hid hb
  clear ha hb
  go_enter Tryd.func35, Tryd.ntmps35
  go_wp2_with (first
    | (refine wpList_makeMap_to _ rfl 89 rfl (fun W => W.ownsMap Tryd.prog 9 rawElem w.heap.size 0 (.map []) ∧ Below w.heap.size w W) ⟨ownsMap_last _ _ _ _ _ rfl, (Below.refl _ _).alloc (Nat.le_refl _) _⟩ ?_; rintro w0 ⟨hm0, hb0⟩)
    | (refine wpList_lookup_raw_ok _ rfl _ _ 89 rfl 9 70 (string_keyed Tryd.underlying9) Tryd.underlying89 .nilFunc (zeroDo _) w.heap.size 2 doD rfl hm2 _ (.string l) rfl (keyOf_text Tryd.underlying9 l hl) (dotsV l) HA.out (dotsB l) HB.out ?_)
    | (refine wpList_insert_own _ rfl _ _ _ 89 rfl 9 70 (string_keyed Tryd.underlying9) Tryd.underlying89 rawElem w.heap.size 1 _ rfl hm1 (by decide) _ _ (.string [46, 46]) rfl rfl (keyOf_text Tryd.underlying9 [46, 46] (by decide)) (.held (.func (.func 46) #[] #[])) [] rfl ?_; intro w2 hm2 hg2; have hb2 := hb1.grown hg2 hb1.size (fun k e => by cases e; exact Nat.le_refl _))
    | (refine wpList_insert_own _ rfl _ _ _ 89 rfl 9 70 (string_keyed Tryd.underlying9) Tryd.underlying89 rawElem w.heap.size 0 _ rfl hm0 (by decide) _ _ (.string [46]) rfl rfl (keyOf_text Tryd.underlying9 [46] (by decide)) (.held (.func (.func 45) #[] #[])) [] rfl ?_; intro w1 hm1 hg1; have hb1 := hb0.grown hg1 hb0.size (fun k e => by cases e; exact Nat.le_refl _)))
  go_ret2
  exact ⟨rfl, hb2⟩
end Pw
end Go.Proofs.YtnmgdlmicgbapaaDoor
