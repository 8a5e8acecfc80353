/- The law of a row of names appended to an empty row of the call's own. -/
import Derived.Test.YtjloonijnbfhhaaDoorEExactLaw
namespace Go.Proofs.YtjloonijnbfhhaaDoor
open Go.RowKit

namespace Ex
open Qw Rw Tw
theorem wpList_append_names (w : World) {ops : Array Oper} {rest : List Oper} {o : Oper} {a : Act} {Q : Exit → Act → World → Prop} (hgd : o.guard = none) (s x : Operand)
    (ho : o.op = .call { callee := .builtin .append, args := #[s, x], argTypes := #[27, 27] }) (base g : Nat) (hs : a.eval s = .slice (some ⟨g, 0, none⟩) 0 0) (hg : w.heap[g]? = some (.cells #[] 9 (0, 0))) (hb : base ≤ g) (hbase : base ≤ w.heap.size)
    (nm : List (List UInt8)) (ao : Option Addr) (ca : Nat) (hx : a.eval x = .slice ao nm.length ca) (hN : NamesAt w ao nm) (hF : nm.length ≤ 2000000)
    (h : ∀ v' w', w'.ownsRow base 9 1 v' (strsV nm).length (strsV nm) → w.grownBy w' (some g) → wpList Tryd.prog ops Q rest (a.put o.dst v') w') : wpList Tryd.prog ops Q (o :: rest) a w := by
  obtain ⟨i, hi, hz, hz1, hz2⟩ := info_parts strT.info
  have hown : w.ownsRow base 9 1 (.slice (some ⟨g, 0, none⟩) 0 0) 0 [] := ⟨rfl, .inr ⟨g, 0, #[], rfl, hb, hg, Nat.le_refl _, by unfold maxLen; omega, rfl, rfl⟩⟩
  by_cases hnm : nm = []
  · subst hnm
    refine wpList_plain hgd fun K hK => ?_
    have hsrc : Src Tryd.prog i.size 27 (.slice ao 0 ca) 0 [] w := by
      cases ao with
      | none => exact Src.ofNil w strT.und ca
      | some ad => exact Src.ofSlice w strT.und ad 0 ca [] (by simp) (fun _ _ h => by cases h) (fun _ h => by cases h)
    have hr := run_append_nothing (P := Tryd.prog) w 27 27 o.type 9 i strT.und hi (some ⟨g, 0, none⟩) 0 0 (Nat.le_refl _) _ hsrc
    have hx' : a.eval x = .slice ao 0 ca := hx
    unfold Oper.wp execOp
    simp only [ho, resolve, invoke, builtin, Sem.run_bind, Sem.run_pure, Result.andThen_ok, List.map_toArray, List.map_cons, List.map_nil, hs, hx', hr]
    exact hK _ _ (h _ _ hown ⟨rfl, rfl, rfl, Nat.le_refl _, fun _ _ _ => rfl⟩)
  · obtain ⟨x0, r, rfl⟩ := List.exists_cons_of_ne_nil hnm
    obtain ⟨gn, off, rfl, _, _⟩ := hN 0 x0 rfl
    refine wpList_append_own_at w hgd s x _ ho base 9 i (.string ByteArray.empty) 1 16 strT.und hi hz hz1 hz2 strT.one (by decide) _ 0 [] hs hown ⟨gn, off, none⟩ _ ca (strsV (x0 :: r)) hx (by rw [strsV_len, Nat.mul_one]) ?_ ?_ (by unfold maxLen; omega) (by omega) hbase ?_
    · intro j u hu
      rw [Addr.add_lit]
      simp only [strsV, List.getElem?_map, Option.map_eq_some_iff] at hu
      obtain ⟨t, ht, rfl⟩ := hu
      obtain ⟨g2, o2, e, _, h3⟩ := hN j t ht
      cases e
      exact h3
    · intro u hu
      simp only [strsV, List.mem_map] at hu
      obtain ⟨t, _, rfl⟩ := hu
      rfl
    · intro v' w' h1 h2 _ _
      refine h v' w' ?_ h2
      rw [strsV_len]
      have e : 0 + (x0 :: r).length = (x0 :: r).length := Nat.zero_add _
      rw [e] at h1
      exact h1
end Ex
end Go.Proofs.YtjloonijnbfhhaaDoor
