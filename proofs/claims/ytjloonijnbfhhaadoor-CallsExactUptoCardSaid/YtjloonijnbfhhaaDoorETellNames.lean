/- The walk of tellNames: how the program tells a row of names. -/
import Derived.Test.YtjloonijnbfhhaaDoorETell
namespace Go.Proofs.YtjloonijnbfhhaaDoor
open Go.RowKit Go.Maps Go.WideShapes

namespace Tw
open Qw Rw
/-- The names told so far. -/
def namesK (nm : List (List UInt8)) (k : Nat) : List UInt8 := Lib.itoa nm.length ++ (nm.take k).flatMap fun x => 10 :: Cl.quote x
theorem namesK_succ {nm : List (List UInt8)} {k : Nat} {x : List UInt8} (h : nm[k]? = some x) : namesK nm (k + 1) = namesK nm k ++ 10 :: Cl.quote x := by
  obtain ⟨hk, he⟩ := List.getElem?_eq_some_iff.1 h
  unfold namesK
  rw [List.take_succ_eq_append_getElem hk, List.flatMap_append, he]
  simp
theorem namesK_all (nm : List (List UInt8)) : namesK nm nm.length = namesT nm := by unfold namesK namesT; rw [List.take_length]
/-- Few names, and short ones. -/
def NFits (nm : List (List UInt8)) : Prop := nm.length ≤ 2000000 ∧ ∀ x ∈ nm, x.length ≤ 2000000
theorem namesK_len (nm : List (List UInt8)) (k : Nat) (h : NFits nm) : (namesK nm k).length ≤ 100 + 8000003 * nm.length := by
  have key : ∀ l : List (List UInt8), (∀ x ∈ l, x.length ≤ 2000000) → (l.flatMap fun x => 10 :: Cl.quote x).length ≤ 8000003 * l.length := by
    intro l
    induction l with
    | nil => simp
    | cons x l ih =>
      intro hx
      have := ih (fun y hy => hx y (by simp [hy]))
      have h2 := Cl.quote_len x
      have h3 := hx x (by simp)
      simp only [List.flatMap_cons, List.length_append, List.length_cons]
      omega
  have h1 := key (nm.take k) (fun x hx => h.2 x (List.mem_of_mem_take hx))
  have h2 : (nm.take k).length ≤ nm.length := by rw [List.length_take]; omega
  have h3 : (Lib.itoa (nm.length : Int)).length ≤ 100 := itoa_le ⟨by omega, by have := h.1; omega⟩
  unfold namesK
  rw [List.length_append]
  omega
theorem nums_one (n : Int) : nums [n] = Lib.itoa n := by unfold nums; rw [List.map_cons, List.map_nil, Lib.join_one]
theorem line10 (a b : List UInt8) : mk (a ++ 10 :: b) = mk a ++ (⟨#[10]⟩ ++ mk b) := by
  show _ = mk a ++ (mk [10] ++ mk b)
  rw [← mk_app, ← mk_app]
  simp
set_option maxRecDepth 100000 in
set_option maxHeartbeats 2000000 in
theorem tellNames_any (a : PAns) (ao : Option Addr) (ca : Nat) (nm : List (List UInt8)) (w : World) (hN : NamesAt w ao nm) (hF : NFits nm) (hv : Vars w) : Calls Tryd.prog 61 #[.agg #[.int .i64 0, .int .i64 a.N, .string (mk a.data), .int .i64 a.i, .int .i64 a.k, .int .i64 a.l, .int .i64 a.z, .int .i64 a.b, .slice ao nm.length ca, .int .i64 a.f1, .int .i64 a.f2, .int .i64 a.f3, .int .i64 a.f4]] w fun e w' => e = .returned (.string (mk (namesT nm))) ∧ Below w.heap.size w w' := by
  have HF := Lib.hid hF
  have HN := Lib.hid hN
  have hl := hF.1
  go_enter Tryd.func61, Tryd.ntmps61
  go_wp2_with (go_at_call 80; refine (numbers_any [(nm.length : Int)] (w.heap.size + 1) _ (by simp) (by simp) (by intro n hn; rw [List.mem_singleton.1 hn]; exact ⟨by omega, by omega⟩) (by simp) (by have := ints_at (w.alloc (.cells #[.int .i64 0, .int .i64 a.N, .string (mk a.data), .int .i64 a.i, .int .i64 a.k, .int .i64 a.l, .int .i64 a.z, .int .i64 a.b, .slice ao nm.length ca, .int .i64 a.f1, .int .i64 a.f2, .int .i64 a.f3, .int .i64 a.f4] 31)) [(nm.length : Int)] #[.int .i64 nm.length] 3 rfl; rw [World.size_alloc] at this; exact this) (hv.below (((Below.refl _ _).alloc (Nat.le_refl _) _).alloc (by simp) _) hv.lt)).mono ?_; rintro e w1 ⟨rfl, hb1⟩; have hA : w1.heap[w.heap.size]? = some (.cells #[.int .i64 0, .int .i64 a.N, .string (mk a.data), .int .i64 a.i, .int .i64 a.k, .int .i64 a.l, .int .i64 a.z, .int .i64 a.b, .slice ao nm.length ca, .int .i64 a.f1, .int .i64 a.f2, .int .i64 a.f3, .int .i64 a.f4] 31 (0, 0)) := (hb1.block _ (by rw [World.size_alloc, World.size_alloc]; omega)).trans ((heap_alloc_old _ _ (by simp)).trans (heap_alloc_new _ _)); have a8 : w1.cell? ⟨w.heap.size, 8, none⟩ = some (.slice ao nm.length ca) := (by simp [World.cell?, hA]))
  have hbw := below_over (below_over hb1)
  have hsw := hbw.size
  rw [nums_one]
  clear hA a8
  go_loopg [3, 14] nm.length (fun g s3 s14 wx => ∃ k : Nat, k + g = nm.length ∧ s14 = .int .i64 k ∧ s3 = .string (mk (namesK nm k)) ∧ Below w.heap.size w wx)
  case atStart => exact ⟨0, by omega, rfl, by simp [namesK], hbw⟩
  case round =>
    obtain ⟨k, hkg, rfl, rfl, hnx⟩ := hrel
    have hsz := hnx.size
    by_cases hlt : k < nm.length
    · have hlti : (k : Int) < (nm.length : Int) := by omega
      obtain ⟨x, hx⟩ : ∃ x, nm[k]? = some x := ⟨_, List.getElem?_eq_getElem hlt⟩
      obtain ⟨g, o, hao, hg, hcx⟩ := HN.out k x hx
      subst hao
      have v0 : wr.cell? ⟨g, o + k, none⟩ = some (.string (mk x)) := (hnx.cell (p := ⟨g, o + k, none⟩) hg).trans hcx
      have hxs : (mk x).size ≤ 1000000000000 := by rw [mk_size]; have := HF.out.2 x (List.mem_of_getElem? hx); omega
      have hq : (mk (Cl.quote x)).size ≤ 8000002 := by rw [mk_size]; have := HF.out.2 x (List.mem_of_getElem? hx); have := Cl.quote_len x; omega
      have hK : (mk (namesK nm k)).size ≤ 20000000000000 := by rw [mk_size]; have := namesK_len nm k HF.out; omega
      have z1 : ¬ 9223372036854775807 < 1 + (mk (Cl.quote x)).size := by omega
      have z2 : ¬ 9223372036854775807 < (mk (namesK nm k)).size + (1 + (mk (Cl.quote x)).size) := by omega
      have HS := Lib.hid (namesK_succ hx)
      clear hx hcx hF hN
      go_wp2_with (go_at_call 11; refine (quote_any (mk x) _ hxs).mono ?_; rintro e w2 ⟨rfl, hb2⟩)
      go_roundg (nm.length - (k + 1))
      case measure => omega
      case rel =>
        refine ⟨k + 1, by omega, by go_num, ?_, hnx.trans (hb2.mono hsz)⟩
        rw [HS.out, line10]
        rfl
    · obtain rfl : k = nm.length := by omega
      go_wp2
      go_ret
      rw [namesK_all]
      exact ⟨rfl, hnx⟩
end Tw
end Go.Proofs.YtjloonijnbfhhaaDoor
