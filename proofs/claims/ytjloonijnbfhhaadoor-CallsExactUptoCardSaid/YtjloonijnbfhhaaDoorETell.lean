/- The walk of the program's Tell of a good answer. -/
import Derived.Test.YtjloonijnbfhhaaDoorETellNum
namespace Go.Proofs.YtjloonijnbfhhaaDoor
open Go.RowKit Go.Maps Go.WideShapes

namespace Tw
open Qw Rw
/-- An answer's plain fields. -/
structure PAns where
  N : Int
  data : List UInt8
  i : Int
  k : Int
  l : Int
  z : Int
  b : Int
  f1 : Int
  f2 : Int
  f3 : Int
  f4 : Int
structure AFits (a : PAns) : Prop where
  N : Cl.inRange a.N
  data : a.data.length ≤ 100000000000
  st : ∀ n ∈ [a.i, a.k, a.l, a.z, a.b], Cl.inRange n
  rm : ∀ n ∈ [a.f1, a.f2, a.f3, a.f4], Cl.inRange n
/-- A row of texts, where it lies. -/
def NamesAt (w : World) (ao : Option Addr) (nm : List (List UInt8)) : Prop := ∀ j x, nm[j]? = some x → ∃ g o, ao = some ⟨g, o, none⟩ ∧ g < w.heap.size ∧ w.cell? ⟨g, o + j, none⟩ = some (.string (mk x))
theorem NamesAt.below {w w' : World} {ao : Option Addr} {nm : List (List UInt8)} (h : NamesAt w ao nm) {B : Nat} (hb : Below B w w') (hB : w.heap.size ≤ B) : NamesAt w' ao nm := by
  intro j x hx
  obtain ⟨g, o, h1, h2, h3⟩ := h j x hx
  have hb' := hb.mono (Nat.le_refl _)
  exact ⟨g, o, h1, by have := hb.size; omega, (hb.cell (p := ⟨g, o + j, none⟩) (by show g < B; omega)).trans h3⟩
/-- How names are told. -/
def namesT (nm : List (List UInt8)) : List UInt8 := Lib.itoa nm.length ++ nm.flatMap fun x => 10 :: Cl.quote x
theorem heap_third (w : World) (a b c : Obj) : (((w.alloc a).alloc b).alloc c).heap[w.heap.size + 1 + 1]? = some c := by
  have := heap_second (w.alloc a) b c
  rwa [World.size_alloc] at this
theorem rows_behind2 {w W w' : World} {D : DataW Value} {o1 o2 : Obj} (hT : Tab W.heap.size W w' 15 D) (hb : Below w.heap.size w W) (h1 : W.heap[w.heap.size]? = some o1) (h2 : W.heap[w.heap.size + 1]? = some o2) (hs : w.heap.size + 1 < W.heap.size) :
    w.heap.size + 1 + 1 < w'.heap.size ∧ w.heap.size + 1 < w'.heap.size ∧ w.heap.size < w'.heap.size ∧ Below w.heap.size w w' ∧ w'.heap[w.heap.size]? = some o1 ∧ w'.heap[w.heap.size + 1]? = some o2 := by
  have := hT.lt
  exact ⟨by omega, by omega, by omega, hb.trans (hT.below.mono (by omega)), (hT.below.block _ (by omega)).trans h1, (hT.below.block _ hs).trans h2⟩
theorem tellF_six {n f : Nat} (h : tellF[n]? = some f) : f = 57 ∨ f = 58 ∨ f = 59 ∨ f = 60 ∨ f = 61 ∨ f = 62 := by
  have := List.mem_of_getElem? h
  simp only [tellF, List.mem_cons, List.not_mem_nil, or_false] at this
  omega
theorem ints_at (W : World) (vs : List Int) (cs : Array Value) (t : TypeId) (hc : cs.toList = vs.map fun n => Value.int .i64 n) : ∀ j n, vs[j]? = some n → (W.alloc (.cells cs t)).cell? ⟨W.heap.size, j, none⟩ = some (.int .i64 n) := by
  intro j n hj
  have e : cs[j]? = some (.int .i64 n) := by rw [← Array.getElem?_toList, hc, List.getElem?_map, hj]; rfl
  have h := heap_alloc_new W (.cells cs t)
  have : (W.alloc (.cells cs t)).cell? ⟨W.heap.size, j, none⟩ = cs[j]? := by
    simp only [World.cell?, h]; rfl
  rw [this, e]

set_option maxRecDepth 100000 in
set_option maxHeartbeats 2000000 in
theorem tellN_any (a : PAns) (ao' : Option Addr) (na ca : Nat) (w : World) (hf : AFits a) (hv : Vars w) : Calls Tryd.prog 57 #[.agg #[.int .i64 0, .int .i64 a.N, .string (mk a.data), .int .i64 a.i, .int .i64 a.k, .int .i64 a.l, .int .i64 a.z, .int .i64 a.b, .slice ao' na ca, .int .i64 a.f1, .int .i64 a.f2, .int .i64 a.f3, .int .i64 a.f4]] w fun e w' => e = .returned (.string (mk (nums [a.N]))) ∧ Below w.heap.size w w' := by
  go_enter Tryd.func57, Tryd.ntmps57
  go_wp2_with (go_at_call 80; refine (numbers_any [a.N] (w.heap.size + 1) _ (by simp) (by simp) (by intro n hn; rw [List.mem_singleton.1 hn]; exact hf.N) (by simp) (by have := ints_at (w.alloc (.cells #[.int .i64 0, .int .i64 a.N, .string (mk a.data), .int .i64 a.i, .int .i64 a.k, .int .i64 a.l, .int .i64 a.z, .int .i64 a.b, .slice ao' na ca, .int .i64 a.f1, .int .i64 a.f2, .int .i64 a.f3, .int .i64 a.f4] 31)) [a.N] #[.int .i64 a.N] 3 rfl; rw [World.size_alloc] at this; exact this) (hv.below (((Below.refl _ _).alloc (Nat.le_refl _) _).alloc (by simp) _) hv.lt)).mono ?_; rintro e w1 ⟨rfl, hb1⟩)
  go_ret
  exact ⟨rfl, below_over (below_over hb1)⟩

set_option maxRecDepth 100000 in
set_option maxHeartbeats 2000000 in
theorem tellStat_any (a : PAns) (ao' : Option Addr) (na ca : Nat) (w : World) (hf : AFits a) (hv : Vars w) : Calls Tryd.prog 60 #[.agg #[.int .i64 0, .int .i64 a.N, .string (mk a.data), .int .i64 a.i, .int .i64 a.k, .int .i64 a.l, .int .i64 a.z, .int .i64 a.b, .slice ao' na ca, .int .i64 a.f1, .int .i64 a.f2, .int .i64 a.f3, .int .i64 a.f4]] w fun e w' => e = .returned (.string (mk (nums [a.i, a.k, a.l, a.z, a.b]))) ∧ Below w.heap.size w w' := by
  go_enter Tryd.func60, Tryd.ntmps60
  go_wp2_with (go_at_call 80; refine (numbers_any [a.i, a.k, a.l, a.z, a.b] (w.heap.size + 1) _ (by simp) (by simp) (hf.st) (by simp) (by have := ints_at (w.alloc (.cells #[.int .i64 0, .int .i64 a.N, .string (mk a.data), .int .i64 a.i, .int .i64 a.k, .int .i64 a.l, .int .i64 a.z, .int .i64 a.b, .slice ao' na ca, .int .i64 a.f1, .int .i64 a.f2, .int .i64 a.f3, .int .i64 a.f4] 31)) [a.i, a.k, a.l, a.z, a.b] #[.int .i64 a.i, .int .i64 a.k, .int .i64 a.l, .int .i64 a.z, .int .i64 a.b] 3 rfl; rw [World.size_alloc] at this; exact this) (hv.below (((Below.refl _ _).alloc (Nat.le_refl _) _).alloc (by simp) _) hv.lt)).mono ?_; rintro e w1 ⟨rfl, hb1⟩)
  go_ret
  exact ⟨rfl, below_over (below_over hb1)⟩

set_option maxRecDepth 100000 in
set_option maxHeartbeats 2000000 in
theorem tellRoom_any (a : PAns) (ao' : Option Addr) (na ca : Nat) (w : World) (hf : AFits a) (hv : Vars w) : Calls Tryd.prog 62 #[.agg #[.int .i64 0, .int .i64 a.N, .string (mk a.data), .int .i64 a.i, .int .i64 a.k, .int .i64 a.l, .int .i64 a.z, .int .i64 a.b, .slice ao' na ca, .int .i64 a.f1, .int .i64 a.f2, .int .i64 a.f3, .int .i64 a.f4]] w fun e w' => e = .returned (.string (mk (nums [a.f1, a.f2, a.f3, a.f4]))) ∧ Below w.heap.size w w' := by
  go_enter Tryd.func62, Tryd.ntmps62
  go_wp2_with (go_at_call 80; refine (numbers_any [a.f1, a.f2, a.f3, a.f4] (w.heap.size + 1) _ (by simp) (by simp) (hf.rm) (by simp) (by have := ints_at (w.alloc (.cells #[.int .i64 0, .int .i64 a.N, .string (mk a.data), .int .i64 a.i, .int .i64 a.k, .int .i64 a.l, .int .i64 a.z, .int .i64 a.b, .slice ao' na ca, .int .i64 a.f1, .int .i64 a.f2, .int .i64 a.f3, .int .i64 a.f4] 31)) [a.f1, a.f2, a.f3, a.f4] #[.int .i64 a.f1, .int .i64 a.f2, .int .i64 a.f3, .int .i64 a.f4] 3 rfl; rw [World.size_alloc] at this; exact this) (hv.below (((Below.refl _ _).alloc (Nat.le_refl _) _).alloc (by simp) _) hv.lt)).mono ?_; rintro e w1 ⟨rfl, hb1⟩)
  go_ret
  exact ⟨rfl, below_over (below_over hb1)⟩

set_option maxRecDepth 100000 in
set_option maxHeartbeats 2000000 in
theorem tellOK_any (a : PAns) (ao' : Option Addr) (na ca : Nat) (w : World) : Calls Tryd.prog 59 #[.agg #[.int .i64 0, .int .i64 a.N, .string (mk a.data), .int .i64 a.i, .int .i64 a.k, .int .i64 a.l, .int .i64 a.z, .int .i64 a.b, .slice ao' na ca, .int .i64 a.f1, .int .i64 a.f2, .int .i64 a.f3, .int .i64 a.f4]] w fun e w' => e = .returned (.string (mk [111, 107])) ∧ Below w.heap.size w w' := by
  go_enter Tryd.func59, Tryd.ntmps59
  go_wp2
  go_ret
  exact ⟨rfl, by repeat (first | exact Below.refl _ _ | refine Below.alloc ?_ (by simp) _)⟩
set_option maxRecDepth 100000 in
set_option maxHeartbeats 2000000 in
theorem tellData_any (a : PAns) (ao' : Option Addr) (na ca : Nat) (w : World) (hf : AFits a) : Calls Tryd.prog 58 #[.agg #[.int .i64 0, .int .i64 a.N, .string (mk a.data), .int .i64 a.i, .int .i64 a.k, .int .i64 a.l, .int .i64 a.z, .int .i64 a.b, .slice ao' na ca, .int .i64 a.f1, .int .i64 a.f2, .int .i64 a.f3, .int .i64 a.f4]] w fun e w' => e = .returned (.string (mk (Cl.quote a.data))) ∧ Below w.heap.size w w' := by
  go_enter Tryd.func58, Tryd.ntmps58
  go_wp2_with (go_at_call 11; refine (quote_any (mk a.data) _ (by rw [mk_size]; have := hf.data; omega)).mono ?_; rintro e w1 ⟨rfl, hb1⟩)
  go_ret
  exact ⟨rfl, below_over hb1⟩

set_option maxRecDepth 100000 in
set_option maxHeartbeats 2000000 in
theorem tell_none (c : Cl.PCall) (a : PAns) (ao' : Option Addr) (na ca : Nat) (w : World) (hk : Cl.inRange c.kind) (hn : ¬ (1 ≤ c.kind ∧ c.kind ≤ 15)) : Calls Tryd.prog 17 #[.agg #[.int .i64 c.kind, .string (mk c.path), .string (mk c.other), .int .i64 c.off, .int .i64 c.size, .string (mk c.data)], .agg #[.int .i64 0, .int .i64 a.N, .string (mk a.data), .int .i64 a.i, .int .i64 a.k, .int .i64 a.l, .int .i64 a.z, .int .i64 a.b, .slice ao' na ca, .int .i64 a.f1, .int .i64 a.f2, .int .i64 a.f3, .int .i64 a.f4]] w fun e w' => e = .returned (.string (mk [111, 107])) ∧ Below w.heap.size w w' := by
  go_enter Tryd.func17, Tryd.ntmps17
  go_upto_region 3 with fail
  go_cut [6] (fun s6 wx => s6 = .bool false ∧ Below w.heap.size w wx)
  case first =>
    go_region_with (first | (go_at_call 32; refine (rows_any _).mono ?_; rintro e w' ⟨rfl, D, hT⟩; obtain ⟨hlt, hlt1, hlt0, hbw, hho, haa⟩ := rows_behind2 (w := w) hT (by repeat (first | exact Below.refl _ _ | refine Below.drew ?_ | refine Below.alloc ?_ (by first | (simp; done) | (simp; omega)) _)) (by first | exact (heap_alloc_old _ _ (by simp)).trans (heap_alloc_new _ _) | exact (heap_alloc_old _ _ (by simp; omega)).trans ((heap_alloc_old _ _ (by simp)).trans (heap_alloc_new _ _))) (by first | exact heap_second _ _ _ | exact (heap_alloc_old _ _ (by simp)).trans (heap_second _ _ _)) (by simp <;> omega); have hkk : w'.cell? ⟨w.heap.size, 0, none⟩ = some (.int .i64 (c.kind)) := (by simp [World.cell?, hho]); have hlook := tab_look_out hT _ hn hk; have hlook2 := fun o => tab_look_out (tab_alloc hT o) _ hn hk; simp only [World.size_alloc, World.size_drew] at hlook hlook2; (try (have hrow0 : w'.heap[w.heap.size + 1 + 1]? = some (.cells #[.string (mk []), .slice none 0 0, .nilFunc] 69 (0, 0)) := ((hT.below.block (w.heap.size + 1 + 1) (by simp)).trans (heap_third _ _ _ _)); have hr0 : w'.cell? ⟨w.heap.size + 1 + 1, 0, none⟩ = some (.string (mk [])) := (by simp [World.cell?, hrow0]); have hr1 : w'.cell? ⟨w.heap.size + 1 + 1, 1, none⟩ = some (.slice none 0 0) := (by simp [World.cell?, hrow0]); have hr2 : w'.cell? ⟨w.heap.size + 1 + 1, 2, none⟩ = some .nilFunc := (by simp [World.cell?, hrow0]); have hz := fun j => (show w'.frozen? ⟨w.heap.size + 1 + 1, j, none⟩ = false by simp [World.frozen?, hrow0])))))
    all_goals
      go_wp2_with fail
      go_meet
      case rel =>
        refine ⟨rfl, ?_⟩
        first | exact hbw.alloc (by omega) _ | exact ((hbw.setCell (by show _ ≤ w.heap.size + 1 + 1; omega) _).setCell (by show _ ≤ w.heap.size + 1 + 1; omega) _).setCell (by show _ ≤ w.heap.size + 1 + 1; omega) _
  case rest =>
    obtain ⟨rfl, hb⟩ := hcut
    go_wp2
    go_ret
    exact ⟨rfl, hb⟩
set_option maxRecDepth 100000 in
set_option maxHeartbeats 4000000 in
theorem tell_good (c : Cl.PCall) (a : PAns) (ao' : Option Addr) (na ca : Nat) (w : World) (n : Nat) (hn : n < 15) (cmd : List UInt8) (ps : List Nat) (f : Nat) (hcmd : Cl.rowsT[n]? = some (cmd, ps)) (hf : tellF[n]? = some f) (res : List UInt8)
    (htell : ∀ W, Below w.heap.size w W → Calls Tryd.prog f #[.agg #[.int .i64 0, .int .i64 a.N, .string (mk a.data), .int .i64 a.i, .int .i64 a.k, .int .i64 a.l, .int .i64 a.z, .int .i64 a.b, .slice ao' na ca, .int .i64 a.f1, .int .i64 a.f2, .int .i64 a.f3, .int .i64 a.f4]] W fun e w' => e = .returned (.string (mk res)) ∧ Below W.heap.size W w') :
    Calls Tryd.prog 17 #[.agg #[.int .i64 ((n : Int) + 1), .string (mk c.path), .string (mk c.other), .int .i64 c.off, .int .i64 c.size, .string (mk c.data)], .agg #[.int .i64 0, .int .i64 a.N, .string (mk a.data), .int .i64 a.i, .int .i64 a.k, .int .i64 a.l, .int .i64 a.z, .int .i64 a.b, .slice ao' na ca, .int .i64 a.f1, .int .i64 a.f2, .int .i64 a.f3, .int .i64 a.f4]] w fun e w' => e = .returned (.string (mk res)) ∧ Below w.heap.size w w' := by
  have HT := Lib.hid htell
  have hf6 := tellF_six hf
  clear htell
  go_enter Tryd.func17, Tryd.ntmps17
  go_upto_region 3 with fail
  go_cut [5, 6] (fun s5 s6 wx => ∃ r ao, s5 = .pointer (some ⟨r, 0, none⟩) ∧ s6 = .bool true ∧ AtRow w wx r cmd ps f ao ∧ wx.heap[w.heap.size + 1]? = some (.cells #[.int .i64 0, .int .i64 a.N, .string (mk a.data), .int .i64 a.i, .int .i64 a.k, .int .i64 a.l, .int .i64 a.z, .int .i64 a.b, .slice ao' na ca, .int .i64 a.f1, .int .i64 a.f2, .int .i64 a.f3, .int .i64 a.f4] 31 (0, 0)))
  case first =>
    go_region_with (first | (go_at_call 32; refine (rows_any _).mono ?_; rintro e w' ⟨rfl, D, hT⟩; obtain ⟨hlt, hlt1, hlt0, hbw, hho, haa⟩ := rows_behind2 (w := w) hT (by repeat (first | exact Below.refl _ _ | refine Below.drew ?_ | refine Below.alloc ?_ (by first | (simp; done) | (simp; omega)) _)) (by first | exact (heap_alloc_old _ _ (by simp)).trans (heap_alloc_new _ _) | exact (heap_alloc_old _ _ (by simp; omega)).trans ((heap_alloc_old _ _ (by simp)).trans (heap_alloc_new _ _))) (by first | exact heap_second _ _ _ | exact (heap_alloc_old _ _ (by simp)).trans (heap_second _ _ _)) (by simp <;> omega); have hkk : w'.cell? ⟨w.heap.size, 0, none⟩ = some (.int .i64 ((n : Int) + 1)) := (by simp [World.cell?, hho]); obtain ⟨cmd', ps', f', ao, he1, he2, hS, hlook⟩ := tab_look_in hT n hn true; rw [hcmd] at he1; rw [hf] at he2; cases he1; cases he2; have hlook2 := fun o => (tab_look_ok hT (tab_alloc hT o) hlook hn); simp only [World.size_alloc, World.size_drew, if_true] at hlook hlook2; (try (have hrow0 : w'.heap[w.heap.size + 1 + 1]? = some (.cells #[.string (mk []), .slice none 0 0, .nilFunc] 69 (0, 0)) := ((hT.below.block (w.heap.size + 1 + 1) (by simp)).trans (heap_third _ _ _ _)); have hr0 : w'.cell? ⟨w.heap.size + 1 + 1, 0, none⟩ = some (.string (mk [])) := (by simp [World.cell?, hrow0]); have hr1 : w'.cell? ⟨w.heap.size + 1 + 1, 1, none⟩ = some (.slice none 0 0) := (by simp [World.cell?, hrow0]); have hr2 : w'.cell? ⟨w.heap.size + 1 + 1, 2, none⟩ = some .nilFunc := (by simp [World.cell?, hrow0]); have hz := fun j => (show w'.frozen? ⟨w.heap.size + 1 + 1, j, none⟩ = false by simp [World.frozen?, hrow0])))))
    all_goals
      go_wp2_with fail
      go_meet
      case rel =>
        first | exact ⟨_, ao, rfl, rfl, atrow_new hT hbw cmd ps f ao hS, (heap_alloc_old _ _ hlt1).trans haa⟩ | exact ⟨_, ao, rfl, rfl, atrow_old hT hbw (by simp) (by omega) hrow0 cmd ps f ao hS, by rw [heap_setCell_other _ _ _ _ (show w.heap.size + 1 ≠ w.heap.size + 1 + 1 by omega), heap_setCell_other _ _ _ _ (show w.heap.size + 1 ≠ w.heap.size + 1 + 1 by omega), heap_setCell_other _ _ _ _ (show w.heap.size + 1 ≠ w.heap.size + 1 + 1 by omega)]; exact haa⟩
  case rest =>
    obtain ⟨r, ao, rfl, rfl, hA, hAns⟩ := hcut
    have hrow := hA.row
    have q2 : wc.cell? ⟨r, 2, none⟩ = some (.func (Fn.func f) #[] #[]) := by simp [World.cell?, hrow]
    have a0 : wc.cell? ⟨w.heap.size + 1, 0, none⟩ = some (.int .i64 0) := by simp [World.cell?, hAns]
    have a1 : wc.cell? ⟨w.heap.size + 1, 1, none⟩ = some (.int .i64 a.N) := by simp [World.cell?, hAns]
    have a2 : wc.cell? ⟨w.heap.size + 1, 2, none⟩ = some (.string (mk a.data)) := by simp [World.cell?, hAns]
    have a3 : wc.cell? ⟨w.heap.size + 1, 3, none⟩ = some (.int .i64 a.i) := by simp [World.cell?, hAns]
    have a4 : wc.cell? ⟨w.heap.size + 1, 4, none⟩ = some (.int .i64 a.k) := by simp [World.cell?, hAns]
    have a5 : wc.cell? ⟨w.heap.size + 1, 5, none⟩ = some (.int .i64 a.l) := by simp [World.cell?, hAns]
    have a6 : wc.cell? ⟨w.heap.size + 1, 6, none⟩ = some (.int .i64 a.z) := by simp [World.cell?, hAns]
    have a7 : wc.cell? ⟨w.heap.size + 1, 7, none⟩ = some (.int .i64 a.b) := by simp [World.cell?, hAns]
    have a8 : wc.cell? ⟨w.heap.size + 1, 8, none⟩ = some (.slice ao' na ca) := by simp [World.cell?, hAns]
    have a9 : wc.cell? ⟨w.heap.size + 1, 9, none⟩ = some (.int .i64 a.f1) := by simp [World.cell?, hAns]
    have a10 : wc.cell? ⟨w.heap.size + 1, 10, none⟩ = some (.int .i64 a.f2) := by simp [World.cell?, hAns]
    have a11 : wc.cell? ⟨w.heap.size + 1, 11, none⟩ = some (.int .i64 a.f3) := by simp [World.cell?, hAns]
    have a12 : wc.cell? ⟨w.heap.size + 1, 12, none⟩ = some (.int .i64 a.f4) := by simp [World.cell?, hAns]
    have HAB := Lib.hid hA.below
    clear hA hAns hrow
    rcases hf6 with rfl | rfl | rfl | rfl | rfl | rfl
    all_goals
      go_wp2_with (first | (go_at_call 57; refine (HT.out _ HAB.out).mono ?_; rintro e w1 ⟨rfl, hb1⟩) | (go_at_call 58; refine (HT.out _ HAB.out).mono ?_; rintro e w1 ⟨rfl, hb1⟩) | (go_at_call 59; refine (HT.out _ HAB.out).mono ?_; rintro e w1 ⟨rfl, hb1⟩) | (go_at_call 60; refine (HT.out _ HAB.out).mono ?_; rintro e w1 ⟨rfl, hb1⟩) | (go_at_call 61; refine (HT.out _ HAB.out).mono ?_; rintro e w1 ⟨rfl, hb1⟩) | (go_at_call 62; refine (HT.out _ HAB.out).mono ?_; rintro e w1 ⟨rfl, hb1⟩))
      go_ret
      exact ⟨rfl, HAB.out.trans (hb1.mono HAB.out.size)⟩
end Tw
end Go.Proofs.YtjloonijnbfhhaaDoor
