/- The walks of Parse in one contract, of an error's text, of Tell of an error, and of the fixed facts that each statement of the layer asks first. -/
import Derived.Test.YtjloonijnbfhhaaDoorRParse
import Derived.Test.YtjloonijnbfhhaaDoorCallsScan
namespace Go.Proofs.YtjloonijnbfhhaaDoor
open Go.RowKit Go.Maps Go.WideShapes Qw

namespace Rw
theorem parse_any (s : ByteArray) (w : World) (hs : s.size ≤ 1000000000000) (hv : Vars w) : Calls Tryd.prog 13 #[.string s] w (PParse w (Cl.parse (bs s))) := by
  cases h : Cl.toks Cl.tokP (bs s) with
  | none => exact parse_bad s w hs h
  | some l =>
    cases l with
    | nil => exact parse_nil s w hs h
    | cons t ts =>
      have := parse_go s w hs hv t ts h
      rw [parse_cut h]
      exact this

theorem itoa_len {n : Int} (hn : Cl.inRange n) : (mk (Lib.itoa n)).size ≤ 100 := by
  have h1 := Cl.dec_len 19 n.natAbs (by decide)
  have h2 := Cl.dec_len 19 n.toNat (by decide)
  obtain ⟨a, b⟩ := hn
  rw [mk_size]
  unfold Lib.itoa
  split
  · have := h1 (by omega); simp only [List.length_cons]; omega
  · have := h2 (by omega); omega
set_option maxRecDepth 100000 in
theorem error_any (n : Int) (w : World) (hn : Cl.inRange n) (hv : Vars w) : Calls Tryd.prog 38 #[.int .i64 n] w fun e w' => e = .returned (.string (mk (69 :: Lib.itoa n))) ∧ Below w.heap.size w w' := by
  have hl : (Lib.itoa n).length ≤ 100 := itoa_len hn
  go_enter Tryd.func38, Tryd.ntmps38
  go_wp2_with (go_at_call 64; refine (Tryd.strconv_Itoa _ hn.1 hn.2 _ hv.tab).mono ?_; rintro e w' ⟨rfl, k, os, rfl⟩)
  go_ret
  exact ⟨ret_str (mk_app [69] (Lib.itoa n)).symm, grow_below _ _ _⟩

/-! ### the fixed facts -/
def fact1 : Cl.PCall := ⟨4, [47, 97, 32, 98], [], [120], 5, 0⟩
theorem fact1_text : ([119, 114, 105, 116, 101] : List UInt8) ++ [0, 3, 2].flatMap (fun p => 32 :: Cl.text fact1 p) = [119, 114, 105, 116, 101, 32, 34, 47, 97, 32, 98, 34, 32, 53, 32, 120] := by decide +kernel
theorem fact_print (w : World) (hv : Vars w) : Calls Tryd.prog 15 #[.agg #[.int .i64 4, .string ⟨#[47, 97, 32, 98]⟩, .string ⟨#[]⟩, .int .i64 5, .int .i64 0, .string ⟨#[120]⟩]] w fun e w' => e = .returned (.tuple #[.string ⟨#[119, 114, 105, 116, 101, 32, 34, 47, 97, 32, 98, 34, 32, 53, 32, 120]⟩, .int .i64 0]) ∧ Below w.heap.size w w' := by
  have := print_some fact1 w 3 (by decide) _ _ 57 (by rfl) (by rfl) ⟨by decide, by decide, by decide⟩ ⟨⟨by decide, by decide⟩, ⟨by decide, by decide⟩⟩ hv
  rw [fact1_text] at this
  exact this
theorem fact2 : Cl.parse [32, 32, 114, 101, 97, 100, 32, 34, 47, 97, 34, 32, 45, 49, 32, 32, 32, 55, 32] = some ⟨3, [47, 97], [], [], -1, 7⟩ := by decide +kernel
theorem fact_parse (w : World) (hv : Vars w) : Calls Tryd.prog 13 #[.string ⟨#[32, 32, 114, 101, 97, 100, 32, 34, 47, 97, 34, 32, 45, 49, 32, 32, 32, 55, 32]⟩] w fun e w' => e = .returned (.tuple #[.agg #[.int .i64 3, .string ⟨#[47, 97]⟩, .string ⟨#[]⟩, .int .i64 (-1), .int .i64 7, .string ⟨#[]⟩], .int .i64 0]) ∧ Below w.heap.size w w' := by
  refine (parse_any _ w (by decide) hv).mono ?_
  rintro e w' ⟨hb, rfl⟩
  refine ⟨?_, hb⟩
  have e2 : Cl.parse (bs ⟨#[32, 32, 114, 101, 97, 100, 32, 34, 47, 97, 34, 32, 45, 49, 32, 32, 32, 55, 32]⟩) = some ⟨3, [47, 97], [], [], -1, 7⟩ := fact2
  rw [e2]; rfl
theorem fact_unquote (w : World) : Calls Tryd.prog 9 #[.string ⟨#[34, 92, 120, 52, 49, 34]⟩] w fun e w' => e = .returned (.tuple #[.string ⟨#[65]⟩, .int .i64 0]) ∧ Below w.heap.size w w' := by
  refine (unquote_any _ w (by decide)).mono ?_
  rintro e w' ⟨rfl, hb⟩
  refine ⟨?_, hb⟩
  have e1 : Cl.unquote (bs ⟨#[34, 92, 120, 52, 49, 34]⟩) = some [65] := by decide +kernel
  rw [ux, ue, e1]; rfl
theorem fact_quote (w : World) : Calls Tryd.prog 11 #[.string ⟨#[]⟩] w fun e w' => e = .returned (.string ⟨#[34, 34]⟩) ∧ Below w.heap.size w w' := by
  refine (quote_any _ w (by decide)).mono ?_
  rintro e w' ⟨rfl, hb⟩
  exact ⟨rfl, hb⟩

theorem block_two {w2 w3 w4 : World} {o : Obj} (hb3 : Below (w2.alloc o).heap.size (w2.alloc o) w3) (hb4 : Below w3.heap.size w3 w4) : w4.heap[w2.heap.size]? = some o :=
  (hb4.block _ (by have := hb3.size; simp at this; omega)).trans ((hb3.block _ (by simp)).trans (heap_alloc_new _ _))

set_option maxRecDepth 100000 in
set_option maxHeartbeats 1000000 in
theorem tell_err (c : Cl.PCall) (n N i k l z b f1 f2 f3 f4 : Int) (data : ByteArray) (ao : Option Addr) (len cap : Nat) (w : World) (hn : Cl.inRange n) (h0 : n ≠ 0) (hv : Vars w) :
    Calls Tryd.prog 17 #[.agg #[.int .i64 c.kind, .string (mk c.path), .string (mk c.other), .int .i64 c.off, .int .i64 c.size, .string (mk c.data)], .agg #[.int .i64 n, .int .i64 N, .string data, .int .i64 i, .int .i64 k, .int .i64 l, .int .i64 z, .int .i64 b, .slice ao len cap, .int .i64 f1, .int .i64 f2, .int .i64 f3, .int .i64 f4]] w
      fun e w' => e = .returned (.string (mk (33 :: 32 :: 69 :: Lib.itoa n))) ∧ Below w.heap.size w w' := by
  have hl : (mk (69 :: Lib.itoa n)).size ≤ 101 := by have := itoa_len hn; rw [mk_size] at *; simp only [List.length_cons]; omega
  have hb0 : (n != 0) = true := by rw [bne_iff_ne]; exact h0
  clear h0
  go_enter Tryd.func17, Tryd.ntmps17
  go_wp2_with (go_at_call 38; refine (error_any n _ hn (by refine hv.below (Below.alloc (Below.alloc (Below.refl _ _) (Nat.le_refl _) _) (by simp) _) hv.lt)).mono ?_; rintro e w' ⟨rfl, hb⟩)
  go_ret
  exact ⟨ret_str (mk_app [33, 32] (69 :: Lib.itoa n)).symm, below_over (below_over hb)⟩
theorem fact_tell (w : World) (hv : Vars w) : Calls Tryd.prog 17 #[.agg #[.int .i64 3, .string ⟨#[47, 97]⟩, .string ⟨#[]⟩, .int .i64 (-1), .int .i64 7, .string ⟨#[]⟩], .agg #[.int .i64 160, .int .i64 0, .string ⟨#[]⟩, .int .i64 0, .int .i64 0, .int .i64 0, .int .i64 0, .int .i64 0, .slice none 0 0, .int .i64 0, .int .i64 0, .int .i64 0, .int .i64 0]] w
    fun e w' => e = .returned (.string ⟨#[33, 32, 69, 49, 54, 48]⟩) ∧ Below w.heap.size w w' := by
  have := tell_err ⟨3, [47, 97], [], [], -1, 7⟩ 160 0 0 0 0 0 0 0 0 0 0 ⟨#[]⟩ none 0 0 w ⟨by decide, by decide⟩ (by decide) hv
  have e : (33 :: 32 :: 69 :: Lib.itoa 160) = [33, 32, 69, 49, 54, 48] := by decide +kernel
  rw [e] at this
  exact this

set_option maxRecDepth 100000 in
theorem num_any (n : Int) (w : World) : Calls Tryd.prog 19 #[.int .i64 n] w fun e w' => e = .returned (.int .i64 n) ∧ w = w' := by
  skip
  go_enter Tryd.func19, Tryd.ntmps19
  go_wp2
  go_ret
  exact ⟨rfl, rfl⟩

set_option maxRecDepth 100000 in
set_option maxHeartbeats 2000000 in
theorem known_any (w : World) (hv : Vars w) : Calls Tryd.prog 8 #[] w fun e w' => e = .returned (.bool true) ∧ Below w.heap.size w w' := by
  go_enter Tryd.func8, Tryd.ntmps8
  go_wp2_with (first
    | (go_at_call 15; refine (fact_print _ (by assumption)).mono ?_; rintro e w1 ⟨rfl, hb1⟩; have hv1 : Vars w1 := hv.below hb1 hv.lt; have hs1 := hb1.size)
    | (go_at_call 13; refine (fact_parse _ (by assumption)).mono ?_; rintro e w2 ⟨rfl, hb2⟩; have hv2 : Vars w2 := hv1.below hb2 hv1.lt; have hs2 := hb2.size)
    | (go_at_call 9; refine (fact_unquote _).mono ?_; rintro e w3 ⟨rfl, hb3⟩)
    | (go_at_call 11; refine (fact_quote _).mono ?_; rintro e w4 ⟨rfl, hb4⟩; have hv4 : Vars w4 := (hv2.below (below_over hb3) hv2.lt).below hb4 (by have := hv2.lt; have := (below_over hb3).size; omega); have hs4 := hb4.size; have hs3 := (below_over hb3).size; have hH : Holds w4 w2.heap.size ⟨3, [47, 97], [], [], -1, 7⟩ := block_two hb3 hb4; have m0 : w4.cell? ⟨w2.heap.size, 0, none⟩ = some (.int .i64 3) := hH.c0; have m1 : w4.cell? ⟨w2.heap.size, 1, none⟩ = some (.string ⟨#[47, 97]⟩) := hH.c1; have m2 : w4.cell? ⟨w2.heap.size, 2, none⟩ = some (.string ⟨#[]⟩) := hH.c2; have m3 : w4.cell? ⟨w2.heap.size, 3, none⟩ = some (.int .i64 (-1)) := hH.c3; have m4 : w4.cell? ⟨w2.heap.size, 4, none⟩ = some (.int .i64 7) := hH.c4; have m5 : w4.cell? ⟨w2.heap.size, 5, none⟩ = some (.string ⟨#[]⟩) := hH.c5)
    | (go_at_call 17; refine (fact_tell _ (by assumption)).mono ?_; rintro e w5 ⟨rfl, hb5⟩)
    | (go_at_call 19; refine (num_any _ _).mono ?_; rintro e w' ⟨rfl, rfl⟩))
  go_ret
  exact ⟨rfl, ((((hb1.trans (hb2.mono hs1)).trans ((below_over hb3).mono (by omega))).trans (hb4.mono (by omega))).trans (hb5.mono (by omega)))⟩
end Rw
end Go.Proofs.YtjloonijnbfhhaaDoor
