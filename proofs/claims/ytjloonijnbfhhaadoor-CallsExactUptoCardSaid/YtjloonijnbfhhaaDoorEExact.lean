/- The walk of the statement CallsExact. -/
import Derived.Test.YtjloonijnbfhhaaDoorENamesLaw
namespace Go.Proofs.YtjloonijnbfhhaaDoor
open Go.RowKit Go.Maps Go.WideShapes

namespace Ex
open Qw Rw Tw Er
theorem names_set {w : World} {g r o : Nat} {v : Value} {nm : List (List UInt8)} (h : NamesAt w (some ⟨g, 0, none⟩) nm) (hne : g ≠ r) : NamesAt (w.setCell ⟨r, o, none⟩ v) (some ⟨g, 0, none⟩) nm := by
  intro j x hx
  obtain ⟨g', o', e, h2, h3⟩ := h j x hx
  cases e
  exact ⟨g, 0, rfl, by simpa using h2, (World.cell?_of_block (a := ⟨g, 0 + j, none⟩) (heap_setCell_other _ _ _ _ hne)).trans h3⟩
set_option maxRecDepth 100000 in
set_option maxHeartbeats 8000000 in
theorem exact_any (s : ByteArray) (c : Cl.PCall) (err : Int) (a : PAns) (nm : List (List UInt8)) (ao : Option Addr) (ca : Nat) (w : World) (hs : s.size ≤ 1048576) (hk : Cl.inRange c.kind) (hsc : Sized c) (hfc : Cl.Fits c) (he : Cl.inRange err) (hfa : AFits a) (hF : NFits nm) (hN : NamesAt w ao nm) (hv : Vars w) :
    Calls Tryd.prog 3 #[.string s, .agg #[.int .i64 c.kind, .string (mk c.path), .string (mk c.other), .int .i64 c.off, .int .i64 c.size, .string (mk c.data)], .agg #[.int .i64 err, .int .i64 a.N, .string (mk a.data), .int .i64 a.i, .int .i64 a.k, .int .i64 a.l, .int .i64 a.z, .int .i64 a.b, .slice ao nm.length ca, .int .i64 a.f1, .int .i64 a.f2, .int .i64 a.f3, .int .i64 a.f4]] w fun e w' => e = .returned (.bool true) ∧ Below w.heap.size w w' := by
  have hs2 : s.size ≤ 1000000000000 := by omega
  obtain ⟨z, E, hP⟩ := parsed_is s hs2
  obtain ⟨t, E2, hPr⟩ := printed_is c hk hsc hfc
  obtain ⟨tl, hT⟩ := told_is c err a nm hk he hfa hF
  have hrun := run_neq_call z
  have hv0 : Vars ((w.alloc (.cells #[.int .i64 c.kind, .string (mk c.path), .string (mk c.other), .int .i64 c.off, .int .i64 c.size, .string (mk c.data)] 23)).alloc (.cells #[.int .i64 err, .int .i64 a.N, .string (mk a.data), .int .i64 a.i, .int .i64 a.k, .int .i64 a.l, .int .i64 a.z, .int .i64 a.b, .slice ao nm.length ca, .int .i64 a.f1, .int .i64 a.f2, .int .i64 a.f3, .int .i64 a.f4] 31)) := hv.below (((Below.refl _ _).alloc (Nat.le_refl _) _).alloc (by simp) _) hv.lt
  have hC0 : Holds ((w.alloc (.cells #[.int .i64 c.kind, .string (mk c.path), .string (mk c.other), .int .i64 c.off, .int .i64 c.size, .string (mk c.data)] 23)).alloc (.cells #[.int .i64 err, .int .i64 a.N, .string (mk a.data), .int .i64 a.i, .int .i64 a.k, .int .i64 a.l, .int .i64 a.z, .int .i64 a.b, .slice ao nm.length ca, .int .i64 a.f1, .int .i64 a.f2, .int .i64 a.f3, .int .i64 a.f4] 31)) w.heap.size c := (heap_alloc_old _ _ (by simp)).trans (heap_alloc_new _ _)
  have hA0 : ((w.alloc (.cells #[.int .i64 c.kind, .string (mk c.path), .string (mk c.other), .int .i64 c.off, .int .i64 c.size, .string (mk c.data)] 23)).alloc (.cells #[.int .i64 err, .int .i64 a.N, .string (mk a.data), .int .i64 a.i, .int .i64 a.k, .int .i64 a.l, .int .i64 a.z, .int .i64 a.b, .slice ao nm.length ca, .int .i64 a.f1, .int .i64 a.f2, .int .i64 a.f3, .int .i64 a.f4] 31)).heap[w.heap.size + 1]? = some (.cells #[.int .i64 err, .int .i64 a.N, .string (mk a.data), .int .i64 a.i, .int .i64 a.k, .int .i64 a.l, .int .i64 a.z, .int .i64 a.b, .slice ao nm.length ca, .int .i64 a.f1, .int .i64 a.f2, .int .i64 a.f3, .int .i64 a.f4] 31 (0, 0)) := heap_second _ _ _
  have hS0 : Below w.heap.size w ((w.alloc (.cells #[.int .i64 c.kind, .string (mk c.path), .string (mk c.other), .int .i64 c.off, .int .i64 c.size, .string (mk c.data)] 23)).alloc (.cells #[.int .i64 err, .int .i64 a.N, .string (mk a.data), .int .i64 a.i, .int .i64 a.k, .int .i64 a.l, .int .i64 a.z, .int .i64 a.b, .slice ao nm.length ca, .int .i64 a.f1, .int .i64 a.f2, .int .i64 a.f3, .int .i64 a.f4] 31)) := ((Below.refl _ _).alloc (Nat.le_refl _) _).alloc (by simp) _
  have hl0 : w.heap.size + 1 < ((w.alloc (.cells #[.int .i64 c.kind, .string (mk c.path), .string (mk c.other), .int .i64 c.off, .int .i64 c.size, .string (mk c.data)] 23)).alloc (.cells #[.int .i64 err, .int .i64 a.N, .string (mk a.data), .int .i64 a.i, .int .i64 a.k, .int .i64 a.l, .int .i64 a.z, .int .i64 a.b, .slice ao nm.length ca, .int .i64 a.f1, .int .i64 a.f2, .int .i64 a.f3, .int .i64 a.f4] 31)).heap.size := by simp
  go_enter Tryd.func3, Tryd.ntmps3
  go_wp2_with (first
    | (go_at_call 8; refine (known_any _ hv0).mono ?_; rintro e w1 ⟨rfl, hb1⟩; have hq1 := hb1; have hv1 : Vars w1 := hv0.below hq1 hv0.lt; have hC1 := hC0.below hq1; have hS1 := hS0.trans (hq1.mono hS0.size); have hA1 := (hq1.block _ hl0).trans hA0; have hl1 := Nat.lt_of_lt_of_le hl0 hq1.size)
    | (go_at_call 9; refine (Qw.unquote_any s _ hs2).mono ?_; rintro e w2 ⟨rfl, hb2⟩; have hq2 := hb2; have hv2 : Vars w2 := hv1.below hq2 hv1.lt; have hC2 := hC1.below hq2; have hS2 := hS1.trans (hq2.mono hS1.size); have hA2 := (hq2.block _ hl1).trans hA1; have hl2 := Nat.lt_of_lt_of_le hl1 hq2.size)
    | (go_at_call 10; refine (Er.unquote_any s _ hs2).mono ?_; rintro e w3 ⟨rfl, hb3⟩; have hq3 := hb3; have hv3 : Vars w3 := hv2.below hq3 hv2.lt; have hC3 := hC2.below hq3; have hS3 := hS2.trans (hq3.mono hS2.size); have hA3 := (hq3.block _ hl2).trans hA2; have hl3 := Nat.lt_of_lt_of_le hl2 hq3.size)
    | (go_at_call 11; refine (Qw.quote_any s _ hs2).mono ?_; rintro e w4 ⟨rfl, hb4⟩; have hq4 := hb4; have hv4 : Vars w4 := hv3.below hq4 hv3.lt; have hC4 := hC3.below hq4; have hS4 := hS3.trans (hq4.mono hS3.size); have hA4 := (hq4.block _ hl3).trans hA3; have hl4 := Nat.lt_of_lt_of_le hl3 hq4.size)
    | (go_at_call 12; refine (Er.quote_any s _ hs2).mono ?_; rintro e w5 ⟨rfl, hb5⟩; have hq5 := hb5; have hv5 : Vars w5 := hv4.below hq5 hv4.lt; have hC5 := hC4.below hq5; have hS5 := hS4.trans (hq5.mono hS4.size); have hA5 := (hq5.block _ hl4).trans hA4; have hl5 := Nat.lt_of_lt_of_le hl4 hq5.size)
    | (go_at_call 13; refine (hP.prog _ hv5).mono ?_; rintro e w6 ⟨rfl, hb6⟩; have hq6 := hb6; have hv6 : Vars w6 := hv5.below hq6 hv5.lt; have hC6 := hC5.below hq6; have hS6 := hS5.trans (hq6.mono hS5.size); have hA6 := (hq6.block _ hl5).trans hA5; have hl6 := Nat.lt_of_lt_of_le hl5 hq6.size)
    | (go_at_call 14; refine (hP.ref _).mono ?_; rintro e w7 ⟨rfl, hb7⟩; have hq7 := below_over hb7; have hv7 : Vars w7 := hv6.below hq7 hv6.lt; have hC7 := hC6.below hq7; have hS7 := hS6.trans (hq7.mono hS6.size); have hA7 := (hq7.block _ hl6).trans hA6; have hl7 := Nat.lt_of_lt_of_le hl6 hq7.size; have hZ7 : Holds w7 w6.heap.size z := (hb7.block _ (by simp)).trans (heap_alloc_new _ _); have c70 := hC7.c0; have c71 := hC7.c1; have c72 := hC7.c2; have c73 := hC7.c3; have c74 := hC7.c4; have c75 := hC7.c5; have c7z := hC7.lt)
    | (go_at_call 15; refine (hPr.prog _ (hv7.below ((Below.refl _ _).alloc (Nat.le_refl _) _) hv7.lt)).mono ?_; rintro e w8 ⟨rfl, hb8⟩; have hq8 := below_over hb8; have hv8 : Vars w8 := hv7.below hq8 hv7.lt; have hC8 := hC7.below hq8; have hS8 := hS7.trans (hq8.mono hS7.size); have hA8 := (hq8.block _ hl7).trans hA7; have hl8 := Nat.lt_of_lt_of_le hl7 hq8.size; have hZ8 := hZ7.below hq8; have hY8 : Holds w8 w7.heap.size z := (hb8.block _ (by simp)).trans (heap_alloc_new _ _); have c80 := hC8.c0; have c81 := hC8.c1; have c82 := hC8.c2; have c83 := hC8.c3; have c84 := hC8.c4; have c85 := hC8.c5; have c8z := hC8.lt)
    | (go_at_call 16; refine (hPr.ref _).mono ?_; rintro e w9 ⟨rfl, hb9⟩; have hq9 := hb9; have hv9 : Vars w9 := hv8.below hq9 hv8.lt; have hC9 := hC8.below hq9; have hS9 := hS8.trans (hq9.mono hS8.size); have hA9 := (hq9.block _ hl8).trans hA8; have hl9 := Nat.lt_of_lt_of_le hl8 hq9.size; have hZ9 := hZ8.below hq9; have hY9 := hY8.below hq9; have c90 := hC9.c0; have c91 := hC9.c1; have c92 := hC9.c2; have c93 := hC9.c3; have c94 := hC9.c4; have c95 := hC9.c5; have c9z := hC9.lt; have z90 := hZ9.c0; have z91 := hZ9.c1; have z92 := hZ9.c2; have z93 := hZ9.c3; have z94 := hZ9.c4; have z95 := hZ9.c5; have z9z := hZ9.lt; have y90 := hY9.c0; have y91 := hY9.c1; have y92 := hY9.c2; have y93 := hY9.c3; have y94 := hY9.c4; have y95 := hY9.c5; have y9z := hY9.lt; have a0 : w9.cell? ⟨w.heap.size + 1, 0, none⟩ = some (.int .i64 err) := (by simp [World.cell?, hA9]); have a1 : w9.cell? ⟨w.heap.size + 1, 1, none⟩ = some (.int .i64 a.N) := (by simp [World.cell?, hA9]); have a2 : w9.cell? ⟨w.heap.size + 1, 2, none⟩ = some (.string (mk a.data)) := (by simp [World.cell?, hA9]); have a3 : w9.cell? ⟨w.heap.size + 1, 3, none⟩ = some (.int .i64 a.i) := (by simp [World.cell?, hA9]); have a4 : w9.cell? ⟨w.heap.size + 1, 4, none⟩ = some (.int .i64 a.k) := (by simp [World.cell?, hA9]); have a5 : w9.cell? ⟨w.heap.size + 1, 5, none⟩ = some (.int .i64 a.l) := (by simp [World.cell?, hA9]); have a6 : w9.cell? ⟨w.heap.size + 1, 6, none⟩ = some (.int .i64 a.z) := (by simp [World.cell?, hA9]); have a7 : w9.cell? ⟨w.heap.size + 1, 7, none⟩ = some (.int .i64 a.b) := (by simp [World.cell?, hA9]); have a8 : w9.cell? ⟨w.heap.size + 1, 8, none⟩ = some (.slice ao nm.length ca) := (by simp [World.cell?, hA9]); have a9 : w9.cell? ⟨w.heap.size + 1, 9, none⟩ = some (.int .i64 a.f1) := (by simp [World.cell?, hA9]); have a10 : w9.cell? ⟨w.heap.size + 1, 10, none⟩ = some (.int .i64 a.f2) := (by simp [World.cell?, hA9]); have a11 : w9.cell? ⟨w.heap.size + 1, 11, none⟩ = some (.int .i64 a.f3) := (by simp [World.cell?, hA9]); have a12 : w9.cell? ⟨w.heap.size + 1, 12, none⟩ = some (.int .i64 a.f4) := (by simp [World.cell?, hA9]); have hN9 := hN.below hS9 (Nat.le_refl _))
    | (at_builtin; refine wpList_append_names _ rfl _ _ rfl (w9.heap.size + 1) (w9.heap.size + 1) rfl (by exact heap_second _ _ _) (Nat.le_refl _) (by simp) nm ao ca rfl (by exact hN9.below (B := w9.heap.size) ((Below.refl _ _).alloc (Nat.le_refl _) _ |>.alloc (by simp) _) (Nat.le_refl _)) hF.1 ?_; intro v10 w10 ho10 hg10; have hq10 : Below (w9.heap.size + 1) (w9.alloc (.cells #[.int .i64 err, .int .i64 a.N, .string (mk a.data), .int .i64 a.i, .int .i64 a.k, .int .i64 a.l, .int .i64 a.z, .int .i64 a.b, .slice ao nm.length ca, .int .i64 a.f1, .int .i64 a.f2, .int .i64 a.f3, .int .i64 a.f4] 31)) w10 := Below.grown ((Below.refl _ _).alloc (by simp) _) hg10 (by simp) (fun j hj => by cases hj; exact Nat.le_refl _))
    | (at_builtin; refine wpList_append_cells strT w10 rfl _ _ rfl _ (w9.heap.size + 1) _ (strsV nm) [.string ⟨#[109, 97, 114, 107]⟩] 1 (by rfl) (by rfl) (one_str _) (by rfl) ho10 (by rfl) (by rw [strsV_len]; have := hF.1; simp only [List.length_cons, List.length_nil]; omega) (by rw [strsV_len]; have := hF.1; simp only [List.length_cons, List.length_nil]; omega) (by have := hq10.size; rw [World.size_alloc] at this; exact this) ?_; intro v11 w11 ho11 hg11 _; have hq11 : Below (w9.heap.size + 1) (w9.alloc (.cells #[.int .i64 err, .int .i64 a.N, .string (mk a.data), .int .i64 a.i, .int .i64 a.k, .int .i64 a.l, .int .i64 a.z, .int .i64 a.b, .slice ao nm.length ca, .int .i64 a.f1, .int .i64 a.f2, .int .i64 a.f3, .int .i64 a.f4] 31)) w11 := hq10.grown hg11 (by have := hq10.size; rw [World.size_alloc] at this; exact this) (fun j hj => (ho10.lt j hj).1); have hlen11 : (strsV nm ++ [Value.string ⟨#[109, 97, 114, 107]⟩]).length = nm.length + 1 := (by rw [List.length_append, strsV_len]; rfl); rw [hlen11] at ho11; obtain ⟨gg, cap11, rfl, hgg1, hgg2, hcap1, hcap2, hcell11, _⟩ := own_at ho11 (by omega); clear hlen11 ho11 ho10 hg10 hg11; have hs11 := hq11.size; rw [World.size_alloc] at hs11; have hq9 : Below w9.heap.size w9 w11 := ((Below.refl _ _).alloc (Nat.le_refl _) _).trans (hq11.mono (by omega)); have hC11 := hC9.below hq9; have hA11 := (hq9.block _ hl9).trans hA9; have hB11 : w11.heap[w9.heap.size]? = some (.cells #[.int .i64 err, .int .i64 a.N, .string (mk a.data), .int .i64 a.i, .int .i64 a.k, .int .i64 a.l, .int .i64 a.z, .int .i64 a.b, .slice ao nm.length ca, .int .i64 a.f1, .int .i64 a.f2, .int .i64 a.f3, .int .i64 a.f4] 31 (0, 0)) := (hq11.block _ (by omega)).trans (heap_alloc_new _ _); have m0 := hC11.c0; have m1 := hC11.c1; have m2 := hC11.c2; have m3 := hC11.c3; have m4 := hC11.c4; have m5 := hC11.c5; have mz := hC11.lt; have n0 : w11.cell? ⟨w.heap.size + 1, 0, none⟩ = some (.int .i64 err) := (by simp [World.cell?, hA11]); have n1 : w11.cell? ⟨w.heap.size + 1, 1, none⟩ = some (.int .i64 a.N) := (by simp [World.cell?, hA11]); have n2 : w11.cell? ⟨w.heap.size + 1, 2, none⟩ = some (.string (mk a.data)) := (by simp [World.cell?, hA11]); have n3 : w11.cell? ⟨w.heap.size + 1, 3, none⟩ = some (.int .i64 a.i) := (by simp [World.cell?, hA11]); have n4 : w11.cell? ⟨w.heap.size + 1, 4, none⟩ = some (.int .i64 a.k) := (by simp [World.cell?, hA11]); have n5 : w11.cell? ⟨w.heap.size + 1, 5, none⟩ = some (.int .i64 a.l) := (by simp [World.cell?, hA11]); have n6 : w11.cell? ⟨w.heap.size + 1, 6, none⟩ = some (.int .i64 a.z) := (by simp [World.cell?, hA11]); have n7 : w11.cell? ⟨w.heap.size + 1, 7, none⟩ = some (.int .i64 a.b) := (by simp [World.cell?, hA11]); have n8 : w11.cell? ⟨w.heap.size + 1, 8, none⟩ = some (.slice ao nm.length ca) := (by simp [World.cell?, hA11]); have n9 : w11.cell? ⟨w.heap.size + 1, 9, none⟩ = some (.int .i64 a.f1) := (by simp [World.cell?, hA11]); have n10 : w11.cell? ⟨w.heap.size + 1, 10, none⟩ = some (.int .i64 a.f2) := (by simp [World.cell?, hA11]); have n11 : w11.cell? ⟨w.heap.size + 1, 11, none⟩ = some (.int .i64 a.f3) := (by simp [World.cell?, hA11]); have n12 : w11.cell? ⟨w.heap.size + 1, 12, none⟩ = some (.int .i64 a.f4) := (by simp [World.cell?, hA11]); have b0 : w11.cell? ⟨w9.heap.size, 0, none⟩ = some (.int .i64 err) := (by simp [World.cell?, hB11]); have b1 : w11.cell? ⟨w9.heap.size, 1, none⟩ = some (.int .i64 a.N) := (by simp [World.cell?, hB11]); have b2 : w11.cell? ⟨w9.heap.size, 2, none⟩ = some (.string (mk a.data)) := (by simp [World.cell?, hB11]); have b3 : w11.cell? ⟨w9.heap.size, 3, none⟩ = some (.int .i64 a.i) := (by simp [World.cell?, hB11]); have b4 : w11.cell? ⟨w9.heap.size, 4, none⟩ = some (.int .i64 a.k) := (by simp [World.cell?, hB11]); have b5 : w11.cell? ⟨w9.heap.size, 5, none⟩ = some (.int .i64 a.l) := (by simp [World.cell?, hB11]); have b6 : w11.cell? ⟨w9.heap.size, 6, none⟩ = some (.int .i64 a.z) := (by simp [World.cell?, hB11]); have b7 : w11.cell? ⟨w9.heap.size, 7, none⟩ = some (.int .i64 a.b) := (by simp [World.cell?, hB11]); have b8 : w11.cell? ⟨w9.heap.size, 8, none⟩ = some (.slice ao nm.length ca) := (by simp [World.cell?, hB11]); have b9 : w11.cell? ⟨w9.heap.size, 9, none⟩ = some (.int .i64 a.f1) := (by simp [World.cell?, hB11]); have b10 : w11.cell? ⟨w9.heap.size, 10, none⟩ = some (.int .i64 a.f2) := (by simp [World.cell?, hB11]); have b11 : w11.cell? ⟨w9.heap.size, 11, none⟩ = some (.int .i64 a.f3) := (by simp [World.cell?, hB11]); have b12 : w11.cell? ⟨w9.heap.size, 12, none⟩ = some (.int .i64 a.f4) := (by simp [World.cell?, hB11]); have fz11 := fun j => (show w11.frozen? ⟨w9.heap.size, j, none⟩ = false by simp [World.frozen?, hB11]); have hNG : NamesAt w11 (some ⟨gg, 0, none⟩) nm := (fun j x hx => ⟨gg, 0, rfl, hgg2, by rw [Nat.zero_add, hcell11 j (by have := (List.getElem?_eq_some_iff.1 hx).1; omega), List.getElem?_append_left (by rw [strsV_len]; exact (List.getElem?_eq_some_iff.1 hx).1), strsV_at hx]⟩); have hMk : w11.cell? ⟨gg, nm.length, none⟩ = some (.string ⟨#[109, 97, 114, 107]⟩) := (by rw [hcell11 _ (by omega), List.getElem?_append_right (by rw [strsV_len]; exact Nat.le_refl _), strsV_len, Nat.sub_self]; rfl); have hv11 : Vars w11 := hv9.below hq9 hv9.lt))
  refine (hT.prog (some ⟨gg, 0, none⟩) cap11 _ (names_set hNG (by omega)) (hv11.below ((Below.refl w9.heap.size w11).setCell (Nat.le_refl _) _) hv9.lt)).mono ?_
  rintro e w12 ⟨rfl, hb12⟩
  have hz12 := hb12.size
  simp only [World.size_setCell] at hz12
  have hz9 := hq9.size
  have hzs := hS9.size
  have hA12 := (hb12.block (w.heap.size + 1) (by simp; omega)).trans ((heap_setCell_other _ _ _ _ (show w.heap.size + 1 ≠ w9.heap.size by omega)).trans hA11)
  have hC12 : Holds w12 w.heap.size c := (hb12.block _ (by simp; omega)).trans ((heap_setCell_other _ _ _ _ (show w.heap.size ≠ w9.heap.size by omega)).trans hC11)
  have hG12 : w12.heap[gg]? = w11.heap[gg]? := (hb12.block _ (by simp; omega)).trans (heap_setCell_other _ _ _ _ (show gg ≠ w9.heap.size by omega))
  have hS12 : Below w.heap.size w w12 := (hS9.trans (hq9.mono hzs)).trans ((Below.setCell (Below.refl _ _) (by show w.heap.size ≤ w9.heap.size; omega) _).trans (hb12.mono (by simp; omega)))
  have p0 := hC12.c0; have p1 := hC12.c1; have p2 := hC12.c2; have p3 := hC12.c3; have p4 := hC12.c4; have p5 := hC12.c5; have pz := hC12.lt
  have q0 : w12.cell? ⟨w.heap.size + 1, 0, none⟩ = some (.int .i64 err) := (by simp [World.cell?, hA12]); have q1 : w12.cell? ⟨w.heap.size + 1, 1, none⟩ = some (.int .i64 a.N) := (by simp [World.cell?, hA12]); have q2 : w12.cell? ⟨w.heap.size + 1, 2, none⟩ = some (.string (mk a.data)) := (by simp [World.cell?, hA12]); have q3 : w12.cell? ⟨w.heap.size + 1, 3, none⟩ = some (.int .i64 a.i) := (by simp [World.cell?, hA12]); have q4 : w12.cell? ⟨w.heap.size + 1, 4, none⟩ = some (.int .i64 a.k) := (by simp [World.cell?, hA12]); have q5 : w12.cell? ⟨w.heap.size + 1, 5, none⟩ = some (.int .i64 a.l) := (by simp [World.cell?, hA12]); have q6 : w12.cell? ⟨w.heap.size + 1, 6, none⟩ = some (.int .i64 a.z) := (by simp [World.cell?, hA12]); have q7 : w12.cell? ⟨w.heap.size + 1, 7, none⟩ = some (.int .i64 a.b) := (by simp [World.cell?, hA12]); have q8 : w12.cell? ⟨w.heap.size + 1, 8, none⟩ = some (.slice ao nm.length ca) := (by simp [World.cell?, hA12]); have q9 : w12.cell? ⟨w.heap.size + 1, 9, none⟩ = some (.int .i64 a.f1) := (by simp [World.cell?, hA12]); have q10 : w12.cell? ⟨w.heap.size + 1, 10, none⟩ = some (.int .i64 a.f2) := (by simp [World.cell?, hA12]); have q11 : w12.cell? ⟨w.heap.size + 1, 11, none⟩ = some (.int .i64 a.f3) := (by simp [World.cell?, hA12]); have q12 : w12.cell? ⟨w.heap.size + 1, 12, none⟩ = some (.int .i64 a.f4) := (by simp [World.cell?, hA12])
  have hM12 : w12.cell? ⟨gg, nm.length, none⟩ = some (.string ⟨#[109, 97, 114, 107]⟩) := (World.cell?_of_block (a := ⟨gg, nm.length, none⟩) hG12).trans hMk
  have hR12 : NamesAt w12 (some ⟨gg, 0, none⟩) nm := fun j x hx => by
    obtain ⟨g', o', e, h2, h3⟩ := hNG j x hx
    cases e
    exact ⟨gg, 0, rfl, by omega, (World.cell?_of_block (a := ⟨gg, 0 + j, none⟩) hG12).trans h3⟩
  have hN12 := hN.below hS12 (Nat.le_refl _)
  have hl12 : w.heap.size + 1 < w12.heap.size := by omega
  have hnl := hF.1
  clear hG12 hA12 hb12 hC11 hA11 hB11 hq11 hq10 hcell11 hNG hMk hrun
  go_wp2
  go_loopg [20, 105] nm.length (fun g s20 s105 wx => ∃ k : Nat, k + g = nm.length ∧ s105 = .int .i64 k ∧ Below w12.heap.size w12 wx)
  case atStart => exact ⟨0, by omega, rfl, Below.refl _ _⟩
  case round =>
    obtain ⟨k, hkg, rfl, hnx⟩ := hrel
    have hsz := hnx.size
    have r8 := (hnx.cell (p := ⟨w.heap.size + 1, 8, none⟩) hl12).trans q8
    by_cases hlt : k < nm.length
    · have hlti : (k : Int) < (nm.length : Int) := by omega
      have hlti2 : (k : Int) < (nm.length : Int) + 1 := by omega
      obtain ⟨x, hx⟩ : ∃ x, nm[k]? = some x := ⟨_, List.getElem?_eq_getElem hlt⟩
      obtain ⟨g1, o1, e1, hg1, hc1⟩ := hR12 k x hx
      cases e1
      obtain ⟨g2, o2, rfl, hg2, hc2⟩ := hN12 k x hx
      have v1 : wr.cell? ⟨gg, k, none⟩ = some (.string (mk x)) := (hnx.cell (p := ⟨gg, k, none⟩) hg1).trans (by rw [Nat.zero_add] at hc1; exact hc1)
      have v2 : wr.cell? ⟨g2, o2 + k, none⟩ = some (.string (mk x)) := (hnx.cell (p := ⟨g2, o2 + k, none⟩) hg2).trans hc2
      clear hx
      go_wp2
      go_quiet (fail)
      go_wp2
      go_roundg (nm.length - (k + 1))
      case measure => omega
      case rel => exact ⟨k + 1, by omega, by go_num, by first | exact hnx | exact below_drewN hnx _⟩
    · obtain rfl : k = nm.length := by omega
      have hlc : w.heap.size < w12.heap.size := by omega
      have hgl : gg < w12.heap.size := by omega
      have e0 := (hnx.cell (p := ⟨w.heap.size, 0, none⟩) hlc).trans p0
      have e1 := (hnx.cell (p := ⟨w.heap.size, 1, none⟩) hlc).trans p1
      have e2 := (hnx.cell (p := ⟨w.heap.size, 2, none⟩) hlc).trans p2
      have e3 := (hnx.cell (p := ⟨w.heap.size, 3, none⟩) hlc).trans p3
      have e4 := (hnx.cell (p := ⟨w.heap.size, 4, none⟩) hlc).trans p4
      have e5 := (hnx.cell (p := ⟨w.heap.size, 5, none⟩) hlc).trans p5
      have d0 := (hnx.cell (p := ⟨w.heap.size + 1, 0, none⟩) hl12).trans q0
      have d1 := (hnx.cell (p := ⟨w.heap.size + 1, 1, none⟩) hl12).trans q1
      have d2 := (hnx.cell (p := ⟨w.heap.size + 1, 2, none⟩) hl12).trans q2
      have d3 := (hnx.cell (p := ⟨w.heap.size + 1, 3, none⟩) hl12).trans q3
      have d4 := (hnx.cell (p := ⟨w.heap.size + 1, 4, none⟩) hl12).trans q4
      have d5 := (hnx.cell (p := ⟨w.heap.size + 1, 5, none⟩) hl12).trans q5
      have d6 := (hnx.cell (p := ⟨w.heap.size + 1, 6, none⟩) hl12).trans q6
      have d7 := (hnx.cell (p := ⟨w.heap.size + 1, 7, none⟩) hl12).trans q7
      have d8 := (hnx.cell (p := ⟨w.heap.size + 1, 8, none⟩) hl12).trans q8
      have d9 := (hnx.cell (p := ⟨w.heap.size + 1, 9, none⟩) hl12).trans q9
      have d10 := (hnx.cell (p := ⟨w.heap.size + 1, 10, none⟩) hl12).trans q10
      have d11 := (hnx.cell (p := ⟨w.heap.size + 1, 11, none⟩) hl12).trans q11
      have d12 := (hnx.cell (p := ⟨w.heap.size + 1, 12, none⟩) hl12).trans q12
      have hNr := hN12.below hnx (Nat.le_refl _)
      have hmi : (nm.length : Int) < (nm.length : Int) + 1 := by omega
      clear r8
      go_wp2_with (go_at_call 18; refine (hT.ref ao ca _ hNr).mono ?_; rintro e w13 ⟨rfl, hb13⟩; have f8 := (hb13.cell (p := ⟨w.heap.size + 1, 8, none⟩) (by show w.heap.size + 1 < wr.heap.size; omega)).trans d8; have fm := (hb13.cell (p := ⟨gg, nm.length, none⟩) (by show gg < wr.heap.size; omega)).trans ((hnx.cell (p := ⟨gg, nm.length, none⟩) hgl).trans hM12))
      go_ret
      exact ⟨rfl, (hS12.trans (hnx.mono hS12.size)).trans (hb13.mono (by have := hS12.size; omega))⟩
end Ex
end Go.Proofs.YtjloonijnbfhhaaDoor
