/- The walk of CallsOnce: a line that is parsed has one printed form. -/
import Derived.Test.YtjloonijnbfhhaaDoorROwn
import Derived.Test.YtjloonijnbfhhaaDoorCallsSize
import Derived.IntWalk
namespace Go.Proofs.YtjloonijnbfhhaaDoor
open Go.RowKit Go.Maps Go.WideShapes Qw

namespace Rw
/-- A call as a value, field by field. -/
theorem parse_yes (s : ByteArray) (w : World) (hs : s.size ≤ 1000000000000) (hv : Vars w) (c : Cl.PCall) (h : Cl.parse (bs s) = some c) : Calls Tryd.prog 13 #[.string s] w fun e w' => e = .returned (.tuple #[.agg #[.int .i64 c.kind, .string (mk c.path), .string (mk c.other), .int .i64 c.off, .int .i64 c.size, .string (mk c.data)], .int .i64 0]) ∧ Below w.heap.size w w' := by
  refine (parse_any s w hs hv).mono ?_
  rintro e w' ⟨hb, rfl⟩
  rw [h]
  exact ⟨rfl, hb⟩
theorem parse_no (s : ByteArray) (w : World) (hs : s.size ≤ 1000000000000) (hv : Vars w) (h : Cl.parse (bs s) = none) : Calls Tryd.prog 13 #[.string s] w fun e w' => e = .returned (.tuple #[.agg #[.int .i64 0, .string ⟨#[]⟩, .string ⟨#[]⟩, .int .i64 0, .int .i64 0, .string ⟨#[]⟩], .int .i64 250]) ∧ Below w.heap.size w w' := by
  refine (parse_any s w hs hv).mono ?_
  rintro e w' ⟨hb, rfl⟩
  rw [h]
  exact ⟨rfl, hb⟩
theorem print_yes (c : Cl.PCall) (w : World) (t : List UInt8) (h : Cl.print c = some t) (hs : Sized c) (hf : Cl.Fits c) (hv : Vars w) : Calls Tryd.prog 15 #[.agg #[.int .i64 c.kind, .string (mk c.path), .string (mk c.other), .int .i64 c.off, .int .i64 c.size, .string (mk c.data)]] w fun e w' => e = .returned (.tuple #[.string (mk t), .int .i64 0]) ∧ Below w.heap.size w w' := by
  unfold Cl.print at h
  rw [Option.map_eq_some_iff] at h
  obtain ⟨⟨cmd, ps⟩, hr, rfl⟩ := h
  obtain ⟨n, hk, hn⟩ := Cl.rowAt_some hr
  have hn15 : n < 15 := (List.getElem?_eq_some_iff.1 hn).1
  obtain ⟨f, hf2⟩ := tellF_at hn15
  have := print_some c w n hn15 cmd ps f hn hf2 hs hf hv
  rw [hk]
  exact this
theorem own_same (c : Cl.PCall) (w : World) (h1 : 1 ≤ c.kind) (h2 : c.kind ≤ 15) (h : Cl.own c = c) : Calls Tryd.prog 21 #[.agg #[.int .i64 c.kind, .string (mk c.path), .string (mk c.other), .int .i64 c.off, .int .i64 c.size, .string (mk c.data)]] w fun e w' => e = .returned (.agg #[.int .i64 c.kind, .string (mk c.path), .string (mk c.other), .int .i64 c.off, .int .i64 c.size, .string (mk c.data)]) ∧ Below w.heap.size w w' := by
  have := own_any c w h1 h2
  rw [h] at this
  exact this
theorem sized_of {line : List UInt8} {c : Cl.PCall} (h : Cl.parse line = some c) (hl : line.length ≤ 10000000) : Sized c := by
  obtain ⟨h1, h2, h3⟩ := Cl.parse_small h
  exact ⟨by omega, by omega, by omega⟩
/-- A call's block, cell by cell. -/
theorem Holds.cells {w : World} {g : Nat} {c : Cl.PCall} (h : Holds w g c) : w.cell? ⟨g, 0, none⟩ = some (.int .i64 c.kind) ∧ w.cell? ⟨g, 1, none⟩ = some (.string (mk c.path)) ∧ w.cell? ⟨g, 2, none⟩ = some (.string (mk c.other)) ∧ w.cell? ⟨g, 3, none⟩ = some (.int .i64 c.off) ∧ w.cell? ⟨g, 4, none⟩ = some (.int .i64 c.size) ∧ w.cell? ⟨g, 5, none⟩ = some (.string (mk c.data)) :=
  ⟨h.c0, h.c1, h.c2, h.c3, h.c4, h.c5⟩
theorem holds_alloc {w : World} {c : Cl.PCall} : Holds (w.alloc (.cells #[.int .i64 c.kind, .string (mk c.path), .string (mk c.other), .int .i64 c.off, .int .i64 c.size, .string (mk c.data)] 23)) w.heap.size c := heap_alloc_new _ _

set_option maxRecDepth 100000 in
set_option maxHeartbeats 4000000 in
theorem once_no (s : ByteArray) (w : World) (hs : s.size ≤ 1048576) (hv : Vars w) (h : Cl.parse (bs s) = none) : Calls Tryd.prog 6 #[.string s] w fun e w' => e = .returned (.bool true) ∧ Below w.heap.size w w' := by
  have HP := Lib.hid h
  have hs2 : s.size ≤ 1000000000000 := by omega
  clear h
  go_enter Tryd.func6, Tryd.ntmps6
  go_wp2_with (first
    | (go_at_call 8; refine (known_any _ hv).mono ?_; rintro e w1 ⟨rfl, hb1⟩; have hv1 : Vars w1 := hv.below hb1 hv.lt; have hs1 := hb1.size)
    | (go_at_call 13; refine (parse_no s _ hs2 (by assumption) HP.out).mono ?_; rintro e w2 ⟨rfl, hb2⟩)
    | (go_at_call 19; refine (num_any _ _).mono ?_; rintro e w' ⟨rfl, rfl⟩))
  go_ret
  exact ⟨rfl, (hb1.trans (hb2.mono hs1)).alloc (by have := hb2.size; omega) _⟩

set_option maxRecDepth 100000 in
set_option maxHeartbeats 4000000 in
theorem once_yes (s : ByteArray) (w : World) (hs : s.size ≤ 1048576) (hv : Vars w) (c : Cl.PCall) (h : Cl.parse (bs s) = some c) : Calls Tryd.prog 6 #[.string s] w fun e w' => e = .returned (.bool true) ∧ Below w.heap.size w w' := by
  obtain ⟨hk1, hk2, hfi, hown, hlen⟩ := Cl.parse_is h
  obtain ⟨t, hp, hq⟩ := Cl.print_one h
  have hlt := hlen t hp
  rw [bs_len] at hlt
  have hsz := sized_of h (by rw [bs_len]; omega)
  have htwo : Cl.parse (bs (s ++ ⟨#[32, 49]⟩)) = none := by
    have e : bs (s ++ ⟨#[32, 49]⟩) = bs s ++ [32, 49] := by simp [bs]
    rw [e]; exact Cl.parse_two h
  have HP := Lib.hid h
  have HT := Lib.hid hp
  have HQ := Lib.hid hq
  have HO := Lib.hid hown
  have H2 := Lib.hid htwo
  have HF := Lib.hid hfi
  have hlen2 : ((mk t).size : Int) ≤ 4 * (s.size : Int) + 2 := by rw [mk_size]; omega
  have hs2 : s.size ≤ 1000000000000 := by omega
  have hs3 : (s ++ ⟨#[32, 49]⟩ : ByteArray).size ≤ 1000000000000 := by rw [ByteArray.size_append]; show s.size + 2 ≤ _; omega
  have hs4 : (mk t).size ≤ 1000000000000 := by rw [mk_size]; omega
  clear h hp hq hown htwo hfi hlen
  go_enter Tryd.func6, Tryd.ntmps6
  go_wp2_with (go_at_call 19; refine (num_any _ _).mono ?_; rintro e w' ⟨rfl, rfl⟩)
  refine (known_any _ hv).mono ?_
  rintro e w1 ⟨rfl, hb1⟩
  have hv1 : Vars w1 := hv.below hb1 hv.lt
  have hs1 := hb1.size
  go_wp2_with (go_at_call 19; refine (num_any _ _).mono ?_; rintro e w' ⟨rfl, rfl⟩)
  refine (parse_yes s _ hs2 hv1 c HP.out).mono ?_
  rintro e w2 ⟨rfl, hb2⟩
  have hz2 := hb2.size
  have hv2 : Vars w2 := hv1.below hb2 hv1.lt
  go_wp2_with (go_at_call 19; refine (num_any _ _).mono ?_; rintro e w' ⟨rfl, rfl⟩)
  refine (print_yes c _ t HT.out hsz HF.out (hv2.below ((Below.refl _ _).alloc (Nat.le_refl _) _) hv2.lt)).mono ?_
  rintro e w3 ⟨rfl, hb3⟩
  have hz3 := (below_over hb3).size
  have hv3 : Vars w3 := hv2.below (below_over hb3) hv2.lt
  go_wp2_with (go_at_call 19; refine (num_any _ _).mono ?_; rintro e w' ⟨rfl, rfl⟩)
  refine (parse_yes (mk t) _ hs4 hv3 c HQ.out).mono ?_
  rintro e w4 ⟨rfl, hb4⟩
  have hz4 := hb4.size
  have hv4 : Vars w4 := hv3.below hb4 hv3.lt
  go_wp2_with (go_at_call 19; refine (num_any _ _).mono ?_; rintro e w' ⟨rfl, rfl⟩)
  refine (print_yes c _ t HT.out hsz HF.out (hv4.below ((Below.refl _ _).alloc (Nat.le_refl _) _) hv4.lt)).mono ?_
  rintro e w5 ⟨rfl, hb5⟩
  have hz5 := (below_over hb5).size
  have hv5 : Vars w5 := hv4.below (below_over hb5) hv4.lt
  go_wp2_with (go_at_call 19; refine (num_any _ _).mono ?_; rintro e w' ⟨rfl, rfl⟩)
  refine (parse_no _ _ hs3 hv5 H2.out).mono ?_
  rintro e w6 ⟨rfl, hb6⟩
  have hz6 := hb6.size
  have y3 := hb3.size
  have y5 := hb5.size
  simp only [World.size_alloc] at y3 y5
  have hC : Holds w6 w2.heap.size c := (hb6.block _ (by omega)).trans ((hb5.block _ (by simp; omega)).trans ((heap_alloc_old _ _ (by omega)).trans ((hb4.block _ (by omega)).trans ((hb3.block _ (by simp)).trans holds_alloc))))
  have hD : Holds w6 w4.heap.size c := (hb6.block _ (by omega)).trans ((hb5.block _ (by simp)).trans holds_alloc)
  have hg2 : w2.heap.size < w6.heap.size := by omega
  have hg4 : w4.heap.size < w6.heap.size := by omega
  have hB6 : Below w.heap.size w w6 := ((((hb1.trans (hb2.mono hs1)).trans ((below_over hb3).mono (by omega))).trans (hb4.mono (by omega))).trans ((below_over hb5).mono (by omega))).trans (hb6.mono (by omega))
  go_wp2
  have hC7 : Holds (w6.alloc (.cells #[.int .i64 0, .string ⟨#[]⟩, .string ⟨#[]⟩, .int .i64 0, .int .i64 0, .string ⟨#[]⟩] 23)) w2.heap.size c := (heap_alloc_old _ _ hg2).trans hC
  have hD7 : Holds (w6.alloc (.cells #[.int .i64 0, .string ⟨#[]⟩, .string ⟨#[]⟩, .int .i64 0, .int .i64 0, .string ⟨#[]⟩] 23)) w4.heap.size c := (heap_alloc_old _ _ hg4).trans hD
  have hB7 : Below w.heap.size w (w6.alloc (.cells #[.int .i64 0, .string ⟨#[]⟩, .string ⟨#[]⟩, .int .i64 0, .int .i64 0, .string ⟨#[]⟩] 23)) := hB6.alloc (by omega) _
  generalize w6.alloc (.cells #[.int .i64 0, .string ⟨#[]⟩, .string ⟨#[]⟩, .int .i64 0, .int .i64 0, .string ⟨#[]⟩] 23) = W7 at *
  clear hC hD hb1 hb2 hb3 hb4 hb5 hb6 hv1 hv2 hv3 hv4 hv5 hB6
  have hl2 := hC7.lt
  have hl4 := hD7.lt
  obtain ⟨c0, c1, c2, c3, c4, c5⟩ := hC7.cells
  obtain ⟨d0, d1, d2, d3, d4, d5⟩ := hD7.cells
  have HL2 := Lib.hid hl2
  have HB7 := Lib.hid hB7
  clear hB7 hC7 hD7
  have hw1 : IntKind.i64.wrap (4 * (s.size : Int)) = 4 * (s.size : Int) := IntWalk.i64_in _ (by omega)
  have hw2 : IntKind.i64.wrap (4 * (s.size : Int) + 2) = 4 * (s.size : Int) + 2 := IntWalk.i64_in _ (by omega)
  go_region_held3 (fun w' => w'.cell? ⟨w2.heap.size, 0, none⟩ = some (.int .i64 c.kind) ∧ w'.cell? ⟨w2.heap.size, 1, none⟩ = some (.string (mk c.path)) ∧ w'.cell? ⟨w2.heap.size, 2, none⟩ = some (.string (mk c.other)) ∧ w'.cell? ⟨w2.heap.size, 3, none⟩ = some (.int .i64 c.off) ∧ w'.cell? ⟨w2.heap.size, 4, none⟩ = some (.int .i64 c.size) ∧ w'.cell? ⟨w2.heap.size, 5, none⟩ = some (.string (mk c.data)) ∧
      w'.cell? ⟨w4.heap.size, 0, none⟩ = some (.int .i64 c.kind) ∧ w'.cell? ⟨w4.heap.size, 1, none⟩ = some (.string (mk c.path)) ∧ w'.cell? ⟨w4.heap.size, 2, none⟩ = some (.string (mk c.other)) ∧ w'.cell? ⟨w4.heap.size, 3, none⟩ = some (.int .i64 c.off) ∧ w'.cell? ⟨w4.heap.size, 4, none⟩ = some (.int .i64 c.size) ∧ w'.cell? ⟨w4.heap.size, 5, none⟩ = some (.string (mk c.data))) (go_keep)
    ((first
      | (go_at_call 19; refine (num_any _ _).mono ?_; rintro e w' ⟨rfl, rfl⟩)
      | (go_at_call 21; refine (own_same c _ hk1 hk2 HO.out).mono ?_; rintro e w8 ⟨rfl, hb8⟩; have e0 := (hb8.cell (p := ⟨w2.heap.size, 0, none⟩) hl2).trans c0; have e1 := (hb8.cell (p := ⟨w2.heap.size, 1, none⟩) hl2).trans c1; have e2 := (hb8.cell (p := ⟨w2.heap.size, 2, none⟩) hl2).trans c2; have e3 := (hb8.cell (p := ⟨w2.heap.size, 3, none⟩) hl2).trans c3; have e4 := (hb8.cell (p := ⟨w2.heap.size, 4, none⟩) hl2).trans c4; have e5 := (hb8.cell (p := ⟨w2.heap.size, 5, none⟩) hl2).trans c5; have f0 := (hb8.cell (p := ⟨w4.heap.size, 0, none⟩) hl4).trans d0; have f1 := (hb8.cell (p := ⟨w4.heap.size, 1, none⟩) hl4).trans d1; have f2 := (hb8.cell (p := ⟨w4.heap.size, 2, none⟩) hl4).trans d2; have f3 := (hb8.cell (p := ⟨w4.heap.size, 3, none⟩) hl4).trans d3; have f4 := (hb8.cell (p := ⟨w4.heap.size, 4, none⟩) hl4).trans d4; have f5 := (hb8.cell (p := ⟨w4.heap.size, 5, none⟩) hl4).trans d5)))
  all_goals
    clear hw1 hw2
    go_wp2
    go_ret
    exact ⟨rfl, (Below.drew HB7.out).trans (hb8.mono HB7.out.size)⟩
theorem once_any (s : ByteArray) (w : World) (hs : s.size ≤ 1048576) (hv : Vars w) : Calls Tryd.prog 6 #[.string s] w fun e w' => e = .returned (.bool true) ∧ Below w.heap.size w w' := by
  cases h : Cl.parse (bs s) with
  | none => exact once_no s w hs hv h
  | some c => exact once_yes s w hs hv c h
end Rw
end Go.Proofs.YtjloonijnbfhhaaDoor
