/- The statement RamCounts: New of every number of blocks, Takes of every list, Bound of every call. No condition. -/
import Derived.Test.YtjloonijnbfhhaaRows
import Derived.Test.YtjloonijnbfhhaaGen
import Derived.Test.YtjloonijnbfhhaaTakesRef
import Derived.Test.YtjloonijnbfhhaaRamNew
import Derived.ProofKit
import Derived.SizedLaws
import Derived.BigQuiet
import Derived.Deep.QuietTactic
namespace Go.Proofs.Ytjloonijnbfhhaa
open Go.RowKit Go.ChangeShapes Go.WideShapes Go.ChangeAt

namespace Rc
open Tk (cs)

/-- The law's own copy of the list, and the call in its box. -/
structure Here (w wr : World) (zs : List Int) (g : Nat) (k off size : Int) (p q d : ByteArray) : Prop where
  below : Below w.heap.size w wr
  lo : w.heap.size < g
  hi : g < wr.heap.size
  row : ∀ j, j < zs.length + 1 → wr.cell? ⟨g, j, none⟩ = (cs zs ++ [.int .i64 (-77)])[j]?
  c0 : wr.cell? ⟨w.heap.size, 0, none⟩ = some (.int .i64 k)
  c1 : wr.cell? ⟨w.heap.size, 1, none⟩ = some (.string p)
  c2 : wr.cell? ⟨w.heap.size, 2, none⟩ = some (.string q)
  c3 : wr.cell? ⟨w.heap.size, 3, none⟩ = some (.int .i64 off)
  c4 : wr.cell? ⟨w.heap.size, 4, none⟩ = some (.int .i64 size)
  c5 : wr.cell? ⟨w.heap.size, 5, none⟩ = some (.string d)
theorem Here.on {w wr w1 : World} {zs : List Int} {g : Nat} {k off size : Int} {p q d : ByteArray} (h : Here w wr zs g k off size p q d) (hb : Below wr.heap.size wr w1) : Here w w1 zs g k off size p q d := by
  have hs := h.below.size
  have hh := h.hi
  have hl := h.lo
  have c : ∀ b o, b < wr.heap.size → w1.cell? ⟨b, o, none⟩ = wr.cell? ⟨b, o, none⟩ := (bcell hb).1
  refine ⟨h.below.trans (hb.mono hs), hl, by have := hb.size; omega, fun j hj => (c g j hh).trans (h.row j hj), ?_, ?_, ?_, ?_, ?_, ?_⟩
  · exact (c _ _ (by omega)).trans h.c0
  · exact (c _ _ (by omega)).trans h.c1
  · exact (c _ _ (by omega)).trans h.c2
  · exact (c _ _ (by omega)).trans h.c3
  · exact (c _ _ (by omega)).trans h.c4
  · exact (c _ _ (by omega)).trans h.c5
theorem Here.drewN {w wr : World} {zs : List Int} {g : Nat} {k off size : Int} {p q d : ByteArray} (h : Here w wr zs g k off size p q d) (n : Nat) : Here w (wr.drewN n) zs g k off size p q d :=
  h.on (below_drewN (Below.refl _ _) n)
theorem row_at (zs : List Int) (j : Nat) (h : j < zs.length) : (cs zs ++ [.int .i64 (-77)])[j]? = some (.int .i64 (zs.getD j 0)) := by
  rw [List.getElem?_append_left (by simpa [cs] using h)]
  exact Tk.cs_get zs j h
theorem row_end (zs : List Int) : (cs zs ++ [.int .i64 (-77)])[zs.length]? = some (.int .i64 (-77)) := by
  rw [List.getElem?_append_right (by simp [cs])]; simp [cs]

set_option maxRecDepth 100000 in
set_option maxHeartbeats 4000000 in
theorem law_any (n k off size : Int) (p q d : ByteArray) (zs : List Int) (ao : Option Addr) (b o cap : Nat) (w : World) (hao : 0 < zs.length → ao = some ⟨b, o, none⟩) (hnil : ao = none → zs.length = 0 ∧ cap = 0) (hreach : zs.length * 8 ≤ 140737488351232) (hb : 0 < zs.length → b < w.heap.size)
    (hc : ∀ j, j < zs.length → w.cell? ⟨b, o + j, none⟩ = some (.int .i64 (zs.getD j 0))) (hwz : ∀ n ∈ zs, (Lit.int .i64 n).wf = true) (hd : d.size ≤ 1000000000000000) (hq : q.size ≤ 1000000000000000) :
    Calls Try.prog 3 #[.int .i64 n, .slice ao zs.length cap, .agg #[.int .i64 k, .string p, .string q, .int .i64 off, .int .i64 size, .string d]] w fun e w' => e = .returned (.bool true) ∧ Below w.heap.size w w' := by
  obtain ⟨i0, hi, hz0, hz1, hz2⟩ := info_parts info_int
  have hsrc : ∀ W : World, Below w.heap.size w W → ∀ ad, ao = some ad → ∀ j u, (cs zs)[j]? = some u → W.cell? (ad.add j) = some u := by
    intro W hW ad had j u hj
    have hjl : j < zs.length := by
      have := (List.getElem?_eq_some_iff.1 hj).1
      simpa [cs] using this
    rw [hao (by omega)] at had
    cases had
    rw [Tk.cs_get zs j hjl] at hj
    cases hj
    rw [show (⟨b, o, none⟩ : Addr).add j = ⟨b, o + j, none⟩ by simp [Addr.add]]
    exact (hW.cell (by exact hb (by omega))).trans (hc j hjl)
  have hone : ∀ u ∈ cs zs, u.oneCell' = true := ints_oneCell _ _
  go_enter Try.func3, Try.ntmps3
  go_wp2_with fail
  refine (Rn.new_any n _).mono ?_
  rintro e w1 ⟨pv, ev, rfl, hb1, hcase⟩
  have hbx : Below w.heap.size w w1 := ((Below.refl _ _).alloc (Nat.le_refl _) _).trans (hb1.mono (by simp))
  have hsx : w.heap.size < w1.heap.size := by have := hb1.size; simp at this; omega
  have HBOX := Lib.hid (hb1.block w.heap.size (by simp))
  rcases hcase with ⟨a, g1, g2, rfl, rfl⟩ | ⟨g1, rfl, rfl⟩ | ⟨g1, g2, rfl, rfl⟩
  all_goals
    go_wp2_with (first | (at_builtin; refine wpList_append_any _ rfl (.tmp 49) (.tmp 50) 22 rfl (w.heap.size + 1) 3 i0 (.int .i64 0) 1 8 Try.underlying22 hi hz0 hz1 hz2 rfl (by decide) _ 0 [] rfl (World.ownsRow_nil _ _ _ _) ao zs.length cap (cs zs) rfl hnil (by simp [cs]) (hsrc _ hbx) hone (by unfold maxLen; omega) (by omega) (by omega) ?_; intro v2 w2 ho2 hg2 _; have hs2 := hg2.size; simp only [Nat.zero_add, List.nil_append] at ho2) | (at_builtin; refine wpList_append_own_at _ rfl (.tmp 52) (.tmp 53) 22 rfl (w.heap.size + 1) 3 i0 (.int .i64 0) 1 8 Try.underlying22 hi hz0 hz1 hz2 rfl (by decide) v2 _ _ rfl (ho2.alloc _) ⟨w2.heap.size, 0, none⟩ 1 1 [.int .i64 (-77)] rfl rfl (cell_one_new _ _ _) (by intro u hu; simp at hu; subst hu; rfl) (by unfold maxLen; omega) (by omega) (by simp; omega) ?_; intro v3 w3 ho3 hg3 _ _; obtain ⟨g, cp, hv3, q1, q2, q3, q4, q5, _⟩ := own_at ho3 (by omega); subst hv3))
    have hb2 : Below w1.heap.size w1 w2 := (Below.refl _ _).grown hg2 (Nat.le_refl _) (fun k hk => by cases hk)
    have H3 : Here w w3 zs g k off size p q d := by
      have hb3 : Below (w.heap.size + 1) w2 w3 := ((Below.refl _ _).alloc (by omega) _).grown hg3 (by simp; omega) (fun k hk => (ho2.lt k hk).1)
      have hbox := (hb3.block w.heap.size (by omega)).trans ((hb2.block w.heap.size hsx).trans HBOX.out)
      rw [heap_alloc_new] at hbox
      refine ⟨hbx.trans ((hb2.mono (by omega)).trans (hb3.mono (by omega))), by omega, q2, fun j hj => q5 j (by omega), ?_, ?_, ?_, ?_, ?_, ?_⟩ <;> simp [World.cell?, hbox]
    clear ho2 hg2 hg3 ho3 q5 hb2 hsx HBOX hb1
    refine (Tk.takes_any zs (some ⟨g, 0, none⟩) g 0 cp w3 (fun _ => rfl) hreach (fun _ => q2) (fun j hj => by rw [Nat.zero_add]; exact (H3.row j (by omega)).trans (row_at zs j hj)) hwz).mono ?_
    rintro e w4 ⟨rfl, hb4⟩
    have H4 := H3.on hb4
    clear H3 hb4 q2
    go_wp2_with fail
    refine (Tk.ref_any zs ao b o cap w4 hao hreach (fun h => by have := hb h; have := H4.below.size; omega) (fun j hj => (H4.below.cell (by exact hb (by omega))).trans (hc j hj))).mono ?_
    rintro e w5 ⟨rfl, hb5⟩
    have H5 := H4.on hb5
    clear H4 hb5
    have e1 : w5.cell? ⟨g, zs.length, none⟩ = some (.int .i64 (-77)) := (H5.row _ (by omega)).trans (row_end zs)
    go_wp2
    go_loopw [86] (fun i wr => ∃ j : Nat, j ≤ zs.length ∧ i = .int .i64 j ∧ Here w wr zs g k off size p q d) (fun i _ => zs.length - (intOf i).toNat)
    case atStart => exact ⟨0, Nat.zero_le _, rfl, H5⟩
    case round =>
      obtain ⟨j, hj, rfl, HR⟩ := hrel
      clear H5 e1
      by_cases hlt : j < zs.length
      · have c1 : wr.cell? ⟨g, j, none⟩ = some (.int .i64 (zs.getD j 0)) := (HR.row j (by omega)).trans (row_at zs j hlt)
        have c2 : wr.cell? ⟨b, o + j, none⟩ = some (.int .i64 (zs.getD j 0)) := (HR.below.cell (by exact hb (by omega))).trans (hc j hlt)
        have hao' := hao (by omega)
        subst hao'
        obtain ⟨x, hx⟩ : ∃ x, x = zs.getD j 0 := ⟨_, rfl⟩
        rw [← hx] at c1 c2
        clear hx hc hsrc
        have i1 : (0 : Int) ≤ (j : Int) := by omega
        have i2 : (j : Int) < ((zs.length : Nat) : Int) + 1 := by omega
        have i3 : (j : Int) < ((zs.length : Nat) : Int) := by omega
        go_wp2
        go_quiet (fail)
        go_wp2
        go_roundw
        case rel => exact ⟨j + 1, by omega, by go_num, HR.drewN _⟩
        case measure => simp [intOf]; omega
      · have d0 := HR.c0
        have d1 := HR.c1
        have d2 := HR.c2
        have d3 := HR.c3
        have d4 := HR.c4
        have d5 := HR.c5
        go_wp2_with fail
        refine (Rn.bound_any k off size p q d _ hd hq).mono ?_
        rintro e w6 ⟨rfl, hb6⟩
        have H6 := HR.on hb6
        clear d0 d1 d2 d3 d4 d5
        have d0 := H6.c0
        have d1 := H6.c1
        have d2 := H6.c2
        have d3 := H6.c3
        have d4 := H6.c4
        have d5 := H6.c5
        go_wp2_with fail
        refine (Rn.boundR_any k off size p q d _ hd hq).mono ?_
        rintro e w7 ⟨rfl, hb7⟩
        have H7 := H6.on hb7
        clear d0 d1 d2 d3 d4 d5
        go_wp2
        go_ret
        exact ⟨rfl, H7.below⟩
end Rc
end Go.Proofs.Ytjloonijnbfhhaa
