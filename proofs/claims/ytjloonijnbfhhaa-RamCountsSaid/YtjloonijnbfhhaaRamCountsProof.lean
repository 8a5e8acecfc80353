/- The statement RamCounts, proved: whatever the number of blocks, the list of indices and the call, the law answers true, and what came in reads as it did. No condition. -/
import Derived.Test.YtjloonijnbfhhaaRamCounts
import Derived.Test.YtjloonijnbfhhaaOpen
namespace Go.Proofs.Ytjloonijnbfhhaa.ramCounts
open Go.ChangeShapes Go.WideShapes Go.ChangeAt Go.RowKit Go.Joins

theorem own : ownKnob Try.prog.godebug = none := by kernel_rfl
theorem laidOut : laidOutB Try.prog = true := by kernel_rfl
theorem bytesI : Try.prog.bytesOf 3 = 8 := by kernel_rfl
theorem cellsI : Try.prog.cellsOf 3 = 1 := by kernel_rfl
theorem cellsC : Try.prog.cellsOf 24 = 6 := by kernel_rfl

set_option maxRecDepth 100000 in
theorem lifted (os : Os) (started : os.Started) (H : Type) (enc : TypeId × Value → H) :
    ReturnsInHanded {} Try.checked os 3 .any (Rows.ramCountsSpec.pre6 enc Try.prog Try.f3 Rows.ramCountsRow.domain false) (Rows.ramCountsSpec.post enc Try.prog Try.f3 false true false false) := by
  refine returnsInHanded_of_change_sized (C := Try.checked) own started (by kernel_rfl) Try.func3
    (ChangeSpec.witness6 (enc := enc) (C := Try.checked) false ⟨#[], #[.int .i64 0, .slice none 0 0, .agg #[.int .i64 0, .string ⟨#[]⟩, .string ⟨#[]⟩, .int .i64 0, .int .i64 0, .string ⟨#[]⟩]], []⟩ 8 (by kernel_rfl) (by kernel_rfl) (by kernel_rfl) (by kernel_rfl)) ?_
  intro W base args ds gs before hval0 hW hcnd hsz0 _
  have hsz : (DataW.weightsEach Try.prog (Try.f3.params.toList ++ Rows.ramCountsSpec.plain.varTypes Try.prog) (ds ++ gs)).all (· ≤ reachBytes) = true := hsz0
  clear hsz0
  have hval : ∀ (j : Nat) t v, Try.f3.params[j]? = some t → args[j]? = some v → Value.okWide Try.prog W .any base t v := hval0
  have hW' := hW
  obtain ⟨p, q, hA0, hV, rfl, hfz, hnd⟩ := hW
  have hA : DataW.TrodAll enc Try.prog W 0 (fun _ => true) true Try.f3.params.toList args.toList ds p := hA0
  rw [Try.params3] at hA hval hsz
  obtain ⟨v0, v1, v2, d0, d1, d2, p0, p1, p2, rfl, rfl, rfl, h0, h1, h2⟩ := trodAll_three hA
  obtain ⟨rfl, rfl⟩ := trodVars_none hV
  have k0 := h0
  have k1 := h1
  have k2 := h2
  have lt0 : ∀ x ∈ p0, x.block < W.heap.size := by obtain ⟨m, hm⟩ := k0; exact DataW.trod_lt m _ _ _ hm
  have lt1 : ∀ x ∈ p1, x.block < W.heap.size := by obtain ⟨m, hm⟩ := k1; exact DataW.trod_lt m _ _ _ hm
  have lt2 : ∀ x ∈ p2, x.block < W.heap.size := by obtain ⟨m, hm⟩ := k2; exact DataW.trod_lt m _ _ _ hm
  have fin : ∀ e W', (e = Ending.returned (.bool true) ∧ Below W.heap.size W W') → ∃ v, e = Ending.returned v ∧ Rows.ramCountsSpec.post enc Try.checked.prog Try.f3 false true false false W #[v0, v1, v2] v W' := by
    intro e W' ⟨he, bel⟩
    subst he
    exact ⟨_, rfl, _, _, _, [], _, [], hW', trodAll_mk1 (shut_bool Try.underlying4 _), (trodAll_cons_mk (Below.trod laidOut (by kernel_rfl) (of_decide_eq_true (by kernel_rfl)) k0 bel lt0) (trodAll_cons_mk (Below.trod laidOut (by kernel_rfl) (of_decide_eq_true (by kernel_rfl)) k1 bel lt1) (trodAll_cons_mk (Below.trod laidOut (by kernel_rfl) (of_decide_eq_true (by kernel_rfl)) k2 bel lt2) trodAll_mk0))), rfl, bel.frame _, fun h => by cases h⟩
  obtain ⟨n, rfl, _, _, _⟩ := open_int Try.underlying3 (hval 0 3 v0 rfl rfl) h0
  obtain ⟨c0, c1, c2, c3, c4, c5, y0, y1, y2, y3, y4, y5, m, rfl, hd2, _, hy0, hy1, hy2, hy3, hy4, hy5⟩ := open_agg6 Try.underlying24 (by kernel_rfl) cellsC (hval 2 24 v2 rfl rfl) h2
  obtain ⟨k, e0, _, _⟩ := DataW.trod_int Try.underlying3 hy0
  obtain ⟨s1, e1, _, _⟩ := DataW.trod_string Try.underlying9 hy1
  obtain ⟨s2, e2, x2, _⟩ := DataW.trod_string Try.underlying9 hy2
  obtain ⟨n3, e3, _, _⟩ := DataW.trod_int Try.underlying3 hy3
  obtain ⟨n4, e4, _, _⟩ := DataW.trod_int Try.underlying3 hy4
  obtain ⟨s5, e5, x5, _⟩ := DataW.trod_string Try.underlying9 hy5
  simp only [List.cons.injEq, and_true] at e0 e1 e2 e3 e4 e5
  subst e0 e1 e2 e3 e4 e5
  have r2 : s2.size ≤ 1000000000000000 := by
    have := sized_field hsz (j := 2) (i := 2) (t := 24) (u := 9) rfl (congrArg some hd2) Try.underlying24 rfl (by rw [x2]; rfl)
    have e : s2.data.toList.length = s2.size := rfl
    rw [e] at this; unfold reachBytes at this; omega
  have r5 : s5.size ≤ 1000000000000000 := by
    have := sized_field hsz (j := 2) (i := 5) (t := 24) (u := 9) rfl (congrArg some hd2) Try.underlying24 rfl (by rw [x5]; rfl)
    have e : s5.data.toList.length = s5.size := rfl
    rw [e] at this; unfold reachBytes at this; omega
  obtain ⟨a0, len, cap, rfl⟩ := okWide_slice Try.underlying22 (hval 1 22 v1 rfl rfl)
  obtain ⟨fuel, hf⟩ := h1
  rcases open_ints Try.underlying22 Try.underlying3 cellsI hf with ⟨hcs, hx⟩ | ⟨a, len', cap', zs, hcs, _, hl, hm, hz, hx, hcell, hwz⟩
  · simp [Value.cells] at hcs
    obtain ⟨rfl, rfl, rfl⟩ := hcs
    exact (Rc.law_any n k n3 n4 s1 s2 s5 [] none 0 0 0 W (fun h => by simp at h) (fun _ => ⟨rfl, rfl⟩) (by decide) (fun h => by simp at h) (fun j hj => by simp at hj) (fun x hx => by simp at hx) r5 r2).mono fin
  · simp [Value.cells] at hcs
    obtain ⟨rfl, rfl, rfl⟩ := hcs
    simp only [Prod.mk.injEq] at hx
    obtain ⟨hd1, hp1⟩ := hx
    simp only [if_true] at hz
    have hlz : (zs.take len).length = len := by rw [List.length_take]; omega
    have hreach : (zs.take len).length * 8 ≤ 140737488351232 := by
      have := sized_slice hsz (j := 1) (t := 22) (e := 3) rfl (congrArg some hd1) Try.underlying22
      rw [bytesI] at this
      simp only [lits, List.length_map, List.length_take, List.length_drop, reachBytes] at this
      rw [List.length_take]; omega
    obtain ⟨b, o, spot⟩ := a
    have hcell' : ∀ j, j < (zs.take len).length → W.cell? ((⟨b, o, spot⟩ : Addr).add j) = some (.int .i64 ((zs.take len).getD j 0)) := fun j hj => by
      have h := hcell j (by rw [hlz] at hj; omega)
      have e : (zs.take len).getD j 0 = zs.getD j 0 := by
        simp only [List.getD_eq_getElem?_getD, List.getElem?_take]
        rw [if_pos (by omega)]
      rw [e]; exact h
    by_cases hl0 : len = 0
    · have hz0 : zs.take len = [] := by rw [hl0]; rfl
      have := Rc.law_any n k n3 n4 s1 s2 s5 [] (some ⟨b, o, spot⟩) 0 0 cap W (fun h => by simp at h) (fun h => by cases h) (by decide) (fun h => by simp at h) (fun j hj => by simp at hj) (fun x hx => by simp at hx) r5 r2
      subst hl0
      exact this.mono fin
    · have hspot : spot = none := by simpa [Addr.add] using World.cell?_spot (hcell' 0 (by omega))
      subst hspot
      have hbW : b < W.heap.size := by
        have h := hcell' 0 (by omega)
        rcases Nat.lt_or_ge b W.heap.size with h' | h'
        · exact h'
        · simp [World.cell?, Addr.add, Array.getElem?_eq_none h'] at h
      have := Rc.law_any n k n3 n4 s1 s2 s5 (zs.take len) (some ⟨b, o, none⟩) b o cap W (fun _ => rfl) (fun h => by cases h) hreach (fun _ => hbW) (fun j hj => by rw [← add_plain]; exact hcell' j hj) (fun x hx => hwz x (List.mem_of_mem_take hx)) r5 r2
      rw [hlz] at this
      exact this.mono fin

/-- The statement. -/
theorem proved : Rows.RamCountsSaid :=
  OpenClaim.holds_of_wide 3 Try.f3 rfl rfl rfl rfl rfl rfl rfl ⟨rfl, rfl, rfl, rfl, rfl⟩ rfl rfl rfl rfl rfl (by kernel_rfl) Try.func3 (by kernel_rfl)
    (of_decide_eq_true (by kernel_rfl)) (by unfold Func.isWrapper; first | (rw [if_pos (by decide +kernel)]; kernel_rfl) | (rw [if_neg (by decide +kernel)]; exact ⟨rfl, rfl⟩))
    (fun os started H enc _ => lifted os started H enc)
#print axioms proved
end Go.Proofs.Ytjloonijnbfhhaa.ramCounts
