/- Items that came in, opened; what a bounded bulk says of them. -/
import Derived.Test.YtnmgdlmicgbapaaDoorPVars
import Derived.Deep.Slices
import Derived.Deep.Fields
import Derived.ChangeSame
import Derived.ChangeSlices
namespace Go.Proofs.YtnmgdlmicgbapaaDoor.packEncodes
open Go.ChangeShapes Go.WideShapes Go.Deep Go.ChangeAt Go.RowKit
open Go.Joins (slice_form)

section
variable {H : Type} {enc : TypeId × Value → H} {P : Program} {w : World} {base : Nat} {spare : Nat → Bool} {held : Bool}
theorem open_slice_fields {t e : TypeId} {fs : Array Field} {fuel : Nat} {cs : List Value} {x : DataW H × List MemPlace} (ht : P.underlying t = some (.slice e)) (he : P.underlying e = some (.struct fs))
    (hone : oneCellFields P fs = true) (hC : P.cellsOf e = fs.size) (h : DataW.trod enc P w base spare held fuel t cs = some x) :
    (cs = [.slice none 0 0] ∧ x = (.nil, [])) ∨
    ∃ (a : Addr) (len cap m : Nat) (D : Nat → DataW H) (Pl : Nat → List MemPlace), cs = [.slice (some a) len cap] ∧ base ≤ a.block ∧ len ≤ cap ∧ cap ≤ maxLen ∧ m = (if spare a.block then cap else len) ∧
      x = (.slice ((List.range len).map D) ((List.range (m - len)).map fun j => D (len + j)), MemPlace.row a (m * fs.size) ++ (List.range m).flatMap Pl) ∧
      ∀ i, i < m → ∃ (ys : List (DataW H × List MemPlace)) (n : Nat), D i = .agg (ys.map (·.1)) ∧ Pl i = ys.flatMap (·.2) ∧ ys.length = fs.size ∧
        ∀ (j : Nat) (f : Field), fs[j]? = some f → ∃ (v : Value) (y : DataW H × List MemPlace), w.cell? (a.add (i * fs.size + j)) = some v ∧ ys[j]? = some y ∧ DataW.trod enc P w base spare held n f.type [v] = some y := by
  rcases open_slice ht h with h0 | ⟨a, len, cap, m, n, D, Pl, hcs, hb, hl, hm, hmm, hx, hi⟩
  · exact .inl h0
  · refine .inr ⟨a, len, cap, m, D, Pl, hcs, hb, hl, hm, hmm, by rw [hC] at hx; exact hx, fun i him => ?_⟩
    obtain ⟨cs', hc, ht'⟩ := hi i him
    rw [hC] at hc
    obtain ⟨ys, n', hn', hy, hlen, hyl, hf⟩ := DataW.trod_struct he ht'
    obtain ⟨_, hcl, hat⟩ := World.cells?_some hc
    simp only [Prod.mk.injEq] at hy
    refine ⟨ys, n', hy.1, hy.2, hyl, fun j f hj => ?_⟩
    obtain ⟨ho, hk⟩ := hone_of hone j f hj
    have hjl : j < fs.size := (Array.getElem?_eq_some_iff.1 hj).1
    have hcell := hat j hjl
    have hv : cs'[j]? = some (cs'[j]'(by omega)) := List.getElem?_eq_getElem (by omega)
    have h1 := hf j f hj
    rw [ho, hk] at h1
    have hone' : (cs'.drop j).take 1 = [cs'[j]'(by omega)] := by
      rw [List.drop_eq_getElem_cons (by omega)]
      rfl
    rw [hone'] at h1
    have hys : ys[j]? = some (ys[j]'(by omega)) := List.getElem?_eq_getElem (by omega)
    refine ⟨_, _, ?_, hys, h1.trans hys⟩
    rw [← Go.Deep.add_add, hcell, hv]
end
theorem range_of {n : Int} (h : (Lit.int .i64 n).wf = true) : -9223372036854775808 ≤ n ∧ n ≤ 9223372036854775807 := by
  simp [Lit.wf, IntKind.min, IntKind.max, IntKind.signed, IntKind.bits] at h
  omega
theorem bulk_pos {H : Type} : ∀ d : DataW H, 1 ≤ Rows.uptoBulk d := by
  intro d
  cases d with
  | lit l => cases l <;> simp [Rows.uptoBulk]
  | _ => simp [Rows.uptoBulk]
theorem bulk_len {H : Type} : ∀ l : List (DataW H), l.length ≤ Rows.uptoBulkAll l
  | [] => Nat.zero_le _
  | d :: l => by
    have h1 := bulk_pos d
    have h2 := bulk_len l
    rw [Rows.uptoBulkAll, List.length_cons]
    omega
theorem bulk_mem {H : Type} : ∀ (l : List (DataW H)) (d : DataW H), d ∈ l → Rows.uptoBulk d ≤ Rows.uptoBulkAll l
  | e :: l, d, h => by
    rw [Rows.uptoBulkAll]
    rcases List.mem_cons.1 h with rfl | h
    · omega
    · have := bulk_mem l d h
      omega
/-- An item's weight: no more than its bulk. -/
def wt (x : Pk.PItem) : Nat := x.path.length + x.data.length + x.pieces.length + 6
theorem wt_sum {H : Type} : ∀ (n : Nat) (f : Fin n → Pk.PItem) (D : Nat → DataW H), (∀ i : Fin n, wt (f i) ≤ Rows.uptoBulk (D i.val)) → ((List.ofFn f).map wt).sum ≤ Rows.uptoBulkAll ((List.range n).map D)
  | 0, f, D, _ => by simp
  | n + 1, f, D, h => by
    have ih := wt_sum n (fun i => f i.succ) (fun j => D (j + 1)) (fun i => h i.succ)
    have h0 := h 0
    rw [List.ofFn_succ, List.range_succ_eq_map, List.map_cons, List.map_cons, List.sum_cons, Rows.uptoBulkAll, List.map_map]
    have e : (List.range n).map (D ∘ Nat.succ) = (List.range n).map fun j => D (j + 1) := rfl
    rw [e]
    have : wt (f 0) ≤ Rows.uptoBulk (D 0) := h0
    omega
theorem cellsI : Tryd.prog.cellsOf 3 = 1 := by kernel_rfl
theorem cellsItem : Tryd.prog.cellsOf 29 = 6 := by kernel_rfl
/-- An address whose cell is there is a plain one. -/
theorem plain_at {w : World} {a : Addr} {j : Nat} {v : Value} (h0 : w.cell? (a.add 0) ≠ none) (h : w.cell? (a.add j) = some v) : ∃ g o, a = ⟨g, o, none⟩ ∧ g < w.heap.size ∧ w.cell? ⟨g, o + j, none⟩ = some v := by
  obtain ⟨b, o, sp⟩ := a
  cases sp with
  | none =>
    rw [Addr.add_lit] at h
    exact ⟨b, o, rfl, World.block_lt_of_cell? _ _ h, h⟩
  | some q =>
    have e0 : (⟨b, o, some q⟩ : Addr).add 0 = ⟨b, o, some q⟩ := rfl
    rw [e0] at h0
    exfalso
    apply h0
    unfold World.cell?
    split
    · rfl
    · rfl
/-- Numbers that came in. -/
theorem open_pieces {H : Type} {enc : TypeId × Value → H} {W : World} {n : Nat} {c : Value} {y : DataW H × List MemPlace} (h : DataW.trod enc Tryd.prog W 0 (fun _ => true) true n 27 [c] = some y) :
    ∃ ps : List Int, Pw.IntsAt W c ps ∧ (∀ p ∈ ps, -9223372036854775808 ≤ p ∧ p ≤ 9223372036854775807) ∧ ps.length ≤ Rows.uptoBulk y.1 := by
  rcases open_ints Tryd.underlying27 Tryd.underlying3 cellsI h with ⟨hc, hy⟩ | ⟨a, len, cap, zs, hc, _, hl, hm, hz, hy, hcell, hw⟩
  · obtain rfl := (List.cons.inj hc).1
    exact ⟨[], ⟨none, 0, rfl, fun _ => ⟨rfl, rfl⟩, Nat.le_refl _, Nat.zero_le _, fun j p hp => (by cases hp)⟩, (fun p hp => by cases hp), Nat.zero_le _⟩
  · obtain rfl := (List.cons.inj hc).1
    simp only [if_true] at hz
    have hlen : (zs.take len).length = len := by rw [List.length_take]; omega
    refine ⟨zs.take len, ⟨some a, cap, by rw [hlen], fun e => (by cases e), by omega, hm, fun j p hp => ?_⟩, fun p hp => range_of (hw p (List.mem_of_mem_take hp)), ?_⟩
    · have hj := (List.getElem?_eq_some_iff.1 hp).1
      have hcj := hcell j (by omega)
      have hc0 := hcell 0 (by omega)
      rw [List.getElem?_take_of_lt (by omega)] at hp
      rw [List.getD_eq_getElem?_getD, hp] at hcj
      obtain ⟨g, o, rfl, h1, h2⟩ := plain_at (by rw [hc0]; simp) hcj
      exact ⟨g, o, rfl, h1, h2⟩
    · rw [hy]
      have := bulk_len (lits (H := H) .i64 (zs.take len))
      simp only [lits, List.length_map] at this
      simp only [Rows.uptoBulk, lits]
      omega
/-- The fields of an item. -/
abbrev itemFs : Array Field := #[{ name := "Path", type := 9, offset := 0, embedded := false, tag := "", pkgPath := "", byteOffset := 0 }, { name := "Kind", type := 3, offset := 1, embedded := false, tag := "", pkgPath := "", byteOffset := 16 }, { name := "Size", type := 3, offset := 2, embedded := false, tag := "", pkgPath := "", byteOffset := 24 }, { name := "Data", type := 9, offset := 3, embedded := false, tag := "", pkgPath := "", byteOffset := 32 }, { name := "Pieces", type := 27, offset := 4, embedded := false, tag := "", pkgPath := "", byteOffset := 48 }, { name := "Same", type := 3, offset := 5, embedded := false, tag := "", pkgPath := "", byteOffset := 72 }]
theorem undItem : Tryd.prog.underlying 29 = some (.struct itemFs) := Tryd.underlying29
set_option maxRecDepth 100000 in
/-- One item that came in. -/
theorem open_item {H : Type} {enc : TypeId × Value → H} {W : World} {a : Addr} {i n : Nat} {ys : List (DataW H × List MemPlace)}
    (hf : ∀ (j : Nat) (f : Field), itemFs[j]? = some f → ∃ (v : Value) (y : DataW H × List MemPlace), W.cell? (a.add (i * 6 + j)) = some v ∧ ys[j]? = some y ∧ DataW.trod enc Tryd.prog W 0 (fun _ => true) true n f.type [v] = some y) (h6 : ys.length = 6) :
    ∃ (x : Pk.PItem) (sl : Value), Pw.IntsAt W sl x.pieces ∧ (∀ j c, (Pw.itemC x sl)[j]? = some c → W.cell? (a.add (i * 6 + j)) = some c) ∧ (Rows.uptoBulk (DataW.agg (ys.map (·.1))) ≤ 1048576 → Pw.Sane x) ∧ wt x ≤ Rows.uptoBulk (DataW.agg (ys.map (·.1))) := by
  obtain ⟨c0, y0, k0, e0, t0⟩ := hf 0 _ rfl
  obtain ⟨c1, y1, k1, e1, t1⟩ := hf 1 _ rfl
  obtain ⟨c2, y2, k2, e2, t2⟩ := hf 2 _ rfl
  obtain ⟨c3, y3, k3, e3, t3⟩ := hf 3 _ rfl
  obtain ⟨c4, y4, k4, e4, t4⟩ := hf 4 _ rfl
  obtain ⟨c5, y5, k5, e5, t5⟩ := hf 5 _ rfl
  match ys, h6 with
  | [z0, z1, z2, z3, z4, z5], _ =>
    cases e0; cases e1; cases e2; cases e3; cases e4; cases e5
    obtain ⟨s0, g0, x0, _⟩ := DataW.trod_string Tryd.underlying9 t0
    obtain ⟨n1, g1, x1, f1⟩ := DataW.trod_int Tryd.underlying3 t1
    obtain ⟨n2, g2, x2, f2⟩ := DataW.trod_int Tryd.underlying3 t2
    obtain ⟨s3, g3, x3, _⟩ := DataW.trod_string Tryd.underlying9 t3
    obtain ⟨n5, g5, x5, f5⟩ := DataW.trod_int Tryd.underlying3 t5
    obtain ⟨ps, hI, hR, hB⟩ := open_pieces t4
    simp only [List.cons.injEq, and_true] at g0 g1 g2 g3 g5
    subst g0 g1 g2 g3 g5 x0 x1 x2 x3 x5
    refine ⟨⟨bs s0, n1, n2, bs s3, ps, n5⟩, c4, hI, fun j c hj => ?_, fun hk => ?_, ?_⟩
    · match j, hj with
      | 0, hj => cases hj; exact k0
      | 1, hj => cases hj; exact k1
      | 2, hj => cases hj; exact k2
      | 3, hj => cases hj; exact k3
      | 4, hj => cases hj; exact k4
      | 5, hj => cases hj; exact k5
    · simp only [List.map_cons, List.map_nil, Rows.uptoBulk, Rows.uptoBulkAll] at hk
      have l0 : (bs s0).length = s0.data.toList.length := rfl
      have l3 : (bs s3).length = s3.data.toList.length := rfl
      exact ⟨range_of f1, range_of f2, range_of f5, hR, by show (bs s0).length ≤ _; omega, by show (bs s3).length ≤ _; omega, by show ps.length ≤ _; omega⟩
    · simp only [List.map_cons, List.map_nil, Rows.uptoBulk, Rows.uptoBulkAll, wt]
      have l0 : (bs s0).length = s0.data.toList.length := rfl
      have l3 : (bs s3).length = s3.data.toList.length := rfl
      have := bulk_pos y4.1
      omega
set_option maxRecDepth 100000 in
/-- The items that came in. -/
theorem open_items {H : Type} {enc : TypeId × Value → H} {W : World} {b0 : Nat} {v : Value} {d : DataW H} {p : List MemPlace} (hv : Value.okWide Tryd.prog W .any b0 22 v) (h : DataW.Trod enc Tryd.prog W 0 (fun _ => true) true 22 v d p) (hk : Rows.uptoSmall H [d] = true) :
    ∃ (l : List Pk.PItem) (ao : Option Addr) (cap : Nat), v = .slice ao l.length cap ∧ Pw.ItemsAt W ao l ∧ (∀ x ∈ l, Pw.Sane x) ∧ l.length ≤ 1048576 ∧ (l.map wt).sum ≤ 1048576 := by
  have hb := of_decide_eq_true hk
  simp only [Rows.uptoBulkAll, Nat.add_zero] at hb
  obtain ⟨a0, len0, cap0, rfl⟩ := okWide_slice Tryd.underlying22 hv
  obtain ⟨fuel, hf⟩ := h
  rcases open_slice_fields Tryd.underlying22 undItem (by kernel_rfl) cellsItem hf with ⟨hcs, hx⟩ | ⟨a, len, cap, m, D, Pl, hcs, _, hl, hm, hmm, hx, hi⟩
  · simp [Value.cells] at hcs
    obtain ⟨rfl, rfl, rfl⟩ := hcs
    exact ⟨[], none, 0, rfl, fun j x hx => (by cases hx), fun x hx => (by cases hx), Nat.zero_le _, Nat.zero_le _⟩
  · simp [Value.cells] at hcs
    obtain ⟨rfl, rfl, rfl⟩ := hcs
    simp only [Prod.mk.injEq] at hx
    obtain ⟨rfl, _⟩ := hx
    simp only [if_true] at hmm
    simp only [Rows.uptoBulk] at hb
    have hlen : len0 ≤ 1048576 := by
      have := bulk_len ((List.range len0).map D)
      rw [List.length_map, List.length_range] at this
      omega
    have hone : ∀ i : Fin len0, ∃ (x : Pk.PItem) (sl : Value), Pw.IntsAt W sl x.pieces ∧ (∀ j c, (Pw.itemC x sl)[j]? = some c → W.cell? (a.add (i.val * 6 + j)) = some c) ∧ Pw.Sane x ∧ wt x ≤ Rows.uptoBulk (D i.val) := by
      intro i
      obtain ⟨ys, n, hD, _, h6, hfs⟩ := hi i.val (by have := i.isLt; omega)
      obtain ⟨x, sl, h1, h2, h3, h4⟩ := open_item hfs h6
      rw [← hD] at h3 h4
      refine ⟨x, sl, h1, h2, h3 ?_, h4⟩
      have := bulk_mem ((List.range len0).map D) (D i.val) (List.mem_map.2 ⟨i.val, List.mem_range.2 i.isLt, rfl⟩)
      omega
    have hll : (List.ofFn fun i : Fin len0 => Classical.choose (hone i)).length = len0 := List.length_ofFn
    refine ⟨List.ofFn fun i : Fin len0 => Classical.choose (hone i), some a, cap0, by rw [hll], fun j x hx => ?_, fun x hx => ?_, by rw [hll]; exact hlen, ?_⟩
    · have hj : j < len0 := by have := (List.getElem?_eq_some_iff.1 hx).1; omega
      rw [List.getElem?_ofFn, dif_pos hj] at hx
      obtain rfl := Option.some.inj hx
      obtain ⟨sl, h1, h2, _, _⟩ := Classical.choose_spec (hone ⟨j, hj⟩)
      obtain ⟨x0, sl0, _, h20, _, _⟩ := hone ⟨0, by omega⟩
      have hz : W.cell? (a.add 0) = some (.string (mk x0.path)) := h20 0 _ rfl
      obtain ⟨g, o, rfl, hg, _⟩ := plain_at (by rw [hz]; simp) (h2 0 _ rfl)
      refine ⟨g, o, sl, rfl, hg, h1, fun i c hi => ?_⟩
      have := h2 i c hi
      rw [Addr.add_lit] at this
      exact this
    · obtain ⟨i, rfl⟩ := List.mem_ofFn.1 hx
      obtain ⟨_, _, _, h3, _⟩ := Classical.choose_spec (hone i)
      exact h3
    · have := wt_sum len0 (fun i : Fin len0 => Classical.choose (hone i)) D (fun i => by obtain ⟨_, _, _, _, h4⟩ := Classical.choose_spec (hone i); exact h4)
      omega
end Go.Proofs.YtnmgdlmicgbapaaDoor.packEncodes
