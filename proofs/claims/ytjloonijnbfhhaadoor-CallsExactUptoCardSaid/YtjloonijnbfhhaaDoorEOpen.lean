/- An answer that came in, opened: its plain fields, its names' row. (Begun: the fields.) -/
import Derived.Test.YtjloonijnbfhhaaDoorEExact
import Derived.Test.YtjloonijnbfhhaaDoorOpen
import Derived.SliceStrings
namespace Go.Proofs.YtjloonijnbfhhaaDoor.callsExact
open Go.ChangeShapes Go.WideShapes Go.ChangeAt Go.RowKit Go.Joins

theorem cellsA : Tryd.prog.cellsOf 31 = 13 := by kernel_rfl
set_option maxRecDepth 100000 in
theorem open_fields {H : Type} {enc : TypeId × Value → H} {W : World} {b0 : Nat} {v : Value} {d : DataW H} {p : List MemPlace} {base : Nat} {spare : Nat → Bool} {held : Bool} (hv : Value.okWide Tryd.prog W .any b0 31 v) (h : DataW.Trod enc Tryd.prog W base spare held 31 v d p) :
    ∃ (c0 c1 c2 c3 c4 c5 c6 c7 c8 c9 c10 c11 c12 : Value) (n : Nat) (y0 y1 y2 y3 y4 y5 : DataW H × List MemPlace), v = .agg #[c0, c1, c2, c3, c4, c5, c6, c7, c8, c9, c10, c11, c12] ∧ d = .agg [y0.1, y1.1, y2.1, y3.1, y4.1, y5.1] ∧ p = y0.2 ++ (y1.2 ++ (y2.2 ++ (y3.2 ++ (y4.2 ++ y5.2)))) ∧
      DataW.trod enc Tryd.prog W base spare held n 24 [c0] = some y0 ∧ DataW.trod enc Tryd.prog W base spare held n 3 [c1] = some y1 ∧ DataW.trod enc Tryd.prog W base spare held n 9 [c2] = some y2 ∧ DataW.trod enc Tryd.prog W base spare held n 26 [c3, c4, c5, c6, c7] = some y3 ∧ DataW.trod enc Tryd.prog W base spare held n 27 [c8] = some y4 ∧ DataW.trod enc Tryd.prog W base spare held n 29 [c9, c10, c11, c12] = some y5 := by
  obtain ⟨cs, rfl, hsz⟩ := okWide_struct Tryd.underlying31 hv
  obtain ⟨l⟩ := cs
  match l, hsz.trans cellsA with
  | [c0, c1, c2, c3, c4, c5, c6, c7, c8, c9, c10, c11, c12], _ =>
    obtain ⟨fuel, hf⟩ := h
    obtain ⟨xs, n, _, hx, _, hlen, hg⟩ := DataW.trod_struct Tryd.underlying31 hf
    simp only [Prod.mk.injEq] at hx
    match xs, hlen with
    | [y0, y1, y2, y3, y4, y5], _ =>
      exact ⟨c0, c1, c2, c3, c4, c5, c6, c7, c8, c9, c10, c11, c12, n, y0, y1, y2, y3, y4, y5, rfl, by simpa using hx.1, by simpa using hx.2, hg 0 _ rfl, hg 1 _ rfl, hg 2 _ rfl, hg 3 _ rfl, hg 4 _ rfl, hg 5 _ rfl⟩
set_option maxRecDepth 100000 in
theorem open_stat {H : Type} {enc : TypeId × Value → H} {W : World} {base : Nat} {spare : Nat → Bool} {held : Bool} {n : Nat} {c0 c1 c2 c3 c4 : Value} {y : DataW H × List MemPlace} (h : DataW.trod enc Tryd.prog W base spare held n 26 [c0, c1, c2, c3, c4] = some y) :
    ∃ i0 i1 i2 i3 i4 : Int, c0 = .int .i64 i0 ∧ c1 = .int .i64 i1 ∧ c2 = .int .i64 i2 ∧ c3 = .int .i64 i3 ∧ c4 = .int .i64 i4 ∧ y = (.agg [.lit (.int .i64 i0), .lit (.int .i64 i1), .lit (.int .i64 i2), .lit (.int .i64 i3), .lit (.int .i64 i4)], []) ∧ (∀ k ∈ [i0, i1, i2, i3, i4], (Lit.int .i64 k).wf = true) := by
  obtain ⟨xs, n, _, hx, _, hlen, hg⟩ := DataW.trod_struct Tryd.underlying26 h
  match xs, hlen with
  | [y0, y1, y2, y3, y4], _ =>
    obtain ⟨k0, e0, x0, f0⟩ := DataW.trod_int Tryd.underlying3 (hg 0 _ rfl)
    obtain ⟨k1, e1, x1, f1⟩ := DataW.trod_int Tryd.underlying3 (hg 1 _ rfl)
    obtain ⟨k2, e2, x2, f2⟩ := DataW.trod_int Tryd.underlying3 (hg 2 _ rfl)
    obtain ⟨k3, e3, x3, f3⟩ := DataW.trod_int Tryd.underlying3 (hg 3 _ rfl)
    obtain ⟨k4, e4, x4, f4⟩ := DataW.trod_int Tryd.underlying3 (hg 4 _ rfl)
    subst x0 x1 x2 x3 x4
    refine ⟨k0, k1, k2, k3, k4, (List.cons.inj e0).1, (List.cons.inj e1).1, (List.cons.inj e2).1, (List.cons.inj e3).1, (List.cons.inj e4).1, hx, ?_⟩
    intro k hk
    simp only [List.mem_cons, List.not_mem_nil, or_false] at hk
    rcases hk with rfl | rfl | rfl | rfl | rfl <;> assumption
set_option maxRecDepth 100000 in
theorem open_room {H : Type} {enc : TypeId × Value → H} {W : World} {base : Nat} {spare : Nat → Bool} {held : Bool} {n : Nat} {c0 c1 c2 c3 : Value} {y : DataW H × List MemPlace} (h : DataW.trod enc Tryd.prog W base spare held n 29 [c0, c1, c2, c3] = some y) :
    ∃ i0 i1 i2 i3 : Int, c0 = .int .i64 i0 ∧ c1 = .int .i64 i1 ∧ c2 = .int .i64 i2 ∧ c3 = .int .i64 i3 ∧ y = (.agg [.lit (.int .i64 i0), .lit (.int .i64 i1), .lit (.int .i64 i2), .lit (.int .i64 i3)], []) ∧ (∀ k ∈ [i0, i1, i2, i3], (Lit.int .i64 k).wf = true) := by
  obtain ⟨xs, n, _, hx, _, hlen, hg⟩ := DataW.trod_struct Tryd.underlying29 h
  match xs, hlen with
  | [y0, y1, y2, y3], _ =>
    obtain ⟨k0, e0, x0, f0⟩ := DataW.trod_int Tryd.underlying3 (hg 0 _ rfl)
    obtain ⟨k1, e1, x1, f1⟩ := DataW.trod_int Tryd.underlying3 (hg 1 _ rfl)
    obtain ⟨k2, e2, x2, f2⟩ := DataW.trod_int Tryd.underlying3 (hg 2 _ rfl)
    obtain ⟨k3, e3, x3, f3⟩ := DataW.trod_int Tryd.underlying3 (hg 3 _ rfl)
    subst x0 x1 x2 x3
    refine ⟨k0, k1, k2, k3, (List.cons.inj e0).1, (List.cons.inj e1).1, (List.cons.inj e2).1, (List.cons.inj e3).1, hx, ?_⟩
    intro k hk
    simp only [List.mem_cons, List.not_mem_nil, or_false] at hk
    rcases hk with rfl | rfl | rfl | rfl <;> assumption
set_option maxRecDepth 100000 in
theorem open_names {H : Type} {enc : TypeId × Value → H} {W : World} {n : Nat} {c : Value} {y : DataW H × List MemPlace} (h : DataW.trod enc Tryd.prog W 0 (fun _ => true) true n 27 [c] = some y) :
    ∃ (ao : Option Addr) (nm : List (List UInt8)) (ca : Nat), c = .slice ao nm.length ca ∧ Tw.NamesAt W ao nm ∧ (y.1 = .nil ∧ nm = [] ∨ ∃ rest : List (DataW H), y.1 = .slice (nm.map fun t => .lit (.string t)) rest) := by
  rcases open_strings Tryd.underlying27 Tryd.underlying9 (by kernel_rfl) h with ⟨hc, hy⟩ | ⟨a, len, cap, ss, hc, _, hl, hm, hz, hy, hcell, hsz⟩
  · exact ⟨none, [], 0, (List.cons.inj hc).1, (fun j x hx => by cases hx), .inl ⟨by rw [hy], rfl⟩⟩
  · have hzz : ss.length = cap := by simpa using hz
    have hlen : ((ss.take len).map bs).length = len := by rw [List.length_map, List.length_take]; omega
    refine ⟨some a, (ss.take len).map bs, cap, by rw [hlen]; exact (List.cons.inj hc).1, ?_, .inr ⟨_, by rw [hy, List.map_map]; rfl⟩⟩
    intro j x hx
    rw [List.getElem?_map, Option.map_eq_some_iff] at hx
    obtain ⟨t, ht, rfl⟩ := hx
    rw [List.getElem?_take] at ht
    split at ht
    · have hj := (List.getElem?_eq_some_iff.1 ht).1
      have hcj := hcell j hj
      rw [List.getD_eq_getElem?_getD, ht] at hcj
      obtain ⟨b, o, sp⟩ := a
      cases sp with
      | none =>
        rw [Addr.add_lit] at hcj
        exact ⟨b, o, rfl, World.block_lt_of_cell? _ _ hcj, hcj⟩
      | some q =>
        have h0 := hcell 0 (by omega)
        have e0 : (⟨b, o, some q⟩ : Addr).add 0 = ⟨b, o, some q⟩ := rfl
        rw [e0] at h0
        unfold World.cell? at h0
        split at h0
        · cases h0
        · cases h0
    · cases ht
end Go.Proofs.YtjloonijnbfhhaaDoor.callsExact
