/- An answer that came in, opened whole; what a bounded bulk says of its texts. -/
import Derived.Test.YtjloonijnbfhhaaDoorEOpen
import Derived.Test.YtjloonijnbfhhaaDoorVars
namespace Go.Proofs.YtjloonijnbfhhaaDoor.callsExact
open Go.ChangeShapes Go.WideShapes Go.ChangeAt Go.RowKit Go.Joins

theorem range_of {n : Int} (h : (Lit.int .i64 n).wf = true) : Cl.inRange n := by
  simp [Lit.wf, IntKind.min, IntKind.max, IntKind.signed, IntKind.bits] at h
  exact ⟨by omega, by omega⟩
theorem cellsC : Tryd.prog.cellsOf 23 = 6 := by kernel_rfl
set_option maxRecDepth 100000 in
/-- A call that came in. -/
theorem open_call {H : Type} {enc : TypeId × Value → H} {W : World} {b0 : Nat} {v : Value} {d : DataW H} {p : List MemPlace} (hv : Value.okWide Tryd.prog W .any b0 23 v) (h : DataW.Trod enc Tryd.prog W 0 (fun _ => true) true 23 v d p) :
    ∃ c : Cl.PCall, v = .agg #[.int .i64 c.kind, .string (mk c.path), .string (mk c.other), .int .i64 c.off, .int .i64 c.size, .string (mk c.data)] ∧ p = [] ∧ Cl.inRange c.kind ∧ Cl.Fits c ∧
      d = .agg [.lit (.int .i64 c.kind), .lit (.string c.path), .lit (.string c.other), .lit (.int .i64 c.off), .lit (.int .i64 c.size), .lit (.string c.data)] := by
  obtain ⟨c0, c1, c2, c3, c4, c5, y0, y1, y2, y3, y4, y5, m, rfl, rfl, rfl, hy0, hy1, hy2, hy3, hy4, hy5⟩ := open_agg6 Tryd.underlying23 (by kernel_rfl) cellsC hv h
  obtain ⟨k, e0, x0, f0⟩ := DataW.trod_int Tryd.underlying3 hy0
  obtain ⟨s1, e1, x1, f1⟩ := DataW.trod_string Tryd.underlying9 hy1
  obtain ⟨s2, e2, x2, f2⟩ := DataW.trod_string Tryd.underlying9 hy2
  obtain ⟨n3, e3, x3, f3⟩ := DataW.trod_int Tryd.underlying3 hy3
  obtain ⟨n4, e4, x4, f4⟩ := DataW.trod_int Tryd.underlying3 hy4
  obtain ⟨s5, e5, x5, f5⟩ := DataW.trod_string Tryd.underlying9 hy5
  simp only [List.cons.injEq, and_true] at e0 e1 e2 e3 e4 e5
  subst e0 e1 e2 e3 e4 e5 x0 x1 x2 x3 x4 x5
  exact ⟨⟨k, bs s1, bs s2, bs s5, n3, n4⟩, rfl, rfl, range_of f0, ⟨range_of f3, range_of f4⟩, rfl⟩
/-- What an answer reads as. -/
def ansD {H : Type} (err : Int) (a : Tw.PAns) (dn : DataW H) : DataW H := .agg [.lit (.int .i64 err), .lit (.int .i64 a.N), .lit (.string a.data), .agg [.lit (.int .i64 a.i), .lit (.int .i64 a.k), .lit (.int .i64 a.l), .lit (.int .i64 a.z), .lit (.int .i64 a.b)], dn, .agg [.lit (.int .i64 a.f1), .lit (.int .i64 a.f2), .lit (.int .i64 a.f3), .lit (.int .i64 a.f4)]]
def NamesD {H : Type} (nm : List (List UInt8)) (dn : DataW H) : Prop := dn = .nil ∧ nm = [] ∨ ∃ rest : List (DataW H), dn = .slice (nm.map fun t => .lit (.string t)) rest
set_option maxRecDepth 100000 in
theorem open_answer {H : Type} {enc : TypeId × Value → H} {W : World} {b0 : Nat} {v : Value} {d : DataW H} {p : List MemPlace} (hv : Value.okWide Tryd.prog W .any b0 31 v) (h : DataW.Trod enc Tryd.prog W 0 (fun _ => true) true 31 v d p) :
    ∃ (err : Int) (a : Tw.PAns) (nm : List (List UInt8)) (ao : Option Addr) (ca : Nat) (dn : DataW H), v = .agg #[.int .i64 err, .int .i64 a.N, .string (mk a.data), .int .i64 a.i, .int .i64 a.k, .int .i64 a.l, .int .i64 a.z, .int .i64 a.b, .slice ao nm.length ca, .int .i64 a.f1, .int .i64 a.f2, .int .i64 a.f3, .int .i64 a.f4] ∧ Tw.NamesAt W ao nm ∧ Cl.inRange err ∧ Cl.inRange a.N ∧ (∀ n ∈ [a.i, a.k, a.l, a.z, a.b], Cl.inRange n) ∧ (∀ n ∈ [a.f1, a.f2, a.f3, a.f4], Cl.inRange n) ∧ d = ansD err a dn ∧ NamesD nm dn := by
  obtain ⟨c0, c1, c2, c3, c4, c5, c6, c7, c8, c9, c10, c11, c12, n, y0, y1, y2, y3, y4, y5, rfl, rfl, rfl, h0, h1, h2, h3, h4, h5⟩ := open_fields hv h
  obtain ⟨err, e0, x0, f0⟩ := DataW.trod_int Tryd.underlying24 h0
  obtain ⟨N, e1, x1, f1⟩ := DataW.trod_int Tryd.underlying3 h1
  obtain ⟨s2, e2, x2, f2⟩ := DataW.trod_string Tryd.underlying9 h2
  obtain ⟨i0, i1, i2, i3, i4, rfl, rfl, rfl, rfl, rfl, x3, g3⟩ := open_stat h3
  obtain ⟨ao, nm, ca, rfl, hN, hD⟩ := open_names h4
  obtain ⟨r0, r1, r2, r3, rfl, rfl, rfl, rfl, x5, g5⟩ := open_room h5
  simp only [List.cons.injEq, and_true] at e0 e1 e2
  subst e0 e1 e2 x0 x1 x2 x3 x5
  exact ⟨err, ⟨N, bs s2, i0, i1, i2, i3, i4, r0, r1, r2, r3⟩, nm, ao, ca, y4.1, rfl, hN, range_of f0, range_of f1, fun n hn => range_of (g3 n hn), fun n hn => range_of (g5 n hn), rfl, hD⟩

theorem bulk_all {H : Type} (l : List (List UInt8)) : l.length ≤ Rows.uptoBulkAll (H := H) (l.map fun t => .lit (.string t)) ∧ ∀ x ∈ l, x.length ≤ Rows.uptoBulkAll (H := H) (l.map fun t => .lit (.string t)) := by
  induction l with
  | nil => exact ⟨Nat.zero_le _, fun x hx => by cases hx⟩
  | cons x l ih =>
    simp only [List.map_cons, Rows.uptoBulkAll, Rows.uptoBulk, List.length_cons, List.mem_cons]
    refine ⟨by have := ih.1; omega, ?_⟩
    rintro y (rfl | hy)
    · omega
    · have := ih.2 y hy; omega
theorem bulk_names {H : Type} {nm : List (List UInt8)} {dn : DataW H} {m : Nat} (h : NamesD nm dn) (hb : Rows.uptoBulk dn ≤ m) : nm.length ≤ m ∧ ∀ x ∈ nm, x.length ≤ m := by
  rcases h with ⟨rfl, rfl⟩ | ⟨rest, rfl⟩
  · exact ⟨Nat.zero_le _, fun x hx => by cases hx⟩
  · have := bulk_all (H := H) nm
    rw [Rows.uptoBulk] at hb
    exact ⟨by omega, fun x hx => by have := this.2 x hx; omega⟩
theorem short {H : Type} {s : List UInt8} {c : Cl.PCall} {err : Int} {a : Tw.PAns} {nm : List (List UInt8)} {dn : DataW H} (hD : NamesD nm dn) (hk : Rows.uptoSmall H [.lit (.string s), .agg [.lit (.int .i64 c.kind), .lit (.string c.path), .lit (.string c.other), .lit (.int .i64 c.off), .lit (.int .i64 c.size), .lit (.string c.data)], ansD err a dn] = true) :
    s.length ≤ 1048576 ∧ Rw.Sized c ∧ a.data.length ≤ 100000000000 ∧ Tw.NFits nm := by
  have h := of_decide_eq_true hk
  simp only [ansD, Rows.uptoBulkAll, Rows.uptoBulk] at h
  have hn := bulk_names (m := 1048576) hD (by omega)
  exact ⟨by omega, ⟨by omega, by omega, by omega⟩, by omega, ⟨by have := hn.1; omega, fun x hx => by have := hn.2 x hx; omega⟩⟩
end Go.Proofs.YtjloonijnbfhhaaDoor.callsExact
