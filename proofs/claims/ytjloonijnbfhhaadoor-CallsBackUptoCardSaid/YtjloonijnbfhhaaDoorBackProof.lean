/- The statement CallsBack where what comes in is of bulk at most 1048576, proved, and its card: whatever the two calls and the number, the law answers true. Condition: the bulk, and that the library's variables hold what the program's text lays. -/
import Derived.Test.YtjloonijnbfhhaaDoorRBack
import Derived.Test.YtjloonijnbfhhaaDoorVars
import Derived.Test.YtjloonijnbfhhaaDoorOpen
import Derived.Test.YtjloonijnbfhhaaDoorCards
import Derived.Test.YtjloonijnbfhhaaDoorTie
namespace Go.Proofs.YtjloonijnbfhhaaDoor.callsBack
open Go.ChangeShapes Go.WideShapes Go.ChangeAt Go.RowKit Go.Joins

theorem cellsC : Tryd.prog.cellsOf 23 = 6 := by kernel_rfl
theorem range_of {n : Int} (h : (Lit.int .i64 n).wf = true) : Cl.inRange n := by
  simp [Lit.wf, IntKind.min, IntKind.max, IntKind.signed, IntKind.bits] at h
  exact ⟨by omega, by omega⟩

set_option maxRecDepth 100000 in
/-- A call that came in. -/
theorem open_call {H : Type} {enc : TypeId × Value → H} {W : World} {b0 : Nat} {v : Value} {d : DataW H} {p : List MemPlace} (hv : Value.okWide Tryd.prog W .any b0 23 v) (h : DataW.Trod enc Tryd.prog W 0 (fun _ => true) true 23 v d p) :
    ∃ c : Cl.PCall, v = .agg #[.int .i64 c.kind, .string (mk c.path), .string (mk c.other), .int .i64 c.off, .int .i64 c.size, .string (mk c.data)] ∧ p = [] ∧ Cl.inRange c.kind ∧ Cl.Fits c ∧
      d = .agg [.lit (.int .i64 c.kind), .lit (.string c.path), .lit (.string c.other), .lit (.int .i64 c.off), .lit (.int .i64 c.size), .lit (.string c.data)] := by
  obtain ⟨c0, c1, c2, c3, c4, c5, y0, y1, y2, y3, y4, y5, m, rfl, rfl, rfl, hy0, hy1, hy2, hy3, hy4, hy5⟩ := open_agg6 Tryd.underlying23 (by kernel_rfl) cellsC hv h
  obtain ⟨k, e0, x0, f0⟩ := DataW.trod_int Tryd.underlying3 hy0
  obtain ⟨s1, e1, x1, f1⟩ := DataW.trod_string Tryd.underlying9 hy1
  obtain ⟨s2, e2, x2, f2⟩ := DataW.trod_string Tryd.underlying9 hy2
  obtain ⟨n3, e3, x3, f3⟩ := DataW.trod_int Tryd.underlying3 hy3
  obtain ⟨n4, e4, x4, f4⟩ := DataW.trod_int Tryd.underlying3 hy4
  obtain ⟨s5, e5, x5, f5⟩ := DataW.trod_string Tryd.underlying9 hy5
  simp only [List.cons.injEq, and_true] at e0 e1 e2 e3 e4 e5
  subst e0 e1 e2 e3 e4 e5 x0 x1 x2 x3 x4 x5
  exact ⟨⟨k, bs s1, bs s2, bs s5, n3, n4⟩, rfl, rfl, range_of f0, ⟨range_of f3, range_of f4⟩, rfl⟩

theorem short {H : Type} {c d : Cl.PCall} {n : Int} (hk : Rows.uptoSmall H [.agg [.lit (.int .i64 c.kind), .lit (.string c.path), .lit (.string c.other), .lit (.int .i64 c.off), .lit (.int .i64 c.size), .lit (.string c.data)], .agg [.lit (.int .i64 d.kind), .lit (.string d.path), .lit (.string d.other), .lit (.int .i64 d.off), .lit (.int .i64 d.size), .lit (.string d.data)], .lit (.int .i64 n)] = true) : Cl.Small 1048576 c ∧ Cl.Small 1048576 d := by
  have h := of_decide_eq_true hk
  simp only [Rows.uptoBulkAll, Rows.uptoBulk] at h
  refine ⟨⟨?_, ?_, ?_⟩, ⟨?_, ?_, ?_⟩⟩ <;> omega

set_option maxRecDepth 100000 in
theorem contract (H : Type) (enc : TypeId × Value → H) (W : World) (base : Nat) (args : Array Value) (ds gs : List (DataW H)) (before : List MemPlace)
    (hval : ∀ (j : Nat) t v, Tryd.f5.params[j]? = some t → args[j]? = some v → Value.okWide Tryd.prog W .any base t v)
    (hW : DataW.Whole enc Tryd.prog Tryd.f5.params.toList Rows.callsBackSpec.vars false W args.toList ds gs before) (hk : Rows.uptoSmall H (ds ++ gs) = true) (hL : laidMet Tryd.prog Vs.laid5 W) :
    Calls Tryd.prog 5 args W fun e W' => ∃ v, e = .returned v ∧ Rows.callsBackSpec.post enc Tryd.prog Tryd.f5 false true false false W args v W' := by
  have hW' := hW
  obtain ⟨p, q, hA0, hV, rfl, hfz, hnd⟩ := hW
  have hA : DataW.TrodAll enc Tryd.prog W 0 (fun _ => true) true Tryd.f5.params.toList args.toList ds p := hA0
  rw [Tryd.params5] at hA hval
  obtain ⟨v0, v1, v2, d0, d1, d2, p0, p1, p2, rfl, rfl, rfl, h0, h1, h2⟩ := trodAll_three hA
  obtain ⟨rfl, rfl⟩ := trodVars_none hV
  have k0 := h0
  have k1 := h1
  obtain ⟨c, rfl, rfl, hkc, hfc, rfl⟩ := open_call (hval 0 23 v0 rfl rfl) h0
  obtain ⟨d, rfl, rfl, hkd, hfd, rfl⟩ := open_call (hval 1 23 v1 rfl rfl) h1
  obtain ⟨n, rfl, rfl, rfl, hn⟩ := open_int Tryd.underlying3 (hval 2 3 v2 rfl rfl) h2
  clear hA0
  simp only [List.append_nil] at hW' hk
  obtain ⟨hsc, hsd⟩ := short hk
  refine (Rw.back_all c d n W hkc hkd hsc hsd hfc hfd (range_of hn) (Vs.vars_of hL)).mono fun e W' ⟨he, hb⟩ => ?_
  subst he
  exact ⟨_, rfl, _, _, _, [], _, [], hW', trodAll_cons_mk (shut_bool Tryd.underlying4 _) trodAll_mk0,
    trodAll_cons_mk (Below.trod Vs.laidOut (by kernel_rfl) (of_decide_eq_true (by kernel_rfl)) k0 hb (fun x hx => by cases hx)) (trodAll_cons_mk (Below.trod Vs.laidOut (by kernel_rfl) (of_decide_eq_true (by kernel_rfl)) k1 hb (fun x hx => by cases hx)) (trodAll_cons_mk (shut_int Tryd.underlying3 hn) trodAll_mk0)), rfl, hb.frame _, fun h => by cases h⟩

abbrev z : Value := .agg #[.int .i64 0, .string .empty, .string .empty, .int .i64 0, .int .i64 0, .string .empty]
abbrev zd {H : Type} : DataW H := .agg [.lit (.int .i64 0), .lit (.string []), .lit (.string []), .lit (.int .i64 0), .lit (.int .i64 0), .lit (.string [])]
theorem reads (os : Os) {H : Type} (enc : TypeId × Value → H) : ∃ places, DataW.whole enc Tryd.prog ((Vs.world os).forCall (fun _ _ => 0) ⟨#[], #[z, z, .int .i64 0], []⟩).memory Tryd.f5.params.toList Rows.callsBackSpec.vars false #[z, z, .int .i64 0].toList 8 = some ([zd, zd, .lit (.int .i64 0)], [], places) :=
  ⟨[], by kernel_rfl⟩

set_option maxRecDepth 100000 in
theorem lifted (os : Os) (started : os.Started) (H : Type) (enc : TypeId × Value → H) (F : Stop.Interp) :
    ReturnsInHanded {} Tryd.checked os 5 .any ((Rows.OpenSpec.upto Rows.callsBackSpec).preRow enc Tryd.prog Tryd.f5 Rows.callsBackUptoRow.domain false Rows.callsBackUptoRow.laid) (((Rows.OpenSpec.upto Rows.callsBackSpec).at F).post enc Tryd.prog Tryd.f5 false true false false) := by
  obtain ⟨places, hx⟩ := reads os enc
  refine returnsInHanded_of_row (C := Tryd.checked) (s := Rows.OpenSpec.upto Rows.callsBackSpec) Vs.own started (by kernel_rfl) Tryd.func5
    (witness_row_atRef (enc := enc) (C := Tryd.checked) false (Vs.world os) #[z, z, .int .i64 0] (World.laidAll_os _ _ _) (by kernel_rfl) (by kernel_rfl) (by kernel_rfl)
      (OpenSpec.preRow_of_cond 8 hx (by kernel_rfl) (fun k hk => by cases hk; kernel_rfl) (by kernel_rfl) (Vs.world_met os _))) ?_
  intro W base args ds gs before hval hW _ hcond _ hL _ _
  exact contract H enc W base args ds gs before hval hW (hcond _ rfl) (by rw [MakeChecks.laidMetH_plain _ _ _ (by kernel_rfl)] at hL; exact hL)

theorem saidUpto : Rows.CallsBackUptoSaid :=
  OpenClaim.holds_of_cond 5 Tryd.f5 rfl rfl rfl rfl rfl rfl rfl ⟨rfl, rfl, rfl, rfl, rfl⟩ rfl rfl rfl rfl rfl (by kernel_rfl) Tryd.func5 (by kernel_rfl)
    (of_decide_eq_true (by kernel_rfl)) (by unfold Func.isWrapper; first | (rw [if_pos (by decide +kernel)]; kernel_rfl) | (rw [if_neg (by decide +kernel)]; exact ⟨rfl, rfl⟩))
    (fun os started H enc _ F => by rw [OpenClaim.pre_eq_preRow]; exact lifted os started H enc F)

/-- No parameter wants a stand-in; the program's own looks are on. -/
theorem plain (f : FuncId) (fn : Func) (hf : Tryd.pinned.checked.prog.funcNamed "bole/bolelaw25.CallsBack" = some f) (hfn : Tryd.pinned.checked.prog.funcs[f]? = some fn) :
    true = Tryd.pinned.checked.prog.looks [] ∧ ∀ (j : Nat) t, fn.params[j]? = some t → Tryd.pinned.checked.prog.wantsStandIn t = false := by
  obtain rfl : f = 5 := Option.some.inj ((show Tryd.prog.funcNamed "bole/bolelaw25.CallsBack" = some 5 by kernel_rfl).symm.trans hf) |>.symm
  obtain rfl : fn = Tryd.f5 := (Option.some.inj (Tryd.func5.symm.trans hfn)).symm
  refine ⟨by kernel_rfl, fun j t ht => ?_⟩
  rw [Tryd.params5] at ht
  have hm : t = 23 ∨ t = 3 := by simpa using Array.mem_of_getElem? ht
  rcases hm with rfl | rfl
  · exact (show Tryd.prog.wantsStandIn 23 = false by kernel_rfl)
  · exact (show Tryd.prog.wantsStandIn 3 = false by kernel_rfl)

/-- The card of the second form. -/
theorem cardUpto : Rows.CallsBackUptoCardSaid :=
  Claim7.holds_tied_plain_at .later [] _ _ _ _ saidUpto (fun _ h => by cases h) (by kernel_rfl) (fun _ h => by cases h) callsBackUpto_row_tie rfl ⟨rfl, rfl⟩ (by kernel_rfl) rfl plain (by kernel_rfl)
#print axioms cardUpto
end Go.Proofs.YtjloonijnbfhhaaDoor.callsBack
