/- The statement PackDecodes where what comes in is of bulk at most 1048576, proved, and its card: whatever the bytes, the law answers true: what the program's Decode answers is what the document's does, the bytes stay as they were, and two answers are apart. Condition: the bulk, and that the library's and the program's variables hold what the row lists. -/
import Derived.Test.YtnmgdlmicgbapaaGreatDoorPVars
import Derived.Test.YtnmgdlmicgbapaaGreatDoorDWLaw
import Derived.Test.YtnmgdlmicgbapaaGreatDoorCards
import Derived.Test.YtnmgdlmicgbapaaGreatDoorTie
import Derived.Deep.Slices
import Derived.Deep.Fields
import Derived.ChangeSame
import Derived.ChangeSlices
namespace Go.Proofs.YtnmgdlmicgbapaaGreatDoor.packDecodes
open Go.ChangeShapes Go.WideShapes Go.Deep Go.ChangeAt Go.RowKit

theorem bulk_pos {H : Type} : ∀ d : DataW H, 1 ≤ Rows.uptoBulk d := by
  intro d
  cases d with
  | lit l => cases l <;> simp [Rows.uptoBulk]
  | _ => simp [Rows.uptoBulk]
theorem bulk_len {H : Type} : ∀ l : List (DataW H), l.length ≤ Rows.uptoBulkAll l
  | [] => Nat.zero_le _
  | d :: l => by
    have h1 := bulk_pos d
    have h2 := bulk_len l
    rw [Rows.uptoBulkAll, List.length_cons]
    omega
theorem range_of {n : Int} (h : (Lit.int .u8 n).wf = true) : 0 ≤ n ∧ n ≤ 255 := by
  simp [Lit.wf, IntKind.min, IntKind.max, IntKind.signed, IntKind.bits] at h
  omega
theorem cellsB : Tryz.prog.cellsOf 5 = 1 := by kernel_rfl
/-- An address whose cell is there is a plain one. -/
theorem plain_at {w : World} {a : Addr} {j : Nat} {v : Value} (h0 : w.cell? (a.add 0) ≠ none) (h : w.cell? (a.add j) = some v) : ∃ g o, a = ⟨g, o, none⟩ ∧ g < w.heap.size ∧ w.cell? ⟨g, o + j, none⟩ = some v := by
  obtain ⟨b, o, sp⟩ := a
  cases sp with
  | none =>
    rw [Addr.add_lit] at h
    exact ⟨b, o, rfl, World.block_lt_of_cell? _ _ h, h⟩
  | some q =>
    have e0 : (⟨b, o, some q⟩ : Addr).add 0 = ⟨b, o, some q⟩ := rfl
    rw [e0] at h0
    exfalso
    apply h0
    unfold World.cell?
    split
    · rfl
    · rfl
set_option maxRecDepth 100000 in
/-- Bytes that came in. -/
theorem open_seen {H : Type} {enc : TypeId × Value → H} {W : World} {b0 : Nat} {v : Value} {d : DataW H} {p : List MemPlace} (hv : Value.okWide Tryz.prog W .any b0 22 v) (h : DataW.Trod enc Tryz.prog W 0 (fun _ => true) true 22 v d p) (hk : Rows.uptoSmall H [d] = true) :
    ∃ (b : List UInt8) (ao : Option Addr) (cap : Nat), v = .slice ao b.length cap ∧ Pw.BytesSeen W ao b ∧ (ao = none → b.length = 0 ∧ cap = 0) ∧ (b.length ≤ cap ∧ cap ≤ 9223372036854775807) ∧ b.length ≤ 1048576 := by
  have hb := of_decide_eq_true hk
  simp only [Rows.uptoBulkAll, Nat.add_zero] at hb
  obtain ⟨a0, len0, cap0, rfl⟩ := okWide_slice Tryz.underlying22 hv
  obtain ⟨fuel, hf⟩ := h
  rcases open_ints Tryz.underlying22 Tryz.underlying5 cellsB hf with ⟨hc, hy⟩ | ⟨a, len, cap, zs, hc, _, hl, hm, hz, hy, hcell, hw⟩
  · simp [Value.cells] at hc
    obtain ⟨rfl, rfl, rfl⟩ := hc
    exact ⟨[], none, 0, rfl, fun j c hj => (by cases hj), fun _ => ⟨rfl, rfl⟩, ⟨Nat.le_refl _, Nat.zero_le _⟩, Nat.zero_le _⟩
  · simp [Value.cells] at hc
    obtain ⟨rfl, rfl, rfl⟩ := hc
    simp only [if_true] at hz
    simp only [Prod.mk.injEq] at hy
    obtain ⟨rfl, _⟩ := hy
    have hlen : ((zs.take len0).map fun z => UInt8.ofNat z.toNat).length = len0 := by rw [List.length_map, List.length_take]; omega
    have hsm : len0 ≤ 1048576 := by
      have := bulk_len (lits (H := H) .u8 (zs.take len0))
      simp only [lits, List.length_map, List.length_take] at this
      simp only [Rows.uptoBulk, lits] at hb
      omega
    refine ⟨(zs.take len0).map fun z => UInt8.ofNat z.toNat, some a, cap0, by rw [hlen], fun j c hj => ?_, fun e => (by cases e), ⟨by omega, hm⟩, by rw [hlen]; exact hsm⟩
    have hjl := (List.getElem?_eq_some_iff.1 hj).1
    rw [hlen] at hjl
    have hcj := hcell j (by omega)
    have hc0 := hcell 0 (by omega)
    obtain ⟨g, o, rfl, h1, h2⟩ := plain_at (by rw [hc0]; simp) hcj
    refine ⟨g, o, rfl, h1, h2.trans ?_⟩
    rw [List.getElem?_map, List.getElem?_take_of_lt hjl] at hj
    obtain ⟨z, hz2, rfl⟩ := Option.map_eq_some_iff.1 hj
    have hr := range_of (hw z (List.mem_of_getElem? hz2))
    rw [List.getD_eq_getElem?_getD, hz2, Option.getD_some, UInt8.toNat_ofNat']
    congr 2
    omega
set_option maxRecDepth 100000 in
theorem contract (H : Type) (enc : TypeId × Value → H) (W : World) (base : Nat) (args : Array Value) (ds gs : List (DataW H)) (before : List MemPlace)
    (hval : ∀ (j : Nat) t v, Tryz.f3.params[j]? = some t → args[j]? = some v → Value.okWide Tryz.prog W .any base t v)
    (hW : DataW.Whole enc Tryz.prog Tryz.f3.params.toList Rows.packDecodesSpec.vars false W args.toList ds gs before) (hk : Rows.uptoSmall H (ds ++ gs) = true) (hL : laidMet Tryz.prog Pv.laid4 W) (hS : W.ShapedOpen Tryz.prog) :
    Calls Tryz.prog 3 args W fun e W' => ∃ v, e = .returned v ∧ Rows.packDecodesSpec.post enc Tryz.prog Tryz.f3 false true false false W args v W' := by
  have hW' := hW
  obtain ⟨p, q, hA0, hV, rfl, hfz, hnd⟩ := hW
  have hA : DataW.TrodAll enc Tryz.prog W 0 (fun _ => true) true Tryz.f3.params.toList args.toList ds p := hA0
  rw [Tryz.params3] at hA hval
  obtain ⟨v0, d0, rfl, rfl, h0⟩ := trodAll_one hA
  obtain ⟨rfl, rfl⟩ := trodVars_none hV
  have k0 := h0
  clear hA0
  simp only [List.append_nil] at hk
  obtain ⟨b, ao, cap, rfl, hI, hn, hc, hl⟩ := open_seen (hval 0 22 v0 rfl rfl) h0 hk
  refine (Pw.packDecodes_any b ao cap W hI hn hc (by omega) (Pv.tabs_of hL hS)).mono fun e W' ⟨he, hb⟩ => ?_
  subst he
  exact ⟨_, rfl, _, _, _, [], _, [], hW', trodAll_cons_mk (shut_bool Tryz.underlying4 _) trodAll_mk0,
    trodAll_cons_mk (Below.trod Pv.laidOut (by kernel_rfl) (of_decide_eq_true (by kernel_rfl)) k0 hb (fun x hx => hW'.lt x (by simp only [List.append_nil]; exact hx))) trodAll_mk0, rfl, hb.frame _, fun h => by cases h⟩

theorem reads (os : Os) {H : Type} (enc : TypeId × Value → H) : ∃ places, DataW.whole enc Tryz.prog ((Pv.world os).forCall (fun _ _ => 0) ⟨#[], #[.slice none 0 0], []⟩).memory Tryz.f3.params.toList Rows.packDecodesSpec.vars false #[.slice none 0 0].toList 8 = some ([.nil], [], places) :=
  ⟨[], by kernel_rfl⟩

set_option maxRecDepth 100000 in
theorem lifted (os : Os) (started : os.Started) (H : Type) (enc : TypeId × Value → H) (F : Stop.Interp) :
    ReturnsInHanded {} Tryz.checked os 3 .any ((Rows.OpenSpec.upto Rows.packDecodesSpec).preRow enc Tryz.prog Tryz.f3 Rows.packDecodesUptoRow.domain false Rows.packDecodesUptoRow.laid) (((Rows.OpenSpec.upto Rows.packDecodesSpec).at F).post enc Tryz.prog Tryz.f3 false true false false) := by
  obtain ⟨places, hx⟩ := reads os enc
  refine returnsInHanded_of_row (C := Tryz.checked) (s := Rows.OpenSpec.upto Rows.packDecodesSpec) Pv.own started (by kernel_rfl) Tryz.func3
    (witness_row_atRef (enc := enc) (C := Tryz.checked) false (Pv.world os) #[.slice none 0 0] (World.laidAll_os _ _ _) (by kernel_rfl) (by kernel_rfl) (by kernel_rfl)
      (OpenSpec.preRow_of_cond 8 hx (by kernel_rfl) (fun k hk => by cases hk; kernel_rfl) (by kernel_rfl) (Pv.world_met os _))) ?_
  intro W base args ds gs before hval hW _ hcond _ hL hS _
  exact contract H enc W base args ds gs before hval hW (hcond _ rfl) (by rw [MakeChecks.laidMetH_plain _ _ _ (by kernel_rfl)] at hL; exact hL) hS

theorem saidUpto : Rows.PackDecodesUptoSaid :=
  OpenClaim.holds_of_cond 3 Tryz.f3 rfl rfl rfl rfl rfl rfl rfl ⟨rfl, rfl, rfl, rfl, rfl⟩ rfl rfl rfl rfl rfl (by kernel_rfl) Tryz.func3 (by kernel_rfl)
    (of_decide_eq_true (by kernel_rfl)) (by unfold Func.isWrapper; first | (rw [if_pos (by decide +kernel)]; kernel_rfl) | (rw [if_neg (by decide +kernel)]; exact ⟨rfl, rfl⟩))
    (fun os started H enc _ F => by rw [OpenClaim.pre_eq_preRow]; exact lifted os started H enc F)

/-- No parameter wants a stand-in; the program's own looks are on. -/
theorem plain (f : FuncId) (fn : Func) (hf : Tryz.pinned.checked.prog.funcNamed "bole/bolelaw24.PackDecodes" = some f) (hfn : Tryz.pinned.checked.prog.funcs[f]? = some fn) :
    true = Tryz.pinned.checked.prog.looks [] ∧ ∀ (j : Nat) t, fn.params[j]? = some t → Tryz.pinned.checked.prog.wantsStandIn t = false := by
  obtain rfl : f = 3 := Option.some.inj ((show Tryz.prog.funcNamed "bole/bolelaw24.PackDecodes" = some 3 by kernel_rfl).symm.trans hf) |>.symm
  obtain rfl : fn = Tryz.f3 := (Option.some.inj (Tryz.func3.symm.trans hfn)).symm
  refine ⟨by kernel_rfl, fun j t ht => ?_⟩
  rw [Tryz.params3] at ht
  have hm : t = 22 := by simpa using Array.mem_of_getElem? ht
  subst hm
  exact (show Tryz.prog.wantsStandIn 22 = false by kernel_rfl)

/-- The card of the second form. -/
theorem cardUpto : Rows.PackDecodesUptoCardSaid :=
  Claim7.holds_tied_plain_at .later [] _ _ _ _ saidUpto (fun _ h => by cases h) (by kernel_rfl) (fun _ h => by cases h) packDecodesUpto_row_tie rfl ⟨rfl, rfl⟩ (by kernel_rfl) rfl plain (by kernel_rfl)
#print axioms cardUpto
end Go.Proofs.YtnmgdlmicgbapaaGreatDoor.packDecodes
