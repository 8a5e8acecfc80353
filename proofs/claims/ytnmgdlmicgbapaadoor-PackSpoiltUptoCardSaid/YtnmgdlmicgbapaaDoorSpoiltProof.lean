/- The statement PackSpoilt where what comes in is of bulk at most 1048576, proved, and its card: whatever the list, the place, the byte and the bytes behind, the law answers true: the bytes of a list with one byte changed, or cut short, or lengthened, are those of none. Condition: the bulk, and that the library's and the program's variables hold what the row lists. -/
import Derived.Test.YtnmgdlmicgbapaaDoorPOpen
import Derived.Test.YtnmgdlmicgbapaaDoorSpoiltLaw
import Derived.Test.YtnmgdlmicgbapaaDoorCards
import Derived.Test.YtnmgdlmicgbapaaDoorTie
import Derived.Carry
namespace Go.Proofs.YtnmgdlmicgbapaaDoor.packSpoilt
open Go.ChangeShapes Go.WideShapes Go.Deep Go.ChangeAt Go.RowKit

theorem bulk_pos {H : Type} : ∀ d : DataW H, 1 ≤ Rows.uptoBulk d := by
  intro d
  cases d with
  | lit l => cases l <;> simp [Rows.uptoBulk]
  | _ => simp [Rows.uptoBulk]
theorem bulk_len {H : Type} : ∀ l : List (DataW H), l.length ≤ Rows.uptoBulkAll l
  | [] => Nat.zero_le _
  | d :: l => by
    have h1 := bulk_pos d
    have h2 := bulk_len l
    rw [Rows.uptoBulkAll, List.length_cons]
    omega
theorem range_of {n : Int} (h : (Lit.int .u8 n).wf = true) : 0 ≤ n ∧ n ≤ 255 := by
  simp [Lit.wf, IntKind.min, IntKind.max, IntKind.signed, IntKind.bits] at h
  omega
theorem cellsB : Tryd.prog.cellsOf 5 = 1 := by kernel_rfl
/-- An address whose cell is there is a plain one. -/
theorem plain_at {w : World} {a : Addr} {j : Nat} {v : Value} (h0 : w.cell? (a.add 0) ≠ none) (h : w.cell? (a.add j) = some v) : ∃ g o, a = ⟨g, o, none⟩ ∧ g < w.heap.size ∧ w.cell? ⟨g, o + j, none⟩ = some v := by
  obtain ⟨b, o, sp⟩ := a
  cases sp with
  | none =>
    rw [Addr.add_lit] at h
    exact ⟨b, o, rfl, World.block_lt_of_cell? _ _ h, h⟩
  | some q =>
    have e0 : (⟨b, o, some q⟩ : Addr).add 0 = ⟨b, o, some q⟩ := rfl
    rw [e0] at h0
    exfalso
    apply h0
    unfold World.cell?
    split
    · rfl
    · rfl
set_option maxRecDepth 100000 in
/-- Bytes that came in. -/
theorem open_seen {H : Type} {enc : TypeId × Value → H} {W : World} {b0 : Nat} {v : Value} {d : DataW H} {p : List MemPlace} (hv : Value.okWide Tryd.prog W .any b0 23 v) (h : DataW.Trod enc Tryd.prog W 0 (fun _ => true) true 23 v d p) (hb : Rows.uptoBulk d ≤ 1048576) :
    ∃ (b : List UInt8) (ao : Option Addr) (cap : Nat), v = .slice ao b.length cap ∧ Pw.BytesSeen W ao b ∧ (ao = none → b.length = 0 ∧ cap = 0) ∧ (b.length ≤ cap ∧ cap ≤ 9223372036854775807) ∧ b.length ≤ 1048576 := by
  obtain ⟨a0, len0, cap0, rfl⟩ := okWide_slice Tryd.underlying23 hv
  obtain ⟨fuel, hf⟩ := h
  rcases open_ints Tryd.underlying23 Tryd.underlying5 cellsB hf with ⟨hc, hy⟩ | ⟨a, len, cap, zs, hc, _, hl, hm, hz, hy, hcell, hw⟩
  · simp [Value.cells] at hc
    obtain ⟨rfl, rfl, rfl⟩ := hc
    exact ⟨[], none, 0, rfl, fun j c hj => (by cases hj), fun _ => ⟨rfl, rfl⟩, ⟨Nat.le_refl _, Nat.zero_le _⟩, Nat.zero_le _⟩
  · simp [Value.cells] at hc
    obtain ⟨rfl, rfl, rfl⟩ := hc
    simp only [if_true] at hz
    simp only [Prod.mk.injEq] at hy
    obtain ⟨rfl, _⟩ := hy
    have hlen : ((zs.take len0).map fun z => UInt8.ofNat z.toNat).length = len0 := by rw [List.length_map, List.length_take]; omega
    have hsm : len0 ≤ 1048576 := by
      have := bulk_len (lits (H := H) .u8 (zs.take len0))
      simp only [lits, List.length_map, List.length_take] at this
      simp only [Rows.uptoBulk, lits] at hb
      omega
    refine ⟨(zs.take len0).map fun z => UInt8.ofNat z.toNat, some a, cap0, by rw [hlen], fun j c hj => ?_, fun e => (by cases e), ⟨by omega, hm⟩, by rw [hlen]; exact hsm⟩
    have hjl := (List.getElem?_eq_some_iff.1 hj).1
    rw [hlen] at hjl
    have hcj := hcell j (by omega)
    have hc0 := hcell 0 (by omega)
    obtain ⟨g, o, rfl, h1, h2⟩ := plain_at (by rw [hc0]; simp) hcj
    refine ⟨g, o, rfl, h1, h2.trans ?_⟩
    rw [List.getElem?_map, List.getElem?_take_of_lt hjl] at hj
    obtain ⟨z, hz2, rfl⟩ := Option.map_eq_some_iff.1 hj
    have hr := range_of (hw z (List.mem_of_getElem? hz2))
    rw [List.getD_eq_getElem?_getD, hz2, Option.getD_some, UInt8.toNat_ofNat']
    congr 2
    omega
theorem enc_wt (l : List Pk.PItem) : (Pk.enc l).length ≤ 16 + 4 * (l.map packEncodes.wt).sum := by
  have h : ∀ r : List Pk.PItem, (r.flatMap Pk.itemB).length ≤ 4 * (r.map packEncodes.wt).sum := by
    intro r
    induction r with
    | nil => simp
    | cons x r ih =>
      rw [List.flatMap_cons, List.length_append, Pk.itemB_len, List.map_cons, List.sum_cons]
      unfold packEncodes.wt at ih ⊢
      omega
  have h2 := h l
  unfold Pk.enc Pk.body
  simp only [List.length_append, Pk.low_len]
  have : Pk.magic.length = 8 := rfl
  omega
theorem byte_of {n : Int} (h : (Lit.int .u8 n).wf = true) : ∃ x : UInt8, n = (x.toNat : Int) := by
  have := range_of h
  exact ⟨UInt8.ofNat n.toNat, by rw [UInt8.toNat_ofNat']; omega⟩
set_option maxRecDepth 100000 in
theorem contract (H : Type) (enc : TypeId × Value → H) (W : World) (base : Nat) (args : Array Value) (ds gs : List (DataW H)) (before : List MemPlace)
    (hval : ∀ (j : Nat) t v, Tryd.f3.params[j]? = some t → args[j]? = some v → Value.okWide Tryd.prog W .any base t v)
    (hW : DataW.Whole enc Tryd.prog Tryd.f3.params.toList Rows.packSpoiltSpec.vars false W args.toList ds gs before) (hk : Rows.uptoSmall H (ds ++ gs) = true) (hL : laidMet Tryd.prog Pv.laid4 W) (hS : W.ShapedOpen Tryd.prog) :
    Calls Tryd.prog 3 args W fun e W' => ∃ v, e = .returned v ∧ Rows.packSpoiltSpec.post enc Tryd.prog Tryd.f3 false true false false W args v W' := by
  have hW' := hW
  obtain ⟨p, q, hA0, hV, rfl, hfz, hnd⟩ := hW
  have hA : DataW.TrodAll enc Tryd.prog W 0 (fun _ => true) true Tryd.f3.params.toList args.toList ds p := hA0
  rw [Tryd.params3] at hA hval
  obtain ⟨v0, v1, v2, v3, d0, d1, d2, d3, p0, p1, p2, p3, rfl, rfl, rfl, h0, h1, h2, h3⟩ := trodAll_four hA
  obtain ⟨rfl, rfl⟩ := trodVars_none hV
  have k0 := h0
  have k3 := h3
  clear hA0
  simp only [List.append_nil] at hk
  have hbulk := of_decide_eq_true hk
  simp only [Rows.uptoBulkAll, Nat.add_zero] at hbulk
  obtain ⟨l, ao, cap, rfl, hI, hs, hl, hw⟩ := packEncodes.open_items (hval 0 22 v0 rfl rfl) h0 (decide_eq_true (show Rows.uptoBulkAll [d0] ≤ 1048576 by simp only [Rows.uptoBulkAll, Nat.add_zero]; omega))
  obtain ⟨n1, rfl, rfl, rfl, hn1⟩ := open_int Tryd.underlying3 (hval 1 3 v1 rfl rfl) h1
  obtain ⟨n2, rfl, rfl, rfl, hn2⟩ := open_int Tryd.underlying5 (hval 2 5 v2 rfl rfl) h2
  obtain ⟨m, mo, mc, rfl, hM, hMn, hMc, hMl⟩ := open_seen (hval 3 23 v3 rfl rfl) h3 (by omega)
  obtain ⟨x, rfl⟩ := byte_of hn2
  have hen := enc_wt l
  simp only [List.append_nil] at hW'
  refine (Pw.packSpoilt_any l ao cap n1 x m mo mc W hI hs (by omega) (by omega) hM hMn hMc (by omega) (Pv.tabs_of hL hS)).mono fun e W' ⟨he, hb⟩ => ?_
  subst he
  exact ⟨_, rfl, _, _, _, [], _, [], hW', trodAll_cons_mk (shut_bool Tryd.underlying4 _) trodAll_mk0,
    trodAll_cons_mk (Below.trod Pv.laidOut (by kernel_rfl) (of_decide_eq_true (by kernel_rfl)) k0 hb (fun x hx => hW'.lt x (List.mem_append_left _ hx)))
      (trodAll_cons_mk (shut_int Tryd.underlying3 hn1) (trodAll_cons_mk (shut_int Tryd.underlying5 hn2)
        (trodAll_cons_mk (Below.trod Pv.laidOut (by kernel_rfl) (of_decide_eq_true (by kernel_rfl)) k3 hb (fun x hx => hW'.lt x (List.mem_append_right _ hx))) trodAll_mk0))), rfl, hb.frame _, fun h => by cases h⟩

theorem reads (os : Os) {H : Type} (enc : TypeId × Value → H) : ∃ places, DataW.whole enc Tryd.prog ((Pv.world os).forCall (fun _ _ => 0) ⟨#[], #[.slice none 0 0, .int .i64 0, .int .u8 0, .slice none 0 0], []⟩).memory Tryd.f3.params.toList Rows.packSpoiltSpec.vars false #[.slice none 0 0, .int .i64 0, .int .u8 0, .slice none 0 0].toList 8 = some ([.nil, .lit (.int .i64 0), .lit (.int .u8 0), .nil], [], places) :=
  ⟨[], by kernel_rfl⟩

set_option maxRecDepth 100000 in
theorem lifted (os : Os) (started : os.Started) (H : Type) (enc : TypeId × Value → H) (F : Stop.Interp) :
    ReturnsInHanded {} Tryd.checked os 3 .any ((Rows.OpenSpec.upto Rows.packSpoiltSpec).preRow enc Tryd.prog Tryd.f3 Rows.packSpoiltUptoRow.domain false Rows.packSpoiltUptoRow.laid) (((Rows.OpenSpec.upto Rows.packSpoiltSpec).at F).post enc Tryd.prog Tryd.f3 false true false false) := by
  obtain ⟨places, hx⟩ := reads os enc
  refine returnsInHanded_of_row (C := Tryd.checked) (s := Rows.OpenSpec.upto Rows.packSpoiltSpec) Pv.own started (by kernel_rfl) Tryd.func3
    (witness_row_atRef (enc := enc) (C := Tryd.checked) false (Pv.world os) #[.slice none 0 0, .int .i64 0, .int .u8 0, .slice none 0 0] (World.laidAll_os _ _ _) (by kernel_rfl) (by kernel_rfl) (by kernel_rfl)
      (OpenSpec.preRow_of_cond 8 hx (by kernel_rfl) (fun k hk => by cases hk; kernel_rfl) (by kernel_rfl) (Pv.world_met os _))) ?_
  intro W base args ds gs before hval hW _ hcond _ hL hS _
  exact contract H enc W base args ds gs before hval hW (hcond _ rfl) (by rw [MakeChecks.laidMetH_plain _ _ _ (by kernel_rfl)] at hL; exact hL) hS

theorem saidUpto : Rows.PackSpoiltUptoSaid :=
  OpenClaim.holds_of_cond 3 Tryd.f3 rfl rfl rfl rfl rfl rfl rfl ⟨rfl, rfl, rfl, rfl, rfl⟩ rfl rfl rfl rfl rfl (by kernel_rfl) Tryd.func3 (by kernel_rfl)
    (of_decide_eq_true (by kernel_rfl)) (by unfold Func.isWrapper; first | (rw [if_pos (by decide +kernel)]; kernel_rfl) | (rw [if_neg (by decide +kernel)]; exact ⟨rfl, rfl⟩))
    (fun os started H enc _ F => by rw [OpenClaim.pre_eq_preRow]; exact lifted os started H enc F)

/-- No parameter wants a stand-in; the program's own looks are on. -/
theorem plain (f : FuncId) (fn : Func) (hf : Tryd.pinned.checked.prog.funcNamed "bole/bolelaw24.PackSpoilt" = some f) (hfn : Tryd.pinned.checked.prog.funcs[f]? = some fn) :
    true = Tryd.pinned.checked.prog.looks [] ∧ ∀ (j : Nat) t, fn.params[j]? = some t → Tryd.pinned.checked.prog.wantsStandIn t = false := by
  obtain rfl : f = 3 := Option.some.inj ((show Tryd.prog.funcNamed "bole/bolelaw24.PackSpoilt" = some 3 by kernel_rfl).symm.trans hf) |>.symm
  obtain rfl : fn = Tryd.f3 := (Option.some.inj (Tryd.func3.symm.trans hfn)).symm
  refine ⟨by kernel_rfl, fun j t ht => ?_⟩
  rw [Tryd.params3] at ht
  have hm : t = 22 ∨ t = 3 ∨ t = 5 ∨ t = 23 := by simpa using Array.mem_of_getElem? ht
  rcases hm with rfl | rfl | rfl | rfl
  · exact (show Tryd.prog.wantsStandIn 22 = false by kernel_rfl)
  · exact (show Tryd.prog.wantsStandIn 3 = false by kernel_rfl)
  · exact (show Tryd.prog.wantsStandIn 5 = false by kernel_rfl)
  · exact (show Tryd.prog.wantsStandIn 23 = false by kernel_rfl)

/-- The card of the second form. -/
theorem cardUpto : Rows.PackSpoiltUptoCardSaid :=
  Claim7.holds_tied_plain_at .later [] _ _ _ _ saidUpto (fun _ h => by cases h) (by kernel_rfl) (fun _ h => by cases h) packSpoiltUpto_row_tie rfl ⟨rfl, rfl⟩ (by kernel_rfl) rfl plain (by kernel_rfl)
#print axioms cardUpto
end Go.Proofs.YtnmgdlmicgbapaaDoor.packSpoilt
