/- Calls that came in, opened. -/
import Derived.Test.YtlnnbjgfpiefdaaGreatRamB22
import Derived.ProofKit
import Derived.SizedLaws
import Derived.Deep.Slices
import Derived.Deep.Fields
import Derived.ChangeSame
import Derived.ChangeSlices
import Derived.Lib.SmallJoins
namespace Go.Proofs.YtlnnbjgfpiefdaaGreat
open Go.ChangeShapes Go.WideShapes Go.Deep Go.ChangeAt Go.RowKit Go.Joins

namespace Fs
section
variable {H : Type} {enc : TypeId × Value → H} {P : Program} {w : World} {base : Nat} {spare : Nat → Bool} {held : Bool}
theorem open_slice_fields {t e : TypeId} {fs : Array Field} {fuel : Nat} {cs : List Value} {x : DataW H × List MemPlace} (ht : P.underlying t = some (.slice e)) (he : P.underlying e = some (.struct fs))
    (hone : oneCellFields P fs = true) (hC : P.cellsOf e = fs.size) (h : DataW.trod enc P w base spare held fuel t cs = some x) :
    (cs = [.slice none 0 0] ∧ x = (.nil, [])) ∨
    ∃ (a : Addr) (len cap m : Nat) (D : Nat → DataW H) (Pl : Nat → List MemPlace), cs = [.slice (some a) len cap] ∧ base ≤ a.block ∧ len ≤ cap ∧ cap ≤ maxLen ∧ m = (if spare a.block then cap else len) ∧
      x = (.slice ((List.range len).map D) ((List.range (m - len)).map fun j => D (len + j)), MemPlace.row a (m * fs.size) ++ (List.range m).flatMap Pl) ∧
      ∀ i, i < m → ∃ (ys : List (DataW H × List MemPlace)) (n : Nat), D i = .agg (ys.map (·.1)) ∧ Pl i = ys.flatMap (·.2) ∧ ys.length = fs.size ∧
        ∀ (j : Nat) (f : Field), fs[j]? = some f → ∃ (v : Value) (y : DataW H × List MemPlace), w.cell? (a.add (i * fs.size + j)) = some v ∧ ys[j]? = some y ∧ DataW.trod enc P w base spare held n f.type [v] = some y := by
  rcases open_slice ht h with h0 | ⟨a, len, cap, m, n, D, Pl, hcs, hb, hl, hm, hmm, hx, hi⟩
  · exact .inl h0
  · refine .inr ⟨a, len, cap, m, D, Pl, hcs, hb, hl, hm, hmm, by rw [hC] at hx; exact hx, fun i him => ?_⟩
    obtain ⟨cs', hc, ht'⟩ := hi i him
    rw [hC] at hc
    obtain ⟨ys, n', hn', hy, hlen, hyl, hf⟩ := DataW.trod_struct he ht'
    obtain ⟨_, hcl, hat⟩ := World.cells?_some hc
    simp only [Prod.mk.injEq] at hy
    refine ⟨ys, n', hy.1, hy.2, hyl, fun j f hj => ?_⟩
    obtain ⟨ho, hk⟩ := hone_of hone j f hj
    have hjl : j < fs.size := (Array.getElem?_eq_some_iff.1 hj).1
    have hcell := hat j hjl
    have hv : cs'[j]? = some (cs'[j]'(by omega)) := List.getElem?_eq_getElem (by omega)
    have h1 := hf j f hj
    rw [ho, hk] at h1
    have hone' : (cs'.drop j).take 1 = [cs'[j]'(by omega)] := by
      rw [List.drop_eq_getElem_cons (by omega)]
      rfl
    rw [hone'] at h1
    have hys : ys[j]? = some (ys[j]'(by omega)) := List.getElem?_eq_getElem (by omega)
    refine ⟨_, _, ?_, hys, h1.trans hys⟩
    rw [← Go.Deep.add_add, hcell, hv]
end
theorem range_of {n : Int} (h : (Lit.int .i64 n).wf = true) : -9223372036854775808 ≤ n ∧ n ≤ 9223372036854775807 := by
  simp [Lit.wf, IntKind.min, IntKind.max, IntKind.signed, IntKind.bits] at h
  omega
/-- An address whose cell is there is a plain one. -/
theorem plain_at {w : World} {a : Addr} {j : Nat} {v : Value} (h0 : w.cell? (a.add 0) ≠ none) (h : w.cell? (a.add j) = some v) : ∃ g o, a = ⟨g, o, none⟩ ∧ g < w.heap.size ∧ w.cell? ⟨g, o + j, none⟩ = some v := by
  obtain ⟨b, o, sp⟩ := a
  cases sp with
  | none =>
    rw [Addr.add_lit] at h
    exact ⟨b, o, rfl, World.block_lt_of_cell? _ _ h, h⟩
  | some q =>
    have e0 : (⟨b, o, some q⟩ : Addr).add 0 = ⟨b, o, some q⟩ := rfl
    rw [e0] at h0
    exfalso
    apply h0
    unfold World.cell?
    split
    · rfl
    · rfl
theorem weightsAll_mem {H : Type} {P : Program} {e : TypeId} : ∀ {l : List (DataW H)} {d : DataW H}, d ∈ l → ∀ n ∈ d.weights P e, n ∈ DataW.weightsAll P e l
  | d0 :: l, d, h, n, hn => by
    rw [DataW.weightsAll, List.mem_append]
    rcases List.mem_cons.1 h with rfl | h
    · exact .inl hn
    · exact .inr (weightsAll_mem h n hn)
abbrev callFs : Array Field := #[{ name := "Kind", type := 3, offset := 0, embedded := false, tag := "", pkgPath := "", byteOffset := 0 }, { name := "Path", type := 9, offset := 1, embedded := false, tag := "", pkgPath := "", byteOffset := 8 }, { name := "Other", type := 9, offset := 2, embedded := false, tag := "", pkgPath := "", byteOffset := 24 }, { name := "Offset", type := 3, offset := 3, embedded := false, tag := "", pkgPath := "", byteOffset := 40 }, { name := "Size", type := 3, offset := 4, embedded := false, tag := "", pkgPath := "", byteOffset := 48 }, { name := "Data", type := 9, offset := 5, embedded := false, tag := "", pkgPath := "", byteOffset := 56 }]
theorem undCall : Tryz.prog.underlying 38 = some (.struct callFs) := Tryz.underlying38
theorem cellsCall : Tryz.prog.cellsOf 38 = 6 := by kernel_rfl
/-- What a datum's weights say. -/
def Light {H : Type} (t : TypeId) (d : DataW H) : Prop := ∀ n ∈ d.weights Tryz.prog t, n ≤ reachBytes
theorem light_of {H : Type} {ts : List TypeId} {ds : List (DataW H)} (h : (DataW.weightsEach Tryz.prog ts ds).all (· ≤ reachBytes) = true) {j : Nat} {t : TypeId} {d : DataW H} (ht : ts[j]? = some t) (hd : ds[j]? = some d) : Light t d := fun n hn => by
  have := List.all_eq_true.1 h _ (DataW.weights_mem_each ht hd n hn)
  simpa using this
set_option maxRecDepth 100000 in
/-- One call that came in. -/
theorem open_call {H : Type} {enc : TypeId × Value → H} {W : World} {n : Nat} {ys : List (DataW H × List MemPlace)} {cell : Nat → Option Value}
    (hf : ∀ (j : Nat) (f : Field), callFs[j]? = some f → ∃ (v : Value) (y : DataW H × List MemPlace), cell j = some v ∧ ys[j]? = some y ∧ DataW.trod enc Tryz.prog W 0 (fun _ => true) true n f.type [v] = some y) (h6 : ys.length = 6)
    (hl : Light 38 (DataW.agg (ys.map (·.1)))) :
    ∃ c : Call, CallOk c ∧ ∀ i v, (callC c)[i]? = some v → cell i = some v := by
  obtain ⟨c0, y0, k0, e0, t0⟩ := hf 0 _ rfl
  obtain ⟨c1, y1, k1, e1, t1⟩ := hf 1 _ rfl
  obtain ⟨c2, y2, k2, e2, t2⟩ := hf 2 _ rfl
  obtain ⟨c3, y3, k3, e3, t3⟩ := hf 3 _ rfl
  obtain ⟨c4, y4, k4, e4, t4⟩ := hf 4 _ rfl
  obtain ⟨c5, y5, k5, e5, t5⟩ := hf 5 _ rfl
  match ys, h6 with
  | [z0, z1, z2, z3, z4, z5], _ =>
    cases e0; cases e1; cases e2; cases e3; cases e4; cases e5
    obtain ⟨n0, g0, x0, f0⟩ := DataW.trod_int Tryz.underlying3 t0
    obtain ⟨s1, g1, x1, _⟩ := DataW.trod_string Tryz.underlying9 t1
    obtain ⟨s2, g2, x2, _⟩ := DataW.trod_string Tryz.underlying9 t2
    obtain ⟨n3, g3, x3, f3⟩ := DataW.trod_int Tryz.underlying3 t3
    obtain ⟨n4, g4, x4, f4⟩ := DataW.trod_int Tryz.underlying3 t4
    obtain ⟨s5, g5, x5, _⟩ := DataW.trod_string Tryz.underlying9 t5
    simp only [List.cons.injEq, and_true] at g0 g1 g2 g3 g4 g5
    subst g0 g1 g2 g3 g4 g5 x0 x1 x2 x3 x4 x5
    have hw : ∀ m ∈ (DataW.agg [DataW.lit (Lit.int .i64 n0), .lit (.string s1.data.toList), .lit (.string s2.data.toList), .lit (.int .i64 n3), .lit (.int .i64 n4), .lit (.string s5.data.toList)] : DataW H).weights Tryz.prog 38, m ≤ reachBytes := hl
    have h1 : s1.data.toList.length ≤ reachBytes := hw _ (by rw [DataW.weights, undCall]; exact DataW.weights_mem_each (j := 1) (t := 9) rfl rfl _ (by simp [DataW.weights]))
    have h2 : s2.data.toList.length ≤ reachBytes := hw _ (by rw [DataW.weights, undCall]; exact DataW.weights_mem_each (j := 2) (t := 9) rfl rfl _ (by simp [DataW.weights]))
    unfold reachBytes at h1 h2
    refine ⟨⟨n0, bs s1, bs s2, n3, n4, bs s5⟩, ⟨(range_of f3).1, (range_of f3).2, by show s1.data.toList.length ≤ _; omega, by show s2.data.toList.length ≤ _; omega⟩, fun i v hi => ?_⟩
    match i, hi with
    | 0, hi => cases hi; exact k0
    | 1, hi => cases hi; exact k1
    | 2, hi => cases hi; exact k2
    | 3, hi => cases hi; exact k3
    | 4, hi => cases hi; exact k4
    | 5, hi => cases hi; exact k5
set_option maxRecDepth 100000 in
/-- The calls that came in. -/
theorem open_calls {H : Type} {enc : TypeId × Value → H} {W : World} {b0 : Nat} {v : Value} {d : DataW H} {p : List MemPlace} (hv : Value.okWide Tryz.prog W .any b0 22 v) (h : DataW.Trod enc Tryz.prog W 0 (fun _ => true) true 22 v d p) (hl : Light 22 d) :
    ∃ (l : List Call) (ao : Option Addr) (cap : Nat), v = .slice ao l.length cap ∧ (∀ j c, l[j]? = some c → ∃ g o, ao = some ⟨g, o, none⟩ ∧ g < W.heap.size ∧ ∀ i v, (callC c)[i]? = some v → W.cell? ⟨g, o + (j * 6 + i), none⟩ = some v) ∧ ∀ c ∈ l, CallOk c := by
  obtain ⟨a0, len0, cap0, rfl⟩ := okWide_slice Tryz.underlying22 hv
  obtain ⟨fuel, hf⟩ := h
  rcases open_slice_fields Tryz.underlying22 undCall (by kernel_rfl) cellsCall hf with ⟨hcs, hx⟩ | ⟨a, len, cap, m, D, Pl, hcs, _, hll, hm, hmm, hx, hi⟩
  · simp [Value.cells] at hcs
    obtain ⟨rfl, rfl, rfl⟩ := hcs
    exact ⟨[], none, 0, rfl, fun j x hx => (by cases hx), fun x hx => (by cases hx)⟩
  · simp [Value.cells] at hcs
    obtain ⟨rfl, rfl, rfl⟩ := hcs
    simp only [Prod.mk.injEq] at hx
    obtain ⟨rfl, _⟩ := hx
    simp only [if_true] at hmm
    have hone : ∀ i : Fin len0, ∃ c : Call, CallOk c ∧ ∀ j v, (callC c)[j]? = some v → W.cell? (a.add (i.val * 6 + j)) = some v := by
      intro i
      obtain ⟨ys, n, hD, _, h6, hfs⟩ := hi i.val (by have := i.isLt; omega)
      refine open_call (cell := fun j => W.cell? (a.add (i.val * 6 + j))) hfs h6 ?_
      rw [← hD]
      intro w hw
      refine hl w ?_
      rw [DataW.weights, Tryz.underlying22]
      exact List.mem_cons_of_mem _ (List.mem_append_left _ (weightsAll_mem (List.mem_map.2 ⟨i.val, List.mem_range.2 i.isLt, rfl⟩) w hw))
    have hlen : (List.ofFn fun i : Fin len0 => Classical.choose (hone i)).length = len0 := List.length_ofFn
    refine ⟨List.ofFn fun i : Fin len0 => Classical.choose (hone i), some a, cap0, by rw [hlen], fun j x hx => ?_, fun x hx => ?_⟩
    · have hj : j < len0 := by have := (List.getElem?_eq_some_iff.1 hx).1; omega
      rw [List.getElem?_ofFn, dif_pos hj] at hx
      obtain rfl := Option.some.inj hx
      have h2 := (Classical.choose_spec (hone ⟨j, hj⟩)).2
      obtain ⟨c0, _, h20⟩ := hone ⟨0, by omega⟩
      have hz : W.cell? (a.add 0) = some (.int .i64 c0.kind) := h20 0 _ rfl
      obtain ⟨g, o, rfl, hg, _⟩ := plain_at (by rw [hz]; simp) (h2 0 _ rfl)
      refine ⟨g, o, rfl, hg, fun i c hi => ?_⟩
      have := h2 i c hi
      rw [Addr.add_lit] at this
      exact this
    · obtain ⟨i, rfl⟩ := List.mem_ofFn.1 hx
      exact (Classical.choose_spec (hone i)).1
set_option maxRecDepth 100000 in
/-- A call by value. -/
theorem open_one {H : Type} {enc : TypeId × Value → H} {W : World} {b0 : Nat} {v : Value} {d : DataW H} {p : List MemPlace} (hv : Value.okWide Tryz.prog W .any b0 38 v) (h : DataW.Trod enc Tryz.prog W 0 (fun _ => true) true 38 v d p) (hl : Light 38 d) :
    ∃ c : Call, v = .agg (callC c) ∧ CallOk c := by
  obtain ⟨cs, rfl, hsz⟩ := okWide_struct undCall hv
  obtain ⟨fuel, hf⟩ := h
  obtain ⟨ys, n, _, hx, _, hlen, hg⟩ := DataW.trod_struct undCall hf
  simp only [Prod.mk.injEq] at hx
  have hs6 : cs.size = 6 := hsz.trans cellsCall
  obtain ⟨c, hc, hcell⟩ := open_call (cell := fun j => cs[j]?) (n := n) (ys := ys) (fun j f hj => by
    obtain ⟨ho, hk⟩ := hone_of (show oneCellFields Tryz.prog callFs = true by kernel_rfl) j f hj
    have hjl : j < 6 := (Array.getElem?_eq_some_iff.1 hj).1
    have h1 := hg j f hj
    rw [ho, hk] at h1
    have hys : ys[j]? = some (ys[j]'(by have : callFs.size = 6 := rfl; omega)) := List.getElem?_eq_getElem _
    refine ⟨cs[j]'(by omega), _, Array.getElem?_eq_getElem _, hys, ?_⟩
    rw [← hys, ← h1]
    congr 1
    simp only [Value.cells]
    rw [List.drop_eq_getElem_cons (by simpa using (by omega : j < cs.size))]
    simp) hlen (by rw [← hx.1]; exact hl)
  refine ⟨c, ?_, hc⟩
  congr 1
  refine Array.ext_getElem? fun i => ?_
  rcases Nat.lt_or_ge i 6 with hi | hi
  · have : (callC c)[i]? = some ((callC c)[i]'(by show i < 6; exact hi)) := Array.getElem?_eq_getElem _
    rw [this]; exact hcell i _ this
  · rw [Array.getElem?_eq_none (by omega), Array.getElem?_eq_none (by show 6 ≤ i; exact hi)]
end Fs
end Go.Proofs.YtlnnbjgfpiefdaaGreat
