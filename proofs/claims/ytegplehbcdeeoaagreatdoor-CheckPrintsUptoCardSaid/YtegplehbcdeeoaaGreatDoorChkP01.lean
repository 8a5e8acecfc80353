/- The statement CheckPrints where what comes in is of bulk at most 1048576, proved, and its card: whatever the findings, the law answers true: Print and Clean of them are the document's, and they stay as they are, the room behind them too. Condition: the bulk, and that the library's and the program's variables hold what the row lists. -/
import Derived.Test.YtegplehbcdeeoaaGreatDoorChkB31
import Derived.Deep.Slices
import Derived.Deep.Fields
import Derived.ChangeSame
import Derived.ChangeSlices
import Derived.Test.YtegplehbcdeeoaaGreatDoorChkB29
import Derived.Test.YtegplehbcdeeoaaGreatDoorChkB30
import Derived.Test.YtegplehbcdeeoaaGreatDoorCards
import Derived.Test.YtegplehbcdeeoaaGreatDoorTie
import Derived.Carry
/- Findings that came in, opened; what a bounded bulk says of them. -/
namespace Go.Proofs.YtegplehbcdeeoaaGreatDoor.checkPrints
open Go.ChangeShapes Go.WideShapes Go.Deep Go.ChangeAt Go.RowKit
open Go.Joins (slice_form)

section
variable {H : Type} {enc : TypeId × Value → H} {P : Program} {w : World} {base : Nat} {spare : Nat → Bool} {held : Bool}
theorem open_slice_fields {t e : TypeId} {fs : Array Field} {fuel : Nat} {cs : List Value} {x : DataW H × List MemPlace} (ht : P.underlying t = some (.slice e)) (he : P.underlying e = some (.struct fs))
    (hone : oneCellFields P fs = true) (hC : P.cellsOf e = fs.size) (h : DataW.trod enc P w base spare held fuel t cs = some x) :
    (cs = [.slice none 0 0] ∧ x = (.nil, [])) ∨
    ∃ (a : Addr) (len cap m : Nat) (D : Nat → DataW H) (Pl : Nat → List MemPlace), cs = [.slice (some a) len cap] ∧ base ≤ a.block ∧ len ≤ cap ∧ cap ≤ maxLen ∧ m = (if spare a.block then cap else len) ∧
      x = (.slice ((List.range len).map D) ((List.range (m - len)).map fun j => D (len + j)), MemPlace.row a (m * fs.size) ++ (List.range m).flatMap Pl) ∧
      ∀ i, i < m → ∃ (ys : List (DataW H × List MemPlace)) (n : Nat), D i = .agg (ys.map (·.1)) ∧ Pl i = ys.flatMap (·.2) ∧ ys.length = fs.size ∧
        ∀ (j : Nat) (f : Field), fs[j]? = some f → ∃ (v : Value) (y : DataW H × List MemPlace), w.cell? (a.add (i * fs.size + j)) = some v ∧ ys[j]? = some y ∧ DataW.trod enc P w base spare held n f.type [v] = some y := by
  rcases open_slice ht h with h0 | ⟨a, len, cap, m, n, D, Pl, hcs, hb, hl, hm, hmm, hx, hi⟩
  · exact .inl h0
  · refine .inr ⟨a, len, cap, m, D, Pl, hcs, hb, hl, hm, hmm, by rw [hC] at hx; exact hx, fun i him => ?_⟩
    obtain ⟨cs', hc, ht'⟩ := hi i him
    rw [hC] at hc
    obtain ⟨ys, n', hn', hy, hlen, hyl, hf⟩ := DataW.trod_struct he ht'
    obtain ⟨_, hcl, hat⟩ := World.cells?_some hc
    simp only [Prod.mk.injEq] at hy
    refine ⟨ys, n', hy.1, hy.2, hyl, fun j f hj => ?_⟩
    obtain ⟨ho, hk⟩ := hone_of hone j f hj
    have hjl : j < fs.size := (Array.getElem?_eq_some_iff.1 hj).1
    have hcell := hat j hjl
    have hv : cs'[j]? = some (cs'[j]'(by omega)) := List.getElem?_eq_getElem (by omega)
    have h1 := hf j f hj
    rw [ho, hk] at h1
    have hone' : (cs'.drop j).take 1 = [cs'[j]'(by omega)] := by
      rw [List.drop_eq_getElem_cons (by omega)]
      rfl
    rw [hone'] at h1
    have hys : ys[j]? = some (ys[j]'(by omega)) := List.getElem?_eq_getElem (by omega)
    refine ⟨_, _, ?_, hys, h1.trans hys⟩
    rw [← Go.Deep.add_add, hcell, hv]
end
theorem range_of {n : Int} (h : (Lit.int .i64 n).wf = true) : -9223372036854775808 ≤ n ∧ n ≤ 9223372036854775807 := by
  simp [Lit.wf, IntKind.min, IntKind.max, IntKind.signed, IntKind.bits] at h
  omega
theorem bulk_pos {H : Type} : ∀ d : DataW H, 1 ≤ Rows.uptoBulk d := by
  intro d
  cases d with
  | lit l => cases l <;> simp [Rows.uptoBulk]
  | _ => simp [Rows.uptoBulk]
theorem bulk_len {H : Type} : ∀ l : List (DataW H), l.length ≤ Rows.uptoBulkAll l
  | [] => Nat.zero_le _
  | d :: l => by
    have h1 := bulk_pos d
    have h2 := bulk_len l
    rw [Rows.uptoBulkAll, List.length_cons]
    omega
theorem bulk_mem {H : Type} : ∀ (l : List (DataW H)) (d : DataW H), d ∈ l → Rows.uptoBulk d ≤ Rows.uptoBulkAll l
  | e :: l, d, h => by
    rw [Rows.uptoBulkAll]
    rcases List.mem_cons.1 h with rfl | h
    · omega
    · have := bulk_mem l d h
      omega
/-- An address whose cell is there is a plain one. -/
theorem plain_at {w : World} {a : Addr} {j : Nat} {v : Value} (h0 : w.cell? (a.add 0) ≠ none) (h : w.cell? (a.add j) = some v) : ∃ g o, a = ⟨g, o, none⟩ ∧ g < w.heap.size ∧ w.cell? ⟨g, o + j, none⟩ = some v := by
  obtain ⟨b, o, sp⟩ := a
  cases sp with
  | none =>
    rw [Addr.add_lit] at h
    exact ⟨b, o, rfl, World.block_lt_of_cell? _ _ h, h⟩
  | some q =>
    have e0 : (⟨b, o, some q⟩ : Addr).add 0 = ⟨b, o, some q⟩ := rfl
    rw [e0] at h0
    exfalso
    apply h0
    unfold World.cell?
    split
    · rfl
    · rfl
theorem cellsFnd : Tryz.prog.cellsOf 34 = 4 := by kernel_rfl
/-- The fields of a finding. -/
abbrev fndFs : Array Field := #[{ name := "Kind", type := 3, offset := 0, embedded := false, tag := "", pkgPath := "", byteOffset := 0 }, { name := "Inode", type := 3, offset := 1, embedded := false, tag := "", pkgPath := "", byteOffset := 8 }, { name := "Block", type := 3, offset := 2, embedded := false, tag := "", pkgPath := "", byteOffset := 16 }, { name := "Name", type := 9, offset := 3, embedded := false, tag := "", pkgPath := "", byteOffset := 24 }]
theorem undFnd : Tryz.prog.underlying 34 = some (.struct fndFs) := Tryz.underlying34
def wt (x : Ck.Fi) : Nat := x.name.length + 4
theorem wt_sum {H : Type} : ∀ (n : Nat) (f : Fin n → Ck.Fi) (D : Nat → DataW H), (∀ i : Fin n, wt (f i) ≤ Rows.uptoBulk (D i.val)) → ((List.ofFn f).map wt).sum ≤ Rows.uptoBulkAll ((List.range n).map D)
  | 0, _, _, _ => by simp [Rows.uptoBulkAll]
  | n + 1, f, D, h => by
    have ih := wt_sum n (fun i => f i.succ) (fun j => D (j + 1)) (fun i => h i.succ)
    have h0 := h 0
    rw [List.ofFn_succ, List.range_succ_eq_map, List.map_cons, List.map_cons, List.sum_cons, Rows.uptoBulkAll, List.map_map]
    have e : (List.range n).map (D ∘ Nat.succ) = (List.range n).map fun j => D (j + 1) := rfl
    rw [e]
    have : wt (f 0) ≤ Rows.uptoBulk (D 0) := h0
    omega
set_option maxRecDepth 100000 in
/-- One finding that came in. -/
theorem open_fnd {H : Type} {enc : TypeId × Value → H} {W : World} {a : Addr} {i n : Nat} {ys : List (DataW H × List MemPlace)}
    (hf : ∀ (j : Nat) (f : Field), fndFs[j]? = some f → ∃ (v : Value) (y : DataW H × List MemPlace), W.cell? (a.add (i * 4 + j)) = some v ∧ ys[j]? = some y ∧ DataW.trod enc Tryz.prog W 0 (fun _ => true) true n f.type [v] = some y) (h4 : ys.length = 4) :
    ∃ x : Ck.Fi, (W.cell? (a.add (i * 4)) = some (.int .i64 x.kind) ∧ W.cell? (a.add (i * 4 + 1)) = some (.int .i64 x.inode) ∧ W.cell? (a.add (i * 4 + 2)) = some (.int .i64 x.block) ∧ W.cell? (a.add (i * 4 + 3)) = some (.string (mk x.name))) ∧ x.In ∧ wt x ≤ Rows.uptoBulk (DataW.agg (ys.map (·.1))) := by
  obtain ⟨c0, y0, k0, e0, t0⟩ := hf 0 _ rfl
  obtain ⟨c1, y1, k1, e1, t1⟩ := hf 1 _ rfl
  obtain ⟨c2, y2, k2, e2, t2⟩ := hf 2 _ rfl
  obtain ⟨c3, y3, k3, e3, t3⟩ := hf 3 _ rfl
  match ys, h4 with
  | [z0, z1, z2, z3], _ =>
    cases e0; cases e1; cases e2; cases e3
    obtain ⟨n0, g0, x0, f0⟩ := DataW.trod_int Tryz.underlying3 t0
    obtain ⟨n1, g1, x1, f1⟩ := DataW.trod_int Tryz.underlying3 t1
    obtain ⟨n2, g2, x2, f2⟩ := DataW.trod_int Tryz.underlying3 t2
    obtain ⟨s3, g3, x3, _⟩ := DataW.trod_string Tryz.underlying9 t3
    simp only [List.cons.injEq, and_true] at g0 g1 g2 g3
    subst g0 g1 g2 g3 x0 x1 x2 x3
    refine ⟨⟨n0, n1, n2, bs s3⟩, ⟨k0, k1, k2, k3⟩, ?_, ?_⟩
    · have r0 := range_of f0
      have r1 := range_of f1
      have r2 := range_of f2
      exact ⟨r0, r1, r2⟩
    · simp only [List.map_cons, List.map_nil, Rows.uptoBulk, Rows.uptoBulkAll, wt]
      have l3 : (bs s3).length = s3.data.toList.length := rfl
      omega
set_option maxRecDepth 100000 in
/-- The findings that came in. -/
theorem open_fnds {H : Type} {enc : TypeId × Value → H} {W : World} {b0 : Nat} {v : Value} {d : DataW H} {p : List MemPlace} (hv : Value.okWide Tryz.prog W .any b0 32 v) (h : DataW.Trod enc Tryz.prog W 0 (fun _ => true) true 32 v d p) (hk : Rows.uptoSmall H [d] = true) :
    (∃ ao cap, v = .slice ao 0 cap) ∨ ∃ (l : List Ck.Fi) (g o cap : Nat), v = .slice (some ⟨g, o, none⟩) l.length cap ∧ g < W.heap.size ∧ Ck.FAt W (some ⟨g, o, none⟩) l ∧ (∀ x ∈ l, x.In) ∧ (l.map wt).sum ≤ 1048576 := by
  have hb := of_decide_eq_true hk
  simp only [Rows.uptoBulkAll, Nat.add_zero] at hb
  obtain ⟨a0, len0, cap0, rfl⟩ := okWide_slice Tryz.underlying32 hv
  obtain ⟨fuel, hf⟩ := h
  rcases open_slice_fields Tryz.underlying32 undFnd (by kernel_rfl) cellsFnd hf with ⟨hcs, hx⟩ | ⟨a, len, cap, m, D, Pl, hcs, _, hl, hm, hmm, hx, hi⟩
  · simp [Value.cells] at hcs
    obtain ⟨rfl, rfl, rfl⟩ := hcs
    exact .inl ⟨_, _, rfl⟩
  · simp [Value.cells] at hcs
    obtain ⟨rfl, rfl, rfl⟩ := hcs
    simp only [Prod.mk.injEq] at hx
    obtain ⟨rfl, _⟩ := hx
    simp only [if_true] at hmm
    simp only [Rows.uptoBulk] at hb
    have hone : ∀ i : Fin len0, ∃ x : Ck.Fi, (W.cell? (a.add (i.val * 4)) = some (.int .i64 x.kind) ∧ W.cell? (a.add (i.val * 4 + 1)) = some (.int .i64 x.inode) ∧ W.cell? (a.add (i.val * 4 + 2)) = some (.int .i64 x.block) ∧ W.cell? (a.add (i.val * 4 + 3)) = some (.string (mk x.name))) ∧ x.In ∧ wt x ≤ Rows.uptoBulk (D i.val) := by
      intro i
      obtain ⟨ys, n, hD, _, h4, hfs⟩ := hi i.val (by have := i.isLt; omega)
      rw [hD]
      exact open_fnd hfs h4
    have hll : (List.ofFn fun i : Fin len0 => Classical.choose (hone i)).length = len0 := List.length_ofFn
    by_cases h0 : len0 = 0
    · subst h0
      exact .inl ⟨_, _, rfl⟩
    · obtain ⟨x0, ⟨z0, _⟩, _⟩ := hone ⟨0, by omega⟩
      rw [show (0 : Nat) * 4 = 0 from rfl] at z0
      obtain ⟨g, o, rfl, hg, _⟩ := plain_at (by rw [z0]; simp) z0
      refine .inr ⟨List.ofFn fun i : Fin len0 => Classical.choose (hone i), g, o, cap0, by rw [hll], hg, fun j x hx => ?_, fun x hx => ?_, ?_⟩
      · have hj : j < len0 := by have := (List.getElem?_eq_some_iff.1 hx).1; omega
        rw [List.getElem?_ofFn, dif_pos hj] at hx
        obtain rfl := Option.some.inj hx
        have hcs := Classical.choose_spec (hone ⟨j, hj⟩)
        generalize Classical.choose (hone ⟨j, hj⟩) = y at hcs ⊢
        obtain ⟨⟨e0, e1, e2, e3⟩, _⟩ := hcs
        rw [Addr.add_lit] at e0 e1 e2 e3
        exact ⟨g, o, rfl, e0, e1, e2, e3⟩
      · obtain ⟨i, rfl⟩ := List.mem_ofFn.1 hx
        exact (Classical.choose_spec (hone i)).2.1
      · have := wt_sum len0 (fun i : Fin len0 => Classical.choose (hone i)) D (fun i => (Classical.choose_spec (hone i)).2.2)
        omega
end Go.Proofs.YtegplehbcdeeoaaGreatDoor.checkPrints
/- A list of findings, copied and made longer. -/
namespace Go.Proofs.YtegplehbcdeeoaaGreatDoor
open Go.RowKit

namespace Ck
open Pk Pw
def fiV (f : Fi) : List Value := [.int .i64 f.kind, .int .i64 f.inode, .int .i64 f.block, .string (mk f.name)]
def fisV (l : List Fi) : List Value := l.flatMap fiV
theorem fisV_len : ∀ l, (fisV l).length = l.length * 4
  | [] => rfl
  | f :: l => by
    show (fiV f ++ fisV l).length = _
    rw [List.length_append, fisV_len l, List.length_cons]
    show 4 + _ = _
    omega
theorem fisV_get : ∀ {l : List Fi} {i : Nat} {f : Fi}, l[i]? = some f → (fisV l)[i * 4]? = some (.int .i64 f.kind) ∧ (fisV l)[i * 4 + 1]? = some (.int .i64 f.inode) ∧ (fisV l)[i * 4 + 2]? = some (.int .i64 f.block) ∧ (fisV l)[i * 4 + 3]? = some (.string (mk f.name))
  | [], _, _, h => by simp at h
  | x :: l, 0, f, h => by
    obtain rfl : x = f := by simpa using h
    exact ⟨rfl, rfl, rfl, rfl⟩
  | x :: l, i + 1, f, h => by
    have h2 := fisV_get (l := l) (i := i) (f := f) (by simpa using h)
    have e : ∀ k, (fisV (x :: l))[k + 4]? = (fisV l)[k]? := fun k => rfl
    rw [show (i + 1) * 4 = i * 4 + 4 by omega, e, show i * 4 + 4 + 1 = (i * 4 + 1) + 4 by omega, e, show i * 4 + 4 + 2 = (i * 4 + 2) + 4 by omega, e, show i * 4 + 4 + 3 = (i * 4 + 3) + 4 by omega, e]
    exact h2
theorem fisV_one (l : List Fi) : ∀ u ∈ fisV l, u.oneCell' = true := by
  intro u hu
  obtain ⟨f, _, hf⟩ := List.mem_flatMap.1 hu
  simp [fiV] at hf
  rcases hf with rfl | rfl | rfl | rfl <;> rfl
theorem FAt.news {W : World} {g o : Nat} {l : List Fi} (h : FAt W (some ⟨g, o, none⟩) l) : ∀ j u, (fisV l)[j]? = some u → W.cell? ((⟨g, o, none⟩ : Addr).add j) = some u := by
  intro j u hj
  rw [addr_plain]
  have hjl := (List.getElem?_eq_some_iff.1 hj).1
  rw [fisV_len] at hjl
  obtain ⟨f, hf⟩ : ∃ f, l[j / 4]? = some f := ⟨_, List.getElem?_eq_getElem (by omega)⟩
  obtain ⟨_, _, e, e0, e1, e2, e3⟩ := h _ _ hf
  cases e
  obtain ⟨c0, c1, c2, c3⟩ := fisV_get hf
  have hc : j = j / 4 * 4 ∨ j = j / 4 * 4 + 1 ∨ j = j / 4 * 4 + 2 ∨ j = j / 4 * 4 + 3 := by omega
  generalize j / 4 = i at *
  rcases hc with rfl | rfl | rfl | rfl
  · rw [c0] at hj; cases hj; exact e0
  · rw [c1] at hj; cases hj; exact e1
  · rw [c2] at hj; cases hj; exact e2
  · rw [c3] at hj; cases hj; exact e3
theorem FAt.of_cells {w : World} {g o : Nat} {l : List Fi} {xs : List Value} (h : ∀ j u, (fisV l ++ xs)[j]? = some u → w.cell? ⟨g, o + j, none⟩ = some u) : FAt w (some ⟨g, o, none⟩) l := by
  intro i f hf
  have hil := (List.getElem?_eq_some_iff.1 hf).1
  obtain ⟨c0, c1, c2, c3⟩ := fisV_get hf
  have e : ∀ k u, (fisV l)[k]? = some u → (fisV l ++ xs)[k]? = some u := fun k u hk => by
    rw [List.getElem?_append_left (List.getElem?_eq_some_iff.1 hk).1]
    exact hk
  exact ⟨g, o, rfl, h _ _ (e _ _ c0), h (i * 4 + 1) _ (e _ _ c1), h (i * 4 + 2) _ (e _ _ c2), h (i * 4 + 3) _ (e _ _ c3)⟩
theorem row_cells {w : World} {base n g cap : Nat} {e : TypeId} {xs : List Value} (h : w.ownsRow base e 4 (.slice (some ⟨g, 0, none⟩) n cap) n xs) : ∀ j u, xs[j]? = some u → w.cell? ⟨g, 0 + j, none⟩ = some u := by
  intro j u hj
  rcases h.2 with ⟨hv, _⟩ | ⟨g2, cap2, cur, hv, hb, hh, hc, hm, hsz, ht⟩
  · cases hv
  · cases hv
    have hB : Blk w g cur e := hh
    rw [← ht] at hj
    have hjl := (List.getElem?_eq_some_iff.1 hj).1
    rw [List.length_take] at hjl
    rw [List.getElem?_take_of_lt (by omega), Array.getElem?_toList] at hj
    rw [Nat.zero_add, hB.cell]
    exact hj
/-- l = append(l, x...), l findings that the call owns, x where they lie. -/
theorem wpList_append_fi (W : World) {ops : Array Oper} {rest : List Oper} {o : Oper} {a : Act} {Q : Exit → Act → World → Prop} (hgd : o.guard = none) (s x : Operand)
    (ho : o.op = .call { callee := .builtin .append, args := #[s, x], argTypes := #[32, 32] }) (base : Nat) (v : Value) (l k : List Fi) (n m g off cap : Nat) (hn : n = l.length) (hm : m = k.length)
    (hs : a.eval s = v) (hown : W.ownsRow base 34 4 v n (fisV l)) (hx : a.eval x = .slice (some ⟨g, off, none⟩) m cap) (hk : FAt W (some ⟨g, off, none⟩) k)
    (hlen : l.length + k.length ≤ 1000000000000) (hbase : base ≤ W.heap.size)
    (h : ∀ v' w', w'.ownsRow base 34 4 v' (n + m) (fisV (l ++ k)) → W.grownBy w' v.ownBlock → (v'.ownBlock = v.ownBlock ∨ ∃ g, v'.ownBlock = some g ∧ W.heap.size ≤ g) → wpList Tryz.prog ops Q rest (a.put o.dst v') w') :
    wpList Tryz.prog ops Q (o :: rest) a W := by
  obtain ⟨i0, hi, hz0, hz1, hz2⟩ := info_parts info_fnd
  subst hn; subst hm
  refine wpList_append_own_at _ hgd s x 32 ho base 34 i0 _ 4 40 Tryz.underlying32 hi hz0 hz1 hz2 rfl (by decide) v _ _ hs hown ⟨g, off, none⟩ k.length cap (fisV k) hx (fisV_len k) hk.news (fisV_one k) (by unfold maxLen; omega) (by omega) hbase ?_
  intro v' w' ho' hg' _ hat
  rw [show fisV l ++ fisV k = fisV (l ++ k) by unfold fisV; rw [List.flatMap_append]] at ho'
  refine h v' w' ho' hg' ?_
  rcases hat with e | e
  · exact .inl e
  · exact .inr ⟨_, e, Nat.le_refl _⟩
theorem fown_empty (w : World) : (w.alloc (.cells #[] 34)).ownsRow w.heap.size 34 4 (.slice (some ⟨w.heap.size, 0, none⟩) 0 0) 0 (fisV []) :=
  ⟨rfl, .inr ⟨w.heap.size, 0, #[], rfl, Nat.le_refl _, Blk.new w #[] 34, Nat.le_refl _, by unfold maxLen; omega, rfl, rfl⟩⟩
end Ck
end Go.Proofs.YtegplehbcdeeoaaGreatDoor
/- CheckPrints. -/
namespace Go.Proofs.YtegplehbcdeeoaaGreatDoor
open Go.RowKit

namespace Ck
open Pk Pw
theorem own_alloc {w : World} {base : Nat} {e : TypeId} {s : Nat} {v : Value} {n : Nat} {xs : List Value} (h : w.ownsRow base e s v n xs) (o : Obj) : (w.alloc o).ownsRow base e s v n xs := by
  rcases h with ⟨h0, h1 | ⟨g, cap, cur, a, b, c, d⟩⟩
  · exact ⟨h0, .inl h1⟩
  · exact ⟨h0, .inr ⟨g, cap, cur, a, b, (((Below.refl _ _).alloc (Nat.le_refl _) o).block g (Array.getElem?_eq_some_iff.1 c).1).trans c, d⟩⟩
theorem own_low {w : World} {base : Nat} {e : TypeId} {s : Nat} {v : Value} {n : Nat} {xs : List Value} (h : w.ownsRow base e s v n xs) : ∀ k, v.ownBlock = some k → base ≤ k := by
  intro k hk
  rcases h.2 with ⟨rfl, _⟩ | ⟨g, cap, cur, rfl, hb, _⟩
  · cases hk
  · cases hk; exact hb
theorem own_cap {w : World} {base : Nat} {e : TypeId} {s : Nat} {a : Addr} {n cap : Nat} {xs : List Value} (h : w.ownsRow base e s (.slice (some a) n cap) n xs) : n ≤ cap ∧ cap ≤ 9223372036854775807 := by
  rcases h.2 with ⟨hv, _⟩ | ⟨g, cap2, cur, hv, hb, hh, hc, hm, _⟩
  · cases hv
  · cases hv
    exact ⟨hc, by unfold maxLen at hm; omega⟩
def f77 : Fi := ⟨77, 0, 0, []⟩
theorem fat77 (w : World) : FAt (w.alloc (.cells #[.int .i64 77, .int .i64 0, .int .i64 0, .string ⟨#[]⟩] 34)) (some ⟨w.heap.size, 0, none⟩) [f77] := by
  have c : Blk (w.alloc (.cells #[.int .i64 77, .int .i64 0, .int .i64 0, .string ⟨#[]⟩] 34)) w.heap.size #[.int .i64 77, .int .i64 0, .int .i64 0, .string ⟨#[]⟩] 34 := Blk.new _ _ _
  intro i f hf
  rcases i with _ | i
  · obtain rfl : f77 = f := by simpa using hf
    exact ⟨_, 0, rfl, c.cell 0, c.cell 1, c.cell 2, c.cell 3⟩
  · simp at hf
/-- The copy with one finding more, and the list's own place. -/
structure Two (w W : World) (g o g2 : Nat) (l : List Fi) : Prop where
  b : Below w.heap.size w W
  s : FAt W (some ⟨g, o, none⟩) l
  t : FAt W (some ⟨g2, 0, none⟩) (l ++ [f77])
  lt : g2 < W.heap.size
  lg : g < w.heap.size
theorem Two.below {w W W' : World} {g o g2 : Nat} {l : List Fi} (h : Two w W g o g2 l) (hb : Below W.heap.size W W') : Two w W' g o g2 l :=
  ⟨h.b.trans (hb.mono h.b.size), h.s.below (fun _ _ e => by cases e; exact Nat.lt_of_lt_of_le h.lg h.b.size) hb, h.t.below (fun _ _ e => by cases e; exact h.lt) hb, Nat.lt_of_lt_of_le h.lt hb.size, h.lg⟩
theorem FAt.front {w : World} {ao : Option Addr} {l m : List Fi} (h : FAt w ao (l ++ m)) : FAt w ao l := fun i f hf => h i f (by rw [List.getElem?_append_left (List.getElem?_eq_some_iff.1 hf).1]; exact hf)
theorem Two.made {w w1 w2 : World} {B g o : Nat} {l : List Fi} {v1 v2 : Value} {n : Nat} {xs : List Value} {ob : Obj} (hB : w.heap.size ≤ B) (hb3 : Below w.heap.size w w1) (ho2 : (w1.alloc ob).ownsRow B 34 4 v1 n xs)
    (ho3 : w2.ownsRow B 34 4 v2 (l.length + 1) (fisV (l ++ [f77]))) (hg3 : (w1.alloc ob).grownBy w2 v1.ownBlock) (hg : g < w.heap.size) (hS : FAt w (some ⟨g, o, none⟩) l) :
    ∃ g2 cap2, v2 = .slice (some ⟨g2, 0, none⟩) (l.length + 1) cap2 ∧ Hid (Two w w2 g o g2 l) ∧ l.length < cap2 ∧ cap2 ≤ 9223372036854775807 := by
  obtain ⟨g2, cap2, rfl, _, hlt⟩ := ho3.form (by omega)
  have hb4 := hb3.alloc hb3.size ob
  have hb5 := hb4.grown hg3 hb4.size (fun k hk => Nat.le_trans hB (own_low ho2 k hk))
  obtain ⟨c1, c2⟩ := own_cap ho3
  exact ⟨g2, cap2, rfl, Lib.hid ⟨hb5, hS.below (fun _ _ e => by cases e; exact hg) hb5, FAt.of_cells (xs := []) (by rw [List.append_nil]; exact row_cells ho3), hlt, hg⟩, c1, c2⟩
set_option maxRecDepth 100000 in
set_option maxHeartbeats 2000000 in
theorem prints_some (hfix : ∀ w, KVars w → CVars w → Calls Tryz.prog 6 #[] w fun e w' => e = .returned (.bool true) ∧ Below w.heap.size w w') (l : List Fi) (g o cap : Nat) (w : World) (hl : l.length ≤ 100000000000) (hin : ∀ f ∈ l, f.In) (hg : g < w.heap.size) (hs : FAt w (some ⟨g, o, none⟩) l) (hk : KVars w) (hc : CVars w) (hr : RVars w) (hlen : ∀ k, (printP (l.take k)).length ≤ 100000000000) (hnm : ∀ f ∈ l, f.name.length ≤ 10000000000) :
    Calls Tryz.prog 5 #[.slice (some ⟨g, o, none⟩) l.length cap] w fun e W9 => e = .returned (.bool true) ∧ Below w.heap.size w W9 := by
  have hP := Lib.hid (fun (ao : Option Addr) cap W (h : FAt W ao l) (v : CVars W) => print_any l ao cap W hl hin h v hlen hnm)
  have hR := Lib.hid (fun (ao : Option Addr) cap W (h : FAt W ao l) (v : RVars W) => refPrint_any l ao cap W hl hin h v hlen hnm)
  have hC := Lib.hid hc
  have hV := Lib.hid hr
  have hS := Lib.hid hs
  have hX := hfix w hk hc
  clear hk hc hr hs hfix hlen hnm hin
  go_enter Tryz.func5, Tryz.ntmps5
  go_wp2_with (first | (go_at_call 6; refine hX.mono ?_; rintro e V1 ⟨rfl, hb1⟩; clear hX; have hb1 := Lib.hid hb1; have hb2 := Lib.hid (hb1.out.alloc hb1.out.size (.cells #[] 34)); have hS2 := Lib.hid (hS.out.below (fun _ _ e => by cases e; exact hg) hb2.out)) | (at_builtin; refine wpList_append_fi (V1.alloc (.cells #[] 34)) rfl (.tmp 9) (.tmp 10) rfl V1.heap.size _ [] l 0 l.length g o cap rfl rfl (by rfl) (fown_empty V1) (by rfl) hS2.out (by simp; omega) (by simp) ?_; intro v1 w1 ho1 hg1 hat1; rw [Nat.zero_add, List.nil_append] at ho1; have hb3 := Lib.hid (hb2.out.grown hg1 hb2.out.size (fun k hk => by cases hk; exact hb1.out.size)); have ho2 := Lib.hid (own_alloc ho1 (.cells #[.int .i64 77, .int .i64 0, .int .i64 0, .string ⟨#[]⟩] 34)); have hat2 := Lib.hid hat1; have hsz := Lib.hid (show V1.heap.size ≤ w1.heap.size from Nat.le_trans (by show _ ≤ (V1.heap.push _).size; rw [Array.size_push]; omega) hg1.size); clear ho1 hg1 hat1) | (at_builtin; refine wpList_append_fi (w1.alloc (.cells #[.int .i64 77, .int .i64 0, .int .i64 0, .string ⟨#[]⟩] 34)) rfl (.tmp 11) (.tmp 13) rfl V1.heap.size v1 l [f77] l.length 1 w1.heap.size 0 1 rfl rfl (by rfl) ho2.out (by rfl) (fat77 w1) (by simp; omega) (Nat.le_trans hsz.out (by show _ ≤ (w1.heap.push _).size; rw [Array.size_push]; omega)) ?_; intro v2 w2 ho3 hg3 hat3; obtain ⟨g2, cap2, rfl, hT, hc2, hc3⟩ := Two.made hb1.out.size hb3.out ho2.out ho3 hg3 hg hS.out; clear ho3 hg3 hat3 ho2 hat2 hsz hb3 hb2 hS2; have hci : (l.length : Int) < (cap2 : Int) := by omega) | (go_at_call 11; refine (hP.out _ _ _ hT.out.t.front (hC.out.below hT.out.b)).mono ?_; rintro e V3 ⟨rfl, hb⟩; have hT3 := Lib.hid (hT.out.below hb); clear hb hT) | (go_at_call 12; refine (clean_any l _ _ V3 (by omega) hT3.out.t.front).mono ?_; rintro e V4 ⟨rfl, hb⟩; have hT4 := Lib.hid (hT3.out.below hb); clear hb hT3) | (go_at_call 13; refine (hR.out _ _ _ hT4.out.s (hV.out.below hT4.out.b)).mono ?_; rintro e V5 ⟨rfl, hb⟩; have hT5 := Lib.hid (hT4.out.below hb); clear hb hT4) | (go_at_call 14; refine (refClean_any l _ _ V5 (by omega) hT5.out.s).mono ?_; rintro e V6 ⟨rfl, rfl⟩) | (go_at_call 15; refine (sameF_any l l _ _ _ _ V5 (by omega) hT5.out.t.front hT5.out.s).mono ?_; rintro e V7 ⟨rfl, hb⟩; have hT7 := Lib.hid (hT5.out.below hb); clear hb hT5; obtain ⟨_, _, ee, e0, e1, e2, e3⟩ := hT7.out.t l.length f77 (by simp); cases ee; simp only [Nat.zero_add, f77] at e0 e1 e2 e3; replace e3 : V7.cell? ⟨g2, l.length * 4 + 3, none⟩ = some (.string ⟨#[]⟩) := e3))
  go_ret
  exact ⟨rfl, hT7.out.b⟩
end Ck
end Go.Proofs.YtegplehbcdeeoaaGreatDoor
/- CheckPrints, for the list that is nil. -/
namespace Go.Proofs.YtegplehbcdeeoaaGreatDoor
open Go.RowKit

namespace Ck
open Pk Pw
set_option linter.unusedSimpArgs false in
/-- Nothing appended: the nil list. -/
theorem wpList_append_none (W : World) {ops : Array Oper} {rest : List Oper} {o : Oper} {a : Act} {Q : Exit → Act → World → Prop} (hgd : o.guard = none) (s x : Operand)
    (ho : o.op = .call { callee := .builtin .append, args := #[s, x], argTypes := #[32, 32] }) (g cap : Nat) (ao : Option Addr)
    (hs : a.eval s = .slice (some ⟨g, 0, none⟩) 0 0) (hx : a.eval x = .slice ao 0 cap)
    (h : wpList Tryz.prog ops Q rest (a.put o.dst (.slice (some ⟨g, 0, none⟩) 0 0)) W) :
    wpList Tryz.prog ops Q (o :: rest) a W := by
  obtain ⟨i0, hi, hz0, hz1, hz2⟩ := info_parts info_fnd
  refine wpList_plain hgd fun K hK => ?_
  have hr : (Builtin.append_ #[32, 32] o.type #[.slice (some ⟨g, 0, none⟩) 0 0, .slice ao 0 cap]).run Tryz.prog W = .ok (.slice (some ⟨g, 0, none⟩) 0 0) W := by
    cases ao <;> simp [Builtin.append_, run_underlying Tryz.underlying32, sizeOf, typeInfo, hi, Builtin.lenOf, Builtin.firstCells, loadCells, loadCellsFrom, storeCells]
  unfold Oper.wp execOp
  simp only [ho, resolve, invoke, builtin, Sem.run_bind, Sem.run_pure, Result.andThen_ok, List.map_toArray, List.map_cons, List.map_nil, hs, hx, hr]
  exact hK _ _ h
theorem fat_nil (W : World) (ao : Option Addr) : FAt W ao [] := fun i f hf => by simp at hf
theorem fat77b (w : World) : FAt ((w.alloc (.cells #[] 34)).alloc (.cells #[.int .i64 77, .int .i64 0, .int .i64 0, .string ⟨#[]⟩] 34)) (some ⟨w.heap.size + 1, 0, none⟩) [f77] := by
  have h := fat77 (w.alloc (.cells #[] 34))
  rw [show (w.alloc (.cells #[] 34)).heap.size = w.heap.size + 1 by show (w.heap.push _).size = _; rw [Array.size_push]] at h
  exact h
/-- The copy of nothing, with one finding. -/
structure One (w W : World) (g2 : Nat) : Prop where
  b : Below w.heap.size w W
  t : FAt W (some ⟨g2, 0, none⟩) [f77]
  lt : g2 < W.heap.size
theorem One.below {w W W' : World} {g2 : Nat} (h : One w W g2) (hb : Below W.heap.size W W') : One w W' g2 :=
  ⟨h.b.trans (hb.mono h.b.size), h.t.below (fun _ _ e => by cases e; exact h.lt) hb, Nat.lt_of_lt_of_le h.lt hb.size⟩
theorem One.made {w w1 w2 : World} {B : Nat} {v1 v2 : Value} {n : Nat} {xs : List Value} {ob : Obj} (hB : w.heap.size ≤ B) (hb3 : Below w.heap.size w w1) (ho2 : (w1.alloc ob).ownsRow B 34 4 v1 n xs)
    (ho3 : w2.ownsRow B 34 4 v2 1 (fisV [f77])) (hg3 : (w1.alloc ob).grownBy w2 v1.ownBlock) :
    ∃ g2 cap2, v2 = .slice (some ⟨g2, 0, none⟩) 1 cap2 ∧ Hid (One w w2 g2) ∧ 0 < cap2 ∧ cap2 ≤ 9223372036854775807 := by
  obtain ⟨g2, cap2, rfl, _, hlt⟩ := ho3.form (by omega)
  have hb4 := hb3.alloc hb3.size ob
  have hb5 := hb4.grown hg3 hb4.size (fun k hk => Nat.le_trans hB (own_low ho2 k hk))
  obtain ⟨c1, c2⟩ := own_cap ho3
  exact ⟨g2, cap2, rfl, Lib.hid ⟨hb5, FAt.of_cells (xs := []) (by rw [List.append_nil]; exact row_cells ho3), hlt⟩, c1, c2⟩
set_option maxRecDepth 100000 in
set_option maxHeartbeats 2000000 in
theorem prints_nil (hfix : ∀ w, KVars w → CVars w → Calls Tryz.prog 6 #[] w fun e w' => e = .returned (.bool true) ∧ Below w.heap.size w w') (ao : Option Addr) (cap : Nat) (w : World) (hk : KVars w) (hc : CVars w) (hr : RVars w) :
    Calls Tryz.prog 5 #[.slice ao 0 cap] w fun e W9 => e = .returned (.bool true) ∧ Below w.heap.size w W9 := by
  have hP := Lib.hid (fun (ao : Option Addr) cap W (v : CVars W) => print_any [] ao cap W (by decide) (by simp) (fat_nil W ao) v (by simp [printP]) (by simp))
  have hR := Lib.hid (fun (ao : Option Addr) cap W (v : RVars W) => refPrint_any [] ao cap W (by decide) (by simp) (fat_nil W ao) v (by simp [printP]) (by simp))
  have hC := Lib.hid hc
  have hV := Lib.hid hr
  have hX := hfix w hk hc
  clear hk hc hr hfix
  go_enter Tryz.func5, Tryz.ntmps5
  go_wp2_with (first | (go_at_call 6; refine hX.mono ?_; rintro e V1 ⟨rfl, hb1⟩; clear hX; have hb2 := Lib.hid (hb1.alloc hb1.size (.cells #[] 34)); have hz := Lib.hid hb1.size; clear hb1) | (at_builtin; refine wpList_append_none (V1.alloc (.cells #[] 34)) rfl (.tmp 9) (.tmp 10) rfl V1.heap.size cap ao rfl (by rfl) ?_; have ho2 := Lib.hid (own_alloc (fown_empty V1) (.cells #[.int .i64 77, .int .i64 0, .int .i64 0, .string ⟨#[]⟩] 34)); have hF := Lib.hid (fat77b V1)) | (at_builtin; refine wpList_append_fi ((V1.alloc (.cells #[] 34)).alloc (.cells #[.int .i64 77, .int .i64 0, .int .i64 0, .string ⟨#[]⟩] 34)) rfl (.tmp 11) (.tmp 13) rfl V1.heap.size _ [] [f77] 0 1 (V1.heap.size + 1) 0 1 rfl rfl (by rfl) ho2.out (by rfl) hF.out (by decide) (by show _ ≤ ((V1.heap.push _).push _).size; rw [Array.size_push, Array.size_push]; omega) ?_; intro v2 w2 ho3 hg3 hat3; obtain ⟨g2, cap2, rfl, hT, hc2, hc3⟩ := One.made hz.out hb2.out ho2.out ho3 hg3; clear ho3 hg3 hat3 ho2 hb2 hF; have hci : (0 : Int) < (cap2 : Int) := by omega) | (go_at_call 11; refine (hP.out _ _ _ (hC.out.below hT.out.b)).mono ?_; rintro e V3 ⟨rfl, hb⟩; have hT3 := Lib.hid (hT.out.below hb); clear hb hT) | (go_at_call 12; refine (clean_any [] _ _ V3 (by decide) (fat_nil _ _)).mono ?_; rintro e V4 ⟨rfl, hb⟩; have hT4 := Lib.hid (hT3.out.below hb); clear hb hT3) | (go_at_call 13; refine (hR.out _ _ _ (hV.out.below hT4.out.b)).mono ?_; rintro e V5 ⟨rfl, hb⟩; have hT5 := Lib.hid (hT4.out.below hb); clear hb hT4) | (go_at_call 14; refine (refClean_any [] _ _ V5 (by decide) (fat_nil _ _)).mono ?_; rintro e V6 ⟨rfl, rfl⟩) | (go_at_call 15; refine (sameF_any [] [] _ _ _ _ V5 (by decide) (fat_nil _ _) (fat_nil _ _)).mono ?_; rintro e V7 ⟨rfl, hb⟩; have hT7 := Lib.hid (hT5.out.below hb); clear hb hT5; obtain ⟨_, _, ee, e0, e1, e2, e3⟩ := hT7.out.t 0 f77 rfl; cases ee; simp only [Nat.zero_add, Nat.zero_mul, f77] at e0 e1 e2 e3; replace e3 : V7.cell? ⟨g2, 3, none⟩ = some (.string ⟨#[]⟩) := e3))
  go_ret
  exact ⟨rfl, hT7.out.b⟩
end Ck
end Go.Proofs.YtegplehbcdeeoaaGreatDoor
namespace Go.Proofs.YtegplehbcdeeoaaGreatDoor.checkPrints
open Go.ChangeShapes Go.WideShapes Go.Deep Go.ChangeAt Go.RowKit

theorem fixed_all (w : World) (hk : Ck.KVars w) (hc : Ck.CVars w) : Calls Tryz.prog 6 #[] w fun e w' => e = .returned (.bool true) ∧ Below w.heap.size w w' :=
  Ck.fixed_any Ck.image_base Ck.image_poked Ck.image_tail w hk hc
theorem print_wt (l : List Ck.Fi) (hin : ∀ f ∈ l, f.In) : (Ck.printP l).length ≤ 100 * (l.map wt).sum := by
  unfold Ck.printP
  induction l with
  | nil => simp
  | cons x r ih =>
    have h1 := Ck.lineP_len x (hin x (by simp))
    have h2 := ih (fun f hf => hin f (by simp [hf]))
    rw [List.flatMap_cons, List.length_append, List.map_cons, List.sum_cons]
    unfold wt at h2 ⊢
    omega
theorem wt_len : ∀ l : List Ck.Fi, l.length ≤ (l.map wt).sum
  | [] => Nat.zero_le _
  | x :: l => by
    have := wt_len l
    rw [List.map_cons, List.sum_cons, List.length_cons]
    unfold wt at this ⊢
    omega
theorem wt_mem : ∀ (l : List Ck.Fi) (x : Ck.Fi), x ∈ l → x.name.length ≤ (l.map wt).sum
  | y :: l, x, h => by
    rw [List.map_cons, List.sum_cons]
    rcases List.mem_cons.1 h with rfl | h
    · unfold wt; omega
    · have := wt_mem l x h
      unfold wt at this ⊢
      omega
theorem wt_take : ∀ (l : List Ck.Fi) (k : Nat), ((l.take k).map wt).sum ≤ (l.map wt).sum
  | [], k => by simp
  | x :: l, 0 => by simp
  | x :: l, k + 1 => by
    have := wt_take l k
    rw [List.take_succ_cons, List.map_cons, List.map_cons, List.sum_cons, List.sum_cons]
    omega
set_option maxRecDepth 100000 in
theorem contract (H : Type) (enc : TypeId × Value → H) (W : World) (base : Nat) (args : Array Value) (ds gs : List (DataW H)) (before : List MemPlace)
    (hval : ∀ (j : Nat) t v, Tryz.f5.params[j]? = some t → args[j]? = some v → Value.okWide Tryz.prog W .any base t v)
    (hW : DataW.Whole enc Tryz.prog Tryz.f5.params.toList Rows.checkPrintsSpec.vars false W args.toList ds gs before) (hk : Rows.uptoSmall H (ds ++ gs) = true) (hL : laidMet Tryz.prog Cv.laid8 W) :
    Calls Tryz.prog 5 args W fun e W' => ∃ v, e = .returned v ∧ Rows.checkPrintsSpec.post enc Tryz.prog Tryz.f5 false true false false W args v W' := by
  have hW' := hW
  obtain ⟨p, q, hA0, hV, rfl, hfz, hnd⟩ := hW
  have hA : DataW.TrodAll enc Tryz.prog W 0 (fun _ => true) true Tryz.f5.params.toList args.toList ds p := hA0
  rw [Tryz.params5] at hA hval
  obtain ⟨v0, d0, rfl, rfl, h0⟩ := trodAll_one hA
  obtain ⟨rfl, rfl⟩ := trodVars_none hV
  have k0 := h0
  clear hA0
  simp only [List.append_nil] at hk
  simp only [List.append_nil] at hW'
  obtain ⟨hC, hR⟩ := Cv.tabs_of hL
  have main : Calls Tryz.prog 5 #[v0] W fun e W9 => e = .returned (.bool true) ∧ Below W.heap.size W W9 := by
    rcases open_fnds (hval 0 32 v0 rfl rfl) h0 hk with ⟨ao, cap, rfl⟩ | ⟨l, g, o, cap, rfl, hg, hF, hin, hw⟩
    · exact Ck.prints_nil fixed_all ao cap W hC.kv hC hR
    · have hl := wt_len l
      refine Ck.prints_some fixed_all l g o cap W (by omega) hin hg hF hC.kv hC hR (fun k => ?_) (fun f hf => ?_)
      · have h1 := print_wt (l.take k) (fun f hf => hin f (List.mem_of_mem_take hf))
        have h2 := wt_take l k
        omega
      · have := wt_mem l f hf
        omega
  refine main.mono fun e W' ⟨he, hb⟩ => ?_
  subst he
  exact ⟨_, rfl, _, _, _, [], _, [], hW', trodAll_cons_mk (shut_bool Tryz.underlying4 _) trodAll_mk0,
    trodAll_cons_mk (Below.trod Cv.laidOut (by kernel_rfl) (of_decide_eq_true (by kernel_rfl)) k0 hb (fun x hx => hW'.lt x (by simpa using hx))) trodAll_mk0, rfl, hb.frame _, fun h => by cases h⟩

theorem reads (os : Os) {H : Type} (enc : TypeId × Value → H) : ∃ places, DataW.whole enc Tryz.prog ((Cv.world os).forCall (fun _ _ => 0) ⟨#[], #[.slice none 0 0], []⟩).memory Tryz.f5.params.toList Rows.checkPrintsSpec.vars false #[.slice none 0 0].toList 8 = some ([.nil], [], places) :=
  ⟨[], by kernel_rfl⟩

set_option maxRecDepth 100000 in
theorem lifted (os : Os) (started : os.Started) (H : Type) (enc : TypeId × Value → H) (F : Stop.Interp) :
    ReturnsInHanded {} Tryz.checked os 5 .any ((Rows.OpenSpec.upto Rows.checkPrintsSpec).preRow enc Tryz.prog Tryz.f5 Rows.checkPrintsUptoRow.domain false Rows.checkPrintsUptoRow.laid) (((Rows.OpenSpec.upto Rows.checkPrintsSpec).at F).post enc Tryz.prog Tryz.f5 false true false false) := by
  obtain ⟨places, hx⟩ := reads os enc
  refine returnsInHanded_of_row (C := Tryz.checked) (s := Rows.OpenSpec.upto Rows.checkPrintsSpec) Cv.own started (by kernel_rfl) Tryz.func5
    (witness_row_atRef (enc := enc) (C := Tryz.checked) false (Cv.world os) #[.slice none 0 0] (World.laidAll_os _ _ _) (by kernel_rfl) (by kernel_rfl) (by kernel_rfl)
      (OpenSpec.preRow_of_cond 8 hx (by kernel_rfl) (fun k hk => by cases hk; kernel_rfl) (by kernel_rfl) (Cv.world_met os _))) ?_
  intro W base args ds gs before hval hW _ hcond _ hL hS _
  exact contract H enc W base args ds gs before hval hW (hcond _ rfl) (by rw [MakeChecks.laidMetH_plain _ _ _ (by kernel_rfl)] at hL; exact hL)

theorem saidUpto : Rows.CheckPrintsUptoSaid :=
  OpenClaim.holds_of_cond 5 Tryz.f5 rfl rfl rfl rfl rfl rfl rfl ⟨rfl, rfl, rfl, rfl, rfl⟩ rfl rfl rfl rfl rfl (by kernel_rfl) Tryz.func5 (by kernel_rfl)
    (of_decide_eq_true (by kernel_rfl)) (by unfold Func.isWrapper; first | (rw [if_pos (by decide +kernel)]; kernel_rfl) | (rw [if_neg (by decide +kernel)]; exact ⟨rfl, rfl⟩))
    (fun os started H enc _ F => by rw [OpenClaim.pre_eq_preRow]; exact lifted os started H enc F)

/-- No parameter wants a stand-in; the program's own looks are on. -/
theorem plain (f : FuncId) (fn : Func) (hf : Tryz.pinned.checked.prog.funcNamed "bole/bolelaw19.CheckPrints" = some f) (hfn : Tryz.pinned.checked.prog.funcs[f]? = some fn) :
    true = Tryz.pinned.checked.prog.looks [] ∧ ∀ (j : Nat) t, fn.params[j]? = some t → Tryz.pinned.checked.prog.wantsStandIn t = false := by
  obtain rfl : f = 5 := Option.some.inj ((show Tryz.prog.funcNamed "bole/bolelaw19.CheckPrints" = some 5 by kernel_rfl).symm.trans hf) |>.symm
  obtain rfl : fn = Tryz.f5 := (Option.some.inj (Tryz.func5.symm.trans hfn)).symm
  refine ⟨by kernel_rfl, fun j t ht => ?_⟩
  rw [Tryz.params5] at ht
  have hm : t = 32 := by simpa using Array.mem_of_getElem? ht
  subst hm
  exact (show Tryz.prog.wantsStandIn 32 = false by kernel_rfl)

/-- The card of the second form. -/
theorem cardUpto : Rows.CheckPrintsUptoCardSaid :=
  Claim7.holds_tied_plain_at .later [] _ _ _ _ saidUpto (fun _ h => by cases h) (by kernel_rfl) (fun _ h => by cases h) checkPrintsUpto_row_tie rfl ⟨rfl, rfl⟩ (by kernel_rfl) rfl plain (by kernel_rfl)
#print axioms cardUpto
end Go.Proofs.YtegplehbcdeeoaaGreatDoor.checkPrints
