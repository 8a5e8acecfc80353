/- The walk of the document's Tell of names. -/
import Derived.Test.YtjloonijnbfhhaaDoorEBytesRow
import Derived.Test.YtjloonijnbfhhaaDoorERefTell
import Derived.Lib.SmallJoins
namespace Go.Proofs.YtjloonijnbfhhaaDoor
open Go.RowKit Go.Maps Go.WideShapes

namespace Br
open Qw
variable {P : Program} {S T D : TypeId}
theorem wpList_text_row (B : BytesT P S T) {u : TypeDesc} (hd : P.underlying D = some u) (w : World) {ops : Array Oper} {rest : List Oper} {o : Oper} {a : Act} {Q : Exit → Act → World → Prop} (hgd : o.guard = none) (s : Operand)
    (ho : o.op = Op.convert D S s) (t : ByteArray) (hs : a.eval s = .string t) (hmax : t.size ≤ 140737488355328)
    (h : ∀ cap w', BRow w.heap.size w' w.heap.size cap (bs t) → Below w.heap.size w w' → wpList P ops Q rest (a.put o.dst (.slice (some ⟨w.heap.size, 0, none⟩) t.size cap)) w') : wpList P ops Q (o :: rest) a w := by
  refine wpList_plain hgd fun K hK => ?_
  have hrun := Lib.run_convert_string_bytes (P := P) w D S T t hd B.und B.elem
  have hge := grownCap_ge w t.size 0 T
  have hcm := grownCap_le_maxLen w t.size 0 T (by unfold maxLen; omega)
  have hsz : (Lib.bytesCells w T t).size = grownCap w t.size 0 T := by
    unfold Lib.bytesCells
    rw [Array.size_append, Array.size_map, Array.size_replicate]
    show t.size + _ = _
    omega
  have hblk := Lib.bytesWorld_at_new w T t
  have hR : BRow w.heap.size (Lib.bytesWorld w T t) w.heap.size (grownCap w t.size 0 T) (bs t) := by
    refine ⟨Nat.le_refl _, by rw [Lib.bytesWorld_size]; omega, by rw [bs_len]; exact hge, hcm, ?_, ?_⟩
    · intro j v hj
      have hjl : j < t.size := by have := (List.getElem?_eq_some_iff.1 hj).1; rw [← bs_len t]; simpa [bytesV] using this
      rw [Lib.bytesWorld_cell w T t j hjl, ← hj]
      have h2 : t.data[j]? = some t.data[j] := Array.getElem?_eq_getElem hjl
      simp [bytesV, bs, List.getD, h2]
    · intro j hj
      rw [← hsz] at hj
      refine ⟨?_, ?_⟩
      · simp only [World.cell?, hblk]
        rw [show (if (none : Option Nat).isSome = true then none else (Lib.bytesCells w T t)[j]?) = (Lib.bytesCells w T t)[j]? from rfl, Array.getElem?_eq_getElem hj]
        rfl
      · simp [World.frozen?, hblk]; omega
  unfold Oper.wp
  simp [execOp, ho, hs, hrun, Result.andThen]
  exact hK _ _ (h _ _ hR (Go.Joins.below_bytesWorld _ w T t (Nat.le_refl _)))
theorem wpList_row_text (B : BytesT P S T) (hd : P.underlying D = some .string) (w : World) {ops : Array Oper} {rest : List Oper} {o : Oper} {a : Act} {Q : Exit → Act → World → Prop} (hgd : o.guard = none) (s : Operand)
    (ho : o.op = Op.convert S D s) {base g cap : Nat} {l : List UInt8} (hs : a.eval s = .slice (some ⟨g, 0, none⟩) l.length cap) (hR : BRow base w g cap l)
    (h : wpList P ops Q rest (a.put o.dst (.string (mk l))) w) : wpList P ops Q (o :: rest) a w := by
  refine wpList_plain hgd fun K hK => ?_
  have hrun : (convert S D (.slice (some ⟨g, 0, none⟩) l.length cap)).run P w = .ok (.string (mk l)) w := by
    refine run_convert_bytes_back w S D T ⟨g, 0, none⟩ cap l B.und B.elem hd ?_
    intro j hj
    rw [Addr.add_lit, Nat.zero_add]
    exact hR.cells j _ (by simp [bytesV, hj])
  unfold Oper.wp
  simp [execOp, ho, hs, hrun, Result.andThen]
  exact hK _ _ h
theorem step_append_row (B : BytesT P S T) (tx : TypeId) (w : World) {ops : Array Oper} {o : Oper} {a : Act} {K : Act → World → Prop} {Q : Exit → Act → World → Prop} {E : Prop} (hgd : o.guard = none) (sl x : Operand)
    (ho : o.op = .call { callee := .builtin .append, args := #[sl, x], argTypes := #[S, tx] }) {base g cap : Nat} {l : List UInt8} (k : List UInt8) (hs : a.eval sl = .slice (some ⟨g, 0, none⟩) l.length cap) (hR : BRow base w g cap l) (hbase : base ≤ w.heap.size)
    (xv : Value) (hx : a.eval x = xv) (hsrc : Src P 1 tx xv k.length (bytesV k) w) (hlen : l.length + k.length ≤ 140737488355328)
    (h : ∀ g' cap' w', BRow base w' g' cap' (l ++ k) → w.grownBy w' (some g) → K (a.put o.dst (.slice (some ⟨g', 0, none⟩) (l ++ k).length cap')) w') :
    if Region.wanted o (yielded ops a.tmps) = true then Oper.wp P o a w K Q else E := by
  have hw : Region.wanted o (yielded ops a.tmps) = true := by simp [Region.wanted, hgd]
  rw [if_pos hw]
  obtain ⟨g', cap', w', hr, h1, h2⟩ := run_append (P := P) B tx o.type hR hbase xv hsrc hlen
  unfold Oper.wp execOp
  simp only [ho, resolve, invoke, builtin, Sem.run_bind, Sem.run_pure, Result.andThen_ok, List.map_toArray, List.map_cons, List.map_nil, hs, hx, hr]
  exact h _ _ _ h1 h2
theorem BRow.mono {base base' : Nat} {w : World} {g cap : Nat} {l : List UInt8} (h : BRow base w g cap l) (hb : base' ≤ base) : BRow base' w g cap l := ⟨Nat.le_trans hb h.new, h.lt, h.le, h.max, h.cells, h.there⟩
theorem src_text {tx : TypeId} (hk : P.underlying tx = some .string) (l : List UInt8) (w : World) : Src P 1 tx (.string (mk l)) l.length (bytesV l) w := Src.ofString w hk (mk l)
end Br

namespace Er
open Qw Rw Tw Br
set_option maxRecDepth 100000 in
set_option maxHeartbeats 4000000 in
theorem tell_l (c : Cl.PCall) (a : PAns) (ao : Option Addr) (ca : Nat) (nm : List (List UInt8)) (w : World) (n : Nat) (h1 : 1 ≤ n) (hn : n < 16) (cmd : List UInt8) (ps : List Nat) (hcmd : Cl.rowsT[n - 1]? = some (cmd, ps)) (ht : told[n - 1]? = some 108) (hN : NamesAt w ao nm) (hF : NFits nm) : Calls Tryd.prog 18 #[.agg #[.int .i64 n, .string (mk c.path), .string (mk c.other), .int .i64 c.off, .int .i64 c.size, .string (mk c.data)], .agg #[.int .i64 0, .int .i64 a.N, .string (mk a.data), .int .i64 a.i, .int .i64 a.k, .int .i64 a.l, .int .i64 a.z, .int .i64 a.b, .slice ao nm.length ca, .int .i64 a.f1, .int .i64 a.f2, .int .i64 a.f3, .int .i64 a.f4]] w fun e w' => e = .returned (.string (mk (namesT nm))) ∧ Below w.heap.size w w' := by
  have HF := Lib.hid hF
  have HN := Lib.hid hN
  have hl := hF.1
  have hr0 : Cl.inRange (nm.length : Int) := ⟨by omega, by omega⟩
  have hl0 : (mk (Lib.itoa (nm.length : Int))).size ≤ 100 := itoa_len hr0
  have hl1 : (mk (Lib.itoa (nm.length : Int))).size = (namesK nm 0).length := by simp [namesK, mk_size]
  have hl2 : bs (mk (Lib.itoa (nm.length : Int))) = namesK nm 0 := by simp [namesK, bs_mk]
  have HL2 := Lib.hid hl2
  have HL1 := Lib.hid hl1
  clear hF hN hl1 hl2
  go_enter Tryd.func18, Tryd.ntmps18
  go_wp2_with (first
    | (go_at_call 35; refine (row_told n h1 hn cmd ps 108 hcmd ht _).mono ?_; rintro e w1 ⟨rfl, hb⟩; have hs1 := hb.size; simp only [World.size_alloc] at hs1; have hlt1 : w.heap.size + 1 < w1.heap.size := (by omega); have hbw := below_over (below_over hb); have hA : w1.heap[w.heap.size + 1]? = some (.cells #[.int .i64 0, .int .i64 a.N, .string (mk a.data), .int .i64 a.i, .int .i64 a.k, .int .i64 a.l, .int .i64 a.z, .int .i64 a.b, .slice ao nm.length ca, .int .i64 a.f1, .int .i64 a.f2, .int .i64 a.f3, .int .i64 a.f4] 31 (0, 0)) := (hb.block _ (by simp)).trans (heap_second _ _ _); have a8 : w1.cell? ⟨w.heap.size + 1, 8, none⟩ = some (.slice ao nm.length ca) := (by simp [World.cell?, hA]); have HA := Lib.hid hA; clear hA)
    | (go_at_call 37; refine (decimal_any _ _ hr0).mono ?_; rintro e w2 ⟨rfl, hb2⟩; have hs2 := hb2.size; rw [World.size_alloc] at hs2; have hbw2 := hbw.trans ((below_over hb2).mono hbw.size); have hA2 : w2.heap[w.heap.size + 1]? = _ := (hb2.block _ (by rw [World.size_alloc]; omega)).trans ((heap_alloc_old _ _ hlt1).trans HA.out))
    | (refine wpList_text_row bytesT Tryd.underlying9 _ rfl _ rfl _ rfl (by omega) ?_; intro cap w3 hR hb3; rw [HL2.out] at hR; rw [HL1.out]; have hA3 : w3.heap[w.heap.size + 1]? = _ := (hb3.block _ (by omega)).trans hA2; have hbw3 := hbw2.trans (hb3.mono hbw2.size); have hz3 := hb3.size))
  have hnx3 : Below w1.heap.size w1 w3 := (below_over hb2).trans (hb3.mono (by omega))
  have hR3 := hR.mono (show w1.heap.size ≤ w2.heap.size by omega)
  clear hA3 hbw3 hbw2 hA2 hb2 hb3 hb hR HA
  have hN1 := HN.out.below hbw (Nat.le_refl _)
  have HN1 := Lib.hid hN1
  clear hN1
  go_loopg [7, 8] nm.length (fun gg s7 s8 wx => ∃ k g cap : Nat, k + gg = nm.length ∧ s8 = .int .i64 k ∧ s7 = .slice (some ⟨g, 0, none⟩) (namesK nm k).length cap ∧ BRow w1.heap.size wx g cap (namesK nm k) ∧ Below w1.heap.size w1 wx)
  case atStart => exact ⟨0, _, cap, by omega, rfl, rfl, hR3, hnx3⟩
  case round =>
    obtain ⟨k, g, cap', hkg, rfl, rfl, hRk, hnx⟩ := hrel
    have hsz := hnx.size
    have hgn := hRk.new
    have b8 : wr.cell? ⟨w.heap.size + 1, 8, none⟩ = some (.slice ao nm.length ca) := (hnx.cell (p := ⟨w.heap.size + 1, 8, none⟩) hlt1).trans a8
    have hbl : w.heap.size + 1 < wr.heap.size := by omega
    clear hR3 hnx3
    by_cases hlt : k < nm.length
    · have hlti : (k : Int) < (nm.length : Int) := by omega
      obtain ⟨x, hx⟩ : ∃ x, nm[k]? = some x := ⟨_, List.getElem?_eq_getElem hlt⟩
      obtain ⟨gn, o, hao, hg, hcx⟩ := HN.out k x hx
      subst hao
      have hgw : gn < w1.heap.size := by omega
      have hgr : gn < wr.heap.size := by omega
      have v0 : wr.cell? ⟨gn, o + k, none⟩ = some (.string (mk x)) := (hnx.cell (p := ⟨gn, o + k, none⟩) hgw).trans ((hbw.cell (p := ⟨gn, o + k, none⟩) hg).trans hcx)
      have hxs : (mk x).size ≤ 1000000000000 := by rw [mk_size]; have := HF.out.2 x (List.mem_of_getElem? hx); omega
      have hq : (Cl.quote x).length ≤ 8000002 := by have := HF.out.2 x (List.mem_of_getElem? hx); have := Cl.quote_len x; omega
      have hK : (namesK nm k).length ≤ 20000000000000 := by have := namesK_len nm k HF.out; omega
      have HS : Hid (namesK nm (k + 1) = namesK nm k ++ [10] ++ Cl.quote x) := by
        have h := namesK_succ hx
        rw [List.append_assoc]
        exact h
      clear hx hcx
      go_wp2_with fail
      go_region_held3 (fun w' => w'.cell? ⟨w.heap.size + 1, 8, none⟩ = some (.slice (some ⟨gn, o, none⟩) nm.length ca) ∧ w'.cell? ⟨gn, o + k, none⟩ = some (.string (mk x))) (go_keep)
        ((first
          | (refine step_append_row bytesT 45 _ rfl _ _ rfl [10] rfl (by exact hRk.below (by repeat (first | exact Below.refl _ _ | refine Below.drew ?_ | refine Below.alloc ?_ (by first | (simp; done) | (simp; omega) | omega) _))) (by first | exact hsz | (simp; omega)) _ rfl (Src.ofSlice _ Tryd.underlying45 ⟨wr.heap.size, 0, none⟩ 1 1 (bytesV [10]) (by rfl) (by exact World.news_of_block (heap_alloc_new _ _)) (bytesV_one [10])) (by simp only [List.length_cons, List.length_nil]; omega) ?_; intro g1 cap1 w4 hR1 hg1; generalize hL1 : namesK nm k ++ [10] = L1 at *; have hL1b : L1.length ≤ 20000000000001 := (by rw [← hL1, List.length_append]; simp only [List.length_cons, List.length_nil]; omega); have HL1 := Lib.hid hL1; clear hL1; have y1 : Below w1.heap.size w1 w4 := Below.grown (by repeat (first | exact hnx | exact Below.refl _ _ | refine Below.drew ?_ | refine Below.alloc ?_ (by first | (simp; done) | (simp; omega) | omega) _)) hg1 (by first | exact hsz | (simp; omega)) (fun j hj => by cases hj; exact hgn); have c8 := (y1.cell (p := ⟨w.heap.size + 1, 8, none⟩) hlt1).trans a8; have c0 := (y1.cell (p := ⟨gn, o + k, none⟩) hgw).trans ((hnx.cell (p := ⟨gn, o + k, none⟩) hgw).symm.trans v0))
          | (go_at_call 12; refine (quote_any (mk x) _ hxs).mono ?_; rintro e w5 ⟨rfl, hb5⟩; have hR2 := hR1.below hb5; have y2 := y1.trans (hb5.mono y1.size); have d8 := (y2.cell (p := ⟨w.heap.size + 1, 8, none⟩) hlt1).trans a8; have d0 := (y2.cell (p := ⟨gn, o + k, none⟩) hgw).trans ((hnx.cell (p := ⟨gn, o + k, none⟩) hgw).symm.trans v0))
          | (refine step_append_row bytesT 9 _ rfl _ _ rfl (Cl.quote x) rfl (by exact hR2) y2.size _ rfl (by exact src_text Tryd.underlying9 _ _) (by omega) ?_; intro g2 cap2 w6 hR4 hg2; generalize hL2 : L1 ++ Cl.quote x = L2 at *; have HL3 := Lib.hid hL2; clear hL2; have y3 : Below w1.heap.size w1 w6 := Below.grown y2 hg2 y2.size (fun j hj => by cases hj; exact hR2.new); have e8 := (y3.cell (p := ⟨w.heap.size + 1, 8, none⟩) hlt1).trans a8; have e0 := (y3.cell (p := ⟨gn, o + k, none⟩) hgw).trans ((hnx.cell (p := ⟨gn, o + k, none⟩) hgw).symm.trans v0))))
      all_goals
        go_wp2
        go_roundg (nm.length - (k + 1))
        case measure => omega
        case rel =>
          have hS2 : namesK nm (k + 1) = L2 := HS.out
          exact ⟨k + 1, g2, cap2, by omega, by go_num, by rw [hS2], by rw [hS2]; exact hR4, y3⟩
    · obtain rfl : k = nm.length := by omega
      go_wp2_with (refine wpList_row_text bytesT Tryd.underlying9 _ rfl _ rfl rfl hRk ?_)
      go_ret
      rw [namesK_all]
      exact ⟨rfl, hbw.trans (hnx.mono hbw.size)⟩
end Er
end Go.Proofs.YtjloonijnbfhhaaDoor
