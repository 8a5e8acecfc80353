/- A file's bytes are read. -/
import Derived.Test.YtlnnbjgfpiefdaaGreatRamB21
namespace Go.Proofs.YtlnnbjgfpiefdaaGreat
open Go.RowKit Go.Maps Go.Shelf

namespace Fs
theorem Bld.below {B b : Nat} {l : List UInt8} {w w' : World} (h : Bld B b l w) (hb : Below w.heap.size w w') : Bld B b l w' := by
  obtain ⟨p, v, h1, h2, h3, h4⟩ := h
  exact ⟨p, v, h1.same (hb.block _ h1.lt), h2, row_same h3 fun g e => hb.block g (h3.lt g e).2, h4⟩
theorem Bld.is {B b : Nat} {l : List UInt8} {w : World} (h : Bld B b l w) (hB : B ≤ b) : Lib.IsBuilder 128 5 B b (Lib.byteCells l) w := by
  obtain ⟨p, v, h1, h2, h3, h4⟩ := h
  rcases h2 with rfl | rfl
  · exact .inl ⟨hB, v, h1, by rw [Lib.byteCells_length]; exact h3, h4⟩
  · exact .inr ⟨hB, v, h1, by rw [Lib.byteCells_length]; exact h3, h4⟩
theorem slice_piece2 (W : World) (B F m : Nat) (hF : F < 512) (hm : F + m ≤ 512) : (Instr.sliceAt 68 (.pointer (some ⟨B, 0, none⟩)) (some (.int .i64 (F : Int))) (some (.int .i64 ((F + m : Nat) : Int))) none).run Tryz.prog W = .ok (.slice (some ⟨B, F, none⟩) m (512 - F)) W := by
  rw [run_sliceAt_array_lh W _ _ arr_piece .i64 .i64 (F : Int) ((F + m : Nat) : Int) (by omega) (by omega) (by rw [len_piece]; omega), elem_piece, len_piece]
  simp only [Result.andThen, slicedAt]
  rw [if_neg (by omega)]
  have : (⟨B, 0, none⟩ : Addr).add ((F : Int).toNat * 1) = ⟨B, F, none⟩ := by unfold Addr.add; split <;> simp_all
  rw [this]
  simp only [Int.toNat_natCast]
  congr 2
  omega
theorem add_cell (B F t : Nat) : (⟨B, F, none⟩ : Addr).add t = ⟨B, F + t, none⟩ := by unfold Addr.add; split <;> simp_all
/-- A file's bytes from one on. -/
def bytesAt (x : Nd) (o j : Nat) : Tx := (List.range j).map fun t => byteAt x (o + t)
theorem bytesAt_add (x : Nd) (o j m : Nat) (hx : Whole x.pieces) (hm : (o + j) % 512 + m ≤ 512) : bytesAt x o (j + m) = bytesAt x o j ++ (((get x.pieces (((o + j) / 512 : Nat) : Int)).getD zeroPc).drop ((o + j) % 512)).take m := by
  unfold bytesAt
  rw [List.range_add, List.map_append]
  congr 1
  have hl := hx.get (((o + j) / 512 : Nat) : Int)
  refine List.ext_getElem (by rw [List.length_map, List.length_map, List.length_range, List.length_take, List.length_drop, hl]; omega) fun t h1 h2 => ?_
  simp only [List.length_map, List.length_range] at h1
  rw [List.getElem_map, List.getElem_map, List.getElem_range, List.getElem_take, List.getElem_drop]
  unfold byteAt pieceAt
  have e1 : (o + (j + t)) / 512 = (o + j) / 512 := by omega
  have e2 : (o + (j + t)) % 512 = (o + j) % 512 + t := by omega
  rw [e1, e2, List.getD_eq_getElem?_getD, List.getElem?_eq_getElem (by rw [hl]; omega)]
  rfl
section
variable {W : World} {L : Lay} {fb : Nat} {n : Int} {nb : Nat} {uv : Value} {vals : List Value}
set_option maxRecDepth 100000 in
set_option maxHeartbeats 4000000 in
theorem read_st (h : Sim W L fb n nb uv vals) (hw : WF L nb) {i : Int} {b : Nat} (ha : Adr L nb i b) {x : Nd} (hx : get (stOf L nb) i = some x) (hk : x.kind = 1) (hx2 : Whole x.pieces) (hx3 : x.size ≤ 8459264) (off size : Int) (h0 : 0 ≤ off) (h2 : 0 ≤ size) (h3 : size ≤ 16384) :
    Calls Tryz.prog 41 #[.pointer (some ⟨b, 0, none⟩), .int .i64 off, .int .i64 size] W fun e W' => e = .returned (.string (mk (readN x off size))) ∧ Below W.heap.size W W' := by
  obtain ⟨hd, hb⟩ := hw.at ha
  have hxe : ndOf L hd = x := by have := ha.st; rw [hx, ndAtB_of hb] at this; exact (Option.some.inj this).symm
  have hkd : hd.kind = 1 := by have := congrArg Nd.kind hxe; exact this.trans hk
  obtain ⟨q, hq⟩ := hw.file _ _ hb hkd
  obtain ⟨m, hm⟩ := hw.pm _ _ _ hb hq
  have hml : x.pieces = m := by rw [← hxe]; unfold ndOf piecesAt; dsimp only; rw [hq]; dsimp only; rw [hm]
  obtain ⟨_, _, c2, c3, _⟩ := node_cells (h.is b _ hb).2
  rw [hq] at c3
  have hcz : hd.size = x.size := congrArg Nd.size hxe
  rw [hcz] at c2
  have hbl := (h.is b _ hb).1
  have hql := (h.is q _ hm).1
  have hMA : MapAt Tryz.prog 3 evPc W q m := (h.is q _ hm).2
  unfold readN
  by_cases c1 : x.size ≤ off
  · rw [if_pos c1]
    go_enter Tryz.func41, Tryz.ntmps41
    go_wp2_with fail
    go_ret
    exact ⟨rfl, Below.refl _ _⟩
  · rw [if_neg c1]
    obtain ⟨sz, hsz⟩ : ∃ sz : Nat, (sz : Int) = min size (x.size - off) := ⟨(min size (x.size - off)).toNat, by omega⟩
    obtain ⟨o, ho⟩ : ∃ o : Nat, (o : Int) = off := ⟨off.toNat, by omega⟩
    have hres : (List.range (min size (x.size - off)).toNat).map (fun j => byteAt x (off.toNat + j)) = bytesAt x o sz := by unfold bytesAt; rw [← hsz, ← ho]; rfl
    rw [hres]
    subst ho
    have hw1 : IntKind.i64.wrap (x.size - (o : Int)) = x.size - (o : Int) := IntWalk.i64_in _ (by omega)
    have hszr : min size (x.size - (o : Int)) = (sz : Int) := hsz.symm
    have hszb : o + sz ≤ 8459264 ∧ sz ≤ 16384 := by omega
    have Hs := Lib.hid (And.intro hxe (And.intro hml (And.intro hsz hres)))
    clear hxe hml hres hsz
    go_enter Tryz.func41, Tryz.ntmps41
    go_wp2_with fail
    have hBld0 : Bld W.heap.size W.heap.size (bytesAt x o 0) (W.alloc (.cells #[.pointer none, .slice none 0 0] 128)) := ⟨_, _, Blk.new _ _ _, .inl rfl, World.ownsRow_nil _ _ _ _, by intro e; cases e⟩
    go_loopw [8] (fun v wr => ∃ j : Nat, v = .int .i64 ((o : Int) + (j : Int)) ∧ j ≤ sz ∧ Bld W.heap.size W.heap.size (bytesAt x o j) wr ∧ Below W.heap.size W wr) (fun v _ => ((o : Int) + (sz : Int) - intOf v).toNat)
    case atStart => exact ⟨0, by simp, by omega, hBld0, (Below.refl _ _).alloc (Nat.le_refl _) _⟩
    case round =>
      obtain ⟨j, rfl, hj, hBl, hBw⟩ := hrel
      have e2 : wr.cell? ⟨b, 2, none⟩ = some (.int .i64 x.size) := (hBw.cell hbl).trans c2
      have e3 : wr.cell? ⟨b, 3, none⟩ = some (.map (some q)) := (hBw.cell hbl).trans c3
      by_cases hlt : j < sz
      · have hlti : (o : Int) + (j : Int) < (o : Int) + (sz : Int) := by omega
        obtain ⟨was, hwas⟩ : ∃ y, y = (get m (((o + j) / 512 : Nat) : Int)).getD zeroPc := ⟨_, rfl⟩
        have hWm : Whole m := by have hh := Hs; unfold Hid at hh; rw [← hh.2.1]; exact hx2
        have hwl0 : was.length = 512 := by rw [hwas]; exact hWm.get _
        obtain ⟨ws, hws⟩ : ∃ y, y = (was.map fun b => Value.int .u8 b.toNat) := ⟨_, rfl⟩
        have hwsl : ws.length = 512 := by rw [hws, List.length_map]; exact hwl0
        have hwone : ∀ v ∈ ws, v.oneCell' = true := by rw [hws]; intro v hv; obtain ⟨y, _, rfl⟩ := List.mem_map.1 hv; rfl
        have hJ : ((o : Int) + (j : Int)) / 512 = (((o + j) / 512 : Nat) : Int) := by omega
        have hF : ((o : Int) + (j : Int)) % 512 = (((o + j) % 512 : Nat) : Int) := by omega
        obtain ⟨mn, hmn⟩ : ∃ y : Nat, y = min (512 - (o + j) % 512) (sz - j) := ⟨_, rfl⟩
        have hmn1 : min (512 - (((o : Int) + (j : Int)) % 512)) ((o : Int) + (sz : Int) - ((o : Int) + (j : Int))) = (mn : Int) := by omega
        have hmn2 : (o + j) % 512 + mn ≤ 512 := by omega
        have hMAr : MapAt Tryz.prog 3 evPc wr q m := hMA.same (hBw.block _ hql)
        have hlook : (Instr.lookup 62 (.map (some q)) (.int .i64 (((o : Int) + (j : Int)) / 512)) false).run Tryz.prog wr = .ok (.agg ws.toArray) wr := by
          rw [hJ]
          have := hMAr.look kI Tryz.underlying62 (zPc _) (keyI (i := (((o + j) / 512 : Nat) : Int)) (wfI (by omega) (by omega)))
          rw [this, hws, hwas]
          cases get m (((o + j) / 512 : Nat) : Int) <;> rfl
        have hz : ∀ w : World, (zeroValue 68).run Tryz.prog w = .ok (.agg (zeroPc.map fun b => Value.int .u8 b.toNat).toArray) w := zPc
        have hzl : ((zeroPc.map fun b => Value.int .u8 b.toNat).toArray).size = 512 := by simp [zeroPc]
        generalize (zeroPc.map fun b => Value.int .u8 b.toNat).toArray = zc at hz hzl
        have hst := run_storeCells_new (P := Tryz.prog) wr 68 zc ws.toArray (by rw [info_piece]; simp [hwsl]) (by rw [hzl]; simp [hwsl]) (by simpa using hwone)
        have hsp := slice_piece2 (wr.alloc (.cells ws.toArray 68)) wr.heap.size ((o + j) % 512) mn (Nat.mod_lt _ (by omega)) hmn2
        rw [Int.natCast_add, ← hF] at hsp
        have HW := write_bytes (hBl.below ((Below.refl wr.heap.size wr).alloc (Nat.le_refl _) (.cells ws.toArray 68))) (Nat.le_refl _) ⟨wr.heap.size, (o + j) % 512, none⟩ mn (512 - (o + j) % 512) ((was.drop ((o + j) % 512)).take mn) (by rw [List.length_take, List.length_drop]; omega) (fun t u hu => by
            rw [add_cell, (Blk.new wr ws.toArray 68).cell]
            rw [show Lib.byteCells ((was.drop ((o + j) % 512)).take mn) = (ws.drop ((o + j) % 512)).take mn by rw [hws]; unfold Lib.byteCells; rw [List.map_take, List.map_drop]] at hu
            rw [List.getElem?_take] at hu
            split at hu
            · rw [List.getElem?_drop] at hu
              rw [List.getElem?_toArray]; exact hu
            · cases hu) (fun e => by obtain ⟨_, _, hk1, _⟩ := hBl; have := hk1.lt; have e' : wr.heap.size = W.heap.size := e; omega) (by unfold bytesAt; rw [List.length_map, List.length_range]; omega)
        have Hx := Lib.hid (And.intro hwas (And.intro hws (And.intro hwl0 (And.intro hwone (And.intro hJ (And.intro hF (And.intro hmn hWm)))))))
        clear hwas hws hwl0 hwone hJ hF hmn hWm hMAr
        go_wp2_with (go_at_call 70; refine HW.mono ?_; rintro e w5 ⟨rfl, hB5, hb5⟩)
        obtain ⟨hwas, hws, hwl0, hwone, hJ, hF, hmn, hWm⟩ := Hx
        refine ⟨⟨j + mn, by congr 1; omega, by omega, ?_, hBw.trans ⟨hb5.os, hb5.tape, hb5.output, by have := hb5.size; simp at this; omega, fun k hk => (hb5.block k hk).trans (((Below.refl wr.heap.size wr).alloc (Nat.le_refl _) _).block k (by have := hBw.size; omega))⟩⟩, by simp only [intOf]; omega⟩
        have hml : x.pieces = m := by have hh := Hs; unfold Hid at hh; exact hh.2.1
        rw [bytesAt_add x o j mn hx2 hmn2, hml, ← hwas]
        exact hB5
      · have hjs : j = sz := by omega
        subst hjs
        have HSt := Tryz.Builder_String_any W.heap.size W.heap.size (bytesAt x o j) wr (hBl.is (Nat.le_refl _)) hBw.size
        have hlti : ¬ ((o : Int) + (j : Int) < (o : Int) + (j : Int)) := by omega
        go_wp2_with (go_at_call 71; refine HSt.mono ?_; rintro e w5 ⟨rfl, hb5⟩)
        go_ret
        exact ⟨rfl, hBw.trans hb5⟩
end
end Fs
end Go.Proofs.YtlnnbjgfpiefdaaGreat
/- Calls by a path: read, written, cut. -/
namespace Go.Proofs.YtlnnbjgfpiefdaaGreat
open Go.RowKit Go.Maps Go.Shelf

namespace Fs
/-- A call's value. -/
def callC (c : Call) : Array Value := #[.int .i64 c.kind, .string (mk c.path), .string (mk c.other), .int .i64 c.off, .int .i64 c.size, .string (mk c.data)]
/-- What a call's numbers and texts are bounded by. -/
structure CallOk (c : Call) : Prop where
  off1 : -9223372036854775808 ≤ c.off
  off2 : c.off ≤ 9223372036854775807
  path : c.path.length ≤ 140737488355328
  other : c.other.length ≤ 140737488355328
theorem fileP_ok {s : Tree} (hF : Fit s) {p : Tx} {i : Int} (h : fileP s p = .ok i) : 0 ≤ i ∧ i ≤ 1000000 ∧ ∃ x, get s i = some x := by
  unfold fileP at h
  split at h
  · cases h
  · rename_i q hq
    split at h
    · cases h
    · cases h
      obtain ⟨x, hx⟩ := toP_some hq hF.root
      obtain ⟨h1, h2⟩ := hF.ids _ x hx
      exact ⟨h1, h2, x, hx⟩
def writePathR (n : Int) (s : Tree) (c : Call) : Tree × Except Int Int := if c.off < 0 ∨ 16384 < c.data.length then (s, .error 1) else match fileP s c.path with
  | .error e => (s, .error e)
  | .ok i => writeR n s i c.off c.data
def cutPathR (n : Int) (s : Tree) (c : Call) : Tree × Except Int Int := if c.size < 0 then (s, .error 1) else match fileP s c.path with
  | .error e => (s, .error e)
  | .ok i => cutR n s i c.size
def readPathR (s : Tree) (c : Call) : Except Int Tx := if c.off < 0 ∨ c.size < 0 ∨ 16384 < c.size then .error 1 else match fileP s c.path with
  | .error e => .error e
  | .ok i => .ok (readN (ndAt s i) c.off c.size)
section
variable {W : World} {L : Lay} {fb : Nat} {n : Int} {nb : Nat}
theorem Errd.of {W2 W' : World} {r : Tree × Except Int Int} {e : Ending} (hb : Below W.heap.size W W2) (h : Errd fb n nb W2 L (.slice none 0 0) r e W') : Errd fb n nb W L (.slice none 0 0) r e W' := by
  obtain ⟨L', h1, h2, h3, h4, h5⟩ := h
  exact ⟨L', h1, h2, h3, (Step.of_below hb).trans h4, h5⟩
set_option maxRecDepth 100000 in
set_option maxHeartbeats 4000000 in
theorem writePath_st (h : Sim W L fb n nb (.slice none 0 0) []) (hw : WF L nb) (hF : Fit (stOf L nb)) (hD : Filed (stOf L nb)) (hn1 : 128 ≤ n) (hn2 : n ≤ 16384) (c : Call) (hc : CallOk c)
    (hto : ∀ i, fileP (stOf L nb) c.path = .ok i → ∀ s' u v, writeD (stOf L nb) i c.off c.data = .ok (s', u, v) → TOk s') :
    Calls Tryz.prog 27 #[.pointer (some ⟨fb, 0, none⟩), .agg (callC c)] W fun e W' => Errd fb n nb W L (.slice none 0 0) (writePathR n (stOf L nb) c) e W' := by
  obtain ⟨W1, hW1⟩ : ∃ x, x = W.alloc (.cells (callC c) 38) := ⟨_, rfl⟩
  have hb1 : Below W.heap.size W W1 := by rw [hW1]; exact (Below.refl _ _).alloc (Nat.le_refl _) _
  have bc : Blk W1 W.heap.size (callC c) 38 := by rw [hW1]; exact Blk.new _ _ _
  have S1 := h.below hb1
  have HT := file_st S1 hw hF c.path hc.path
  have q1 : W1.cell? ⟨W.heap.size, 1, none⟩ = some (.string (mk c.path)) := bc.cell 1
  have q3 : W1.cell? ⟨W.heap.size, 3, none⟩ = some (.int .i64 c.off) := bc.cell 3
  have q4 : W1.cell? ⟨W.heap.size, 4, none⟩ = some (.int .i64 c.size) := bc.cell 4
  have q5 : W1.cell? ⟨W.heap.size, 5, none⟩ = some (.string (mk c.data)) := bc.cell 5
  have hsz : (mk c.data).size = c.data.length := mk_size c.data
  unfold callC at *
  unfold writePathR
  by_cases c1 : c.off < 0 ∨ 16384 < c.data.length
  · rw [if_pos c1]
    unfold Errd
    by_cases c2 : c.off < 0
    · clear c1 hto HT
      go_enter Tryz.func27, Tryz.ntmps27
      go_wp2_with fail
      rw [← hW1]
      go_ret
      first | exact ⟨L, S1, hw, rfl, Step.of_below hb1, rfl, by decide⟩ | exact ⟨L, S1, hw, rfl, Step.of_below hb1, rfl⟩
    · have c3 : 16384 < c.data.length := c1.resolve_left c2
      have c3' : (16384 : Int) < (c.data.length : Int) := by omega
      clear c1 hto HT
      go_enter Tryz.func27, Tryz.ntmps27
      go_wp2_with fail
      rw [← hW1]
      go_ret
      first | exact ⟨L, S1, hw, rfl, Step.of_below hb1, rfl, by decide⟩ | exact ⟨L, S1, hw, rfl, Step.of_below hb1, rfl⟩
  rw [if_neg c1]
  have c2 : ¬ c.off < 0 := fun e => c1 (.inl e)
  have c3 : ¬ (16384 : Int) < (c.data.length : Int) := fun e => c1 (.inr (by omega))
  have c4 : c.data.length ≤ 16384 := by omega
  clear c1
  cases hp : fileP (stOf L nb) c.path with
  | error z =>
    rw [hp] at HT
    unfold Errd
    dsimp only at HT ⊢
    clear hto hp
    go_enter Tryz.func27, Tryz.ntmps27
    go_wp2_with fail
    rw [← hW1]
    clear hW1
    refine HT.mono ?_
    rintro e w2 ⟨hb2, rfl, hzn⟩
    have hzb := (bne_iff_ne.2 hzn)
    go_wp2_with fail
    go_ret
    exact ⟨L, S1.below hb2, hw, rfl, Step.of_below (Below.after hb1 hb2), rfl, hzn⟩
  | ok i =>
    have hto' := hto i hp
    obtain ⟨i1, i2, _⟩ := fileP_ok hF hp
    rw [hp] at HT
    dsimp only at HT ⊢
    clear hto hp
    have HWA : ∀ w2, Below W1.heap.size W1 w2 → _ := fun w2 hb2 => writeAt_st (S1.below hb2) hw hD hn1 hn2 i i1 i2 c.off hc.off2 c.data (fun _ _ => hto')
    obtain ⟨R, hR⟩ : ∃ R, R = writeR n (stOf L nb) i c.off c.data := ⟨_, rfl⟩
    rw [← hR] at HWA ⊢
    clear hR
    obtain ⟨s', r⟩ := R
    unfold Errd at HWA ⊢
    dsimp only at HWA ⊢
    have H2 := Lib.hid HWA
    clear HWA hto'
    have lq : W.heap.size < W1.heap.size := bc.lt
    clear bc
    cases r with
    | error z =>
      go_enter Tryz.func27, Tryz.ntmps27
      go_wp2_with fail
      rw [← hW1]
      clear hW1
      refine HT.mono ?_
      rintro e w2 ⟨hb2, rfl⟩
      have r3 := (hb2.cell (p := ⟨W.heap.size, 3, none⟩) lq).trans q3
      have r4 := (hb2.cell (p := ⟨W.heap.size, 4, none⟩) lq).trans q4
      have r5 := (hb2.cell (p := ⟨W.heap.size, 5, none⟩) lq).trans q5
      have H3 := H2 w2 hb2
      go_wp2_with (go_at_call 42; refine H3.mono ?_; rintro e w3 ⟨L3, S3, F3, st3, T3, rfl, hzn⟩)
      go_ret
      exact ⟨L3, S3, F3, st3, (Step.of_below (Below.after hb1 hb2)).trans T3, rfl, hzn⟩
    | ok v =>
      go_enter Tryz.func27, Tryz.ntmps27
      go_wp2_with fail
      rw [← hW1]
      clear hW1
      refine HT.mono ?_
      rintro e w2 ⟨hb2, rfl⟩
      have r3 := (hb2.cell (p := ⟨W.heap.size, 3, none⟩) lq).trans q3
      have r4 := (hb2.cell (p := ⟨W.heap.size, 4, none⟩) lq).trans q4
      have r5 := (hb2.cell (p := ⟨W.heap.size, 5, none⟩) lq).trans q5
      have H3 := H2 w2 hb2
      go_wp2_with (go_at_call 42; refine H3.mono ?_; rintro e w3 ⟨L3, S3, F3, st3, T3, rfl⟩)
      go_ret
      exact ⟨L3, S3, F3, st3, (Step.of_below (Below.after hb1 hb2)).trans T3, rfl⟩
set_option maxRecDepth 100000 in
set_option maxHeartbeats 4000000 in
theorem cutPath_st (h : Sim W L fb n nb (.slice none 0 0) []) (hw : WF L nb) (hF : Fit (stOf L nb)) (hD : Filed (stOf L nb)) (hn1 : 128 ≤ n) (hn2 : n ≤ 16384) (c : Call) (hc : CallOk c)
    (hto : ∀ i, fileP (stOf L nb) c.path = .ok i → ∀ s' u v, cutD (stOf L nb) i c.size = .ok (s', u, v) → TOk s') :
    Calls Tryz.prog 28 #[.pointer (some ⟨fb, 0, none⟩), .agg (callC c)] W fun e W' => Errd fb n nb W L (.slice none 0 0) (cutPathR n (stOf L nb) c) e W' := by
  obtain ⟨W1, hW1⟩ : ∃ x, x = W.alloc (.cells (callC c) 38) := ⟨_, rfl⟩
  have hb1 : Below W.heap.size W W1 := by rw [hW1]; exact (Below.refl _ _).alloc (Nat.le_refl _) _
  have bc : Blk W1 W.heap.size (callC c) 38 := by rw [hW1]; exact Blk.new _ _ _
  have S1 := h.below hb1
  have HT := file_st S1 hw hF c.path hc.path
  have q1 : W1.cell? ⟨W.heap.size, 1, none⟩ = some (.string (mk c.path)) := bc.cell 1
  have q3 : W1.cell? ⟨W.heap.size, 3, none⟩ = some (.int .i64 c.off) := bc.cell 3
  have q4 : W1.cell? ⟨W.heap.size, 4, none⟩ = some (.int .i64 c.size) := bc.cell 4
  have q5 : W1.cell? ⟨W.heap.size, 5, none⟩ = some (.string (mk c.data)) := bc.cell 5
  have hsz : (mk c.data).size = c.data.length := mk_size c.data
  unfold callC at *
  unfold cutPathR
  by_cases c2 : c.size < 0
  · rw [if_pos c2]
    unfold Errd
    clear hto HT
    go_enter Tryz.func28, Tryz.ntmps28
    go_wp2_with fail
    rw [← hW1]
    go_ret
    first | exact ⟨L, S1, hw, rfl, Step.of_below hb1, rfl, by decide⟩ | exact ⟨L, S1, hw, rfl, Step.of_below hb1, rfl⟩
  rw [if_neg c2]
  cases hp : fileP (stOf L nb) c.path with
  | error z =>
    rw [hp] at HT
    unfold Errd
    dsimp only at HT ⊢
    clear hto hp
    go_enter Tryz.func28, Tryz.ntmps28
    go_wp2_with fail
    rw [← hW1]
    clear hW1
    refine HT.mono ?_
    rintro e w2 ⟨hb2, rfl, hzn⟩
    have hzb := (bne_iff_ne.2 hzn)
    go_wp2_with fail
    go_ret
    exact ⟨L, S1.below hb2, hw, rfl, Step.of_below (Below.after hb1 hb2), rfl, hzn⟩
  | ok i =>
    have hto' := hto i hp
    obtain ⟨i1, i2, _⟩ := fileP_ok hF hp
    rw [hp] at HT
    dsimp only at HT ⊢
    clear hto hp
    have HWA : ∀ w2, Below W1.heap.size W1 w2 → _ := fun w2 hb2 => cutAt_st (S1.below hb2) hw hD hn1 hn2 i i1 i2 c.size hto'
    obtain ⟨R, hR⟩ : ∃ R, R = cutR n (stOf L nb) i c.size := ⟨_, rfl⟩
    rw [← hR] at HWA ⊢
    clear hR
    obtain ⟨s', r⟩ := R
    unfold Errd at HWA ⊢
    dsimp only at HWA ⊢
    have H2 := Lib.hid HWA
    clear HWA hto'
    have lq : W.heap.size < W1.heap.size := bc.lt
    clear bc
    cases r with
    | error z =>
      go_enter Tryz.func28, Tryz.ntmps28
      go_wp2_with fail
      rw [← hW1]
      clear hW1
      refine HT.mono ?_
      rintro e w2 ⟨hb2, rfl⟩
      have r3 := (hb2.cell (p := ⟨W.heap.size, 3, none⟩) lq).trans q3
      have r4 := (hb2.cell (p := ⟨W.heap.size, 4, none⟩) lq).trans q4
      have r5 := (hb2.cell (p := ⟨W.heap.size, 5, none⟩) lq).trans q5
      have H3 := H2 w2 hb2
      go_wp2_with (go_at_call 43; refine H3.mono ?_; rintro e w3 ⟨L3, S3, F3, st3, T3, rfl, hzn⟩)
      go_ret
      exact ⟨L3, S3, F3, st3, (Step.of_below (Below.after hb1 hb2)).trans T3, rfl, hzn⟩
    | ok v =>
      go_enter Tryz.func28, Tryz.ntmps28
      go_wp2_with fail
      rw [← hW1]
      clear hW1
      refine HT.mono ?_
      rintro e w2 ⟨hb2, rfl⟩
      have r3 := (hb2.cell (p := ⟨W.heap.size, 3, none⟩) lq).trans q3
      have r4 := (hb2.cell (p := ⟨W.heap.size, 4, none⟩) lq).trans q4
      have r5 := (hb2.cell (p := ⟨W.heap.size, 5, none⟩) lq).trans q5
      have H3 := H2 w2 hb2
      go_wp2_with (go_at_call 43; refine H3.mono ?_; rintro e w3 ⟨L3, S3, F3, st3, T3, rfl⟩)
      go_ret
      exact ⟨L3, S3, F3, st3, (Step.of_below (Below.after hb1 hb2)).trans T3, rfl⟩
end
end Fs
end Go.Proofs.YtlnnbjgfpiefdaaGreat
/- Read by a path. -/
namespace Go.Proofs.YtlnnbjgfpiefdaaGreat
open Go.RowKit Go.Maps Go.Shelf

namespace Fs
/-- What is followed to its end is no link. -/
theorem goes_follow {s : Tree} {behind : Bool} {parts : List Tx} {ch : List Int} {k : Nat} {p : Place} (h : goes s behind true parts ch k = .ok p) (ht : Trail s ch) (hk : k ≤ 8) (hp : ∀ c ∈ parts, c.length ≤ 27) : kindOf s p.inode ≠ 3 := by
  fun_induction goes s behind true parts ch k with
  | case1 ch k =>
    cases h
    have := ht.dirs _ ht.last
    dsimp only
    rw [this]; decide
  | case2 ch k r ih => exact ih h ht.init hk (fun c hc => hp c (List.mem_cons_of_mem _ hc))
  | case3 => cases h
  | case4 => cases h
  | case5 ch k c r hc m hg x hx hk2 ih =>
    have hm : kindOf s m = 2 := by unfold kindOf; rw [hx]; exact hk2.1
    exact ih h (ht.snoc hg hm) hk (fun c hc => hp c (List.mem_cons_of_mem _ hc))
  | case6 => cases h
  | case7 => cases h
  | case8 ch k c r hc m hg x hx hk2 hk3 h8 more top htx ih =>
    obtain ⟨h5, h6⟩ := textP_all htx
    exact ih (by simpa using h) (by split; exact .one ht.root; exact ht) (by omega) (fun c hc => by
      rcases List.mem_append.1 hc with e | e
      · exact (h5 c e).1
      · exact hp c (List.mem_cons_of_mem _ e))
  | case9 => cases h
  | case10 ch k c r hc m hg x hx hk2 hk3 hbr =>
    cases h
    dsimp only
    unfold kindOf
    rw [hx]
    intro e
    exact hk3 ⟨e, .inr (.inr rfl)⟩
theorem fileP_kind {s : Tree} (hF : Fit s) {p : Tx} {i : Int} (h : fileP s p = .ok i) : ∃ x, get s i = some x ∧ x.kind = 1 := by
  obtain ⟨_, _, x, hx⟩ := fileP_ok hF h
  refine ⟨x, hx, ?_⟩
  unfold fileP at h
  split at h
  · cases h
  · rename_i q hq
    split at h
    · cases h
    · rename_i h2
      cases h
      have h3 : kindOf s q.inode ≠ 3 := by
        unfold toP at hq
        split at hq
        · cases hq
        · rename_i parts hp
          exact goes_follow hq (.one hF.root) (by omega) (fun c hc => ((parse_all hp).1 c hc).1)
      have := hF.kinds _ x hx
      unfold kindOf at h2 h3
      rw [hx] at h2 h3
      simp only [Option.map_some, Option.getD_some] at h2 h3
      omega
section
variable {W : World} {L : Lay} {fb : Nat} {n : Int} {nb : Nat}
set_option maxRecDepth 100000 in
set_option maxHeartbeats 4000000 in
theorem readPath_st (h : Sim W L fb n nb (.slice none 0 0) []) (hw : WF L nb) (hF : Fit (stOf L nb)) (hD : Filed (stOf L nb)) (hz : ∀ i x, get (stOf L nb) i = some x → x.size ≤ 8459264) (c : Call) (hc : CallOk c) :
    Calls Tryz.prog 26 #[.pointer (some ⟨fb, 0, none⟩), .agg (callC c)] W fun e W' => Below W.heap.size W W' ∧ match readPathR (stOf L nb) c with
      | .error z => e = .returned (.tuple #[.string (mk []), .int .i64 z]) ∧ z ≠ 0
      | .ok t => e = .returned (.tuple #[.string (mk t), .int .i64 0]) := by
  obtain ⟨W1, hW1⟩ : ∃ x, x = W.alloc (.cells (callC c) 38) := ⟨_, rfl⟩
  have hb1 : Below W.heap.size W W1 := by rw [hW1]; exact (Below.refl _ _).alloc (Nat.le_refl _) _
  have bc : Blk W1 W.heap.size (callC c) 38 := by rw [hW1]; exact Blk.new _ _ _
  have S1 := h.below hb1
  have HT := file_st S1 hw hF c.path hc.path
  have q1 : W1.cell? ⟨W.heap.size, 1, none⟩ = some (.string (mk c.path)) := bc.cell 1
  have q3 : W1.cell? ⟨W.heap.size, 3, none⟩ = some (.int .i64 c.off) := bc.cell 3
  have q4 : W1.cell? ⟨W.heap.size, 4, none⟩ = some (.int .i64 c.size) := bc.cell 4
  unfold callC at *
  unfold readPathR
  by_cases c1 : c.off < 0 ∨ c.size < 0 ∨ 16384 < c.size
  · rw [if_pos c1]
    rcases (show c.off < 0 ∨ (¬ c.off < 0 ∧ c.size < 0) ∨ (¬ c.off < 0 ∧ ¬ c.size < 0 ∧ 16384 < c.size) by omega) with c2 | ⟨c2, c3⟩ | ⟨c2, c3, c4⟩
    · clear c1 HT
      go_enter Tryz.func26, Tryz.ntmps26
      go_wp2_with fail
      rw [← hW1]
      go_ret2
      first | exact ⟨hb1, rfl, by decide⟩ | exact ⟨hb1, rfl⟩
    · clear c1 HT
      go_enter Tryz.func26, Tryz.ntmps26
      go_wp2_with fail
      rw [← hW1]
      go_ret2
      first | exact ⟨hb1, rfl, by decide⟩ | exact ⟨hb1, rfl⟩
    · clear c1 HT
      go_enter Tryz.func26, Tryz.ntmps26
      go_wp2_with fail
      rw [← hW1]
      go_ret2
      first | exact ⟨hb1, rfl, by decide⟩ | exact ⟨hb1, rfl⟩
  rw [if_neg c1]
  have c2 : ¬ c.off < 0 := fun e => c1 (.inl e)
  have c3 : ¬ c.size < 0 := fun e => c1 (.inr (.inl e))
  have c4 : ¬ 16384 < c.size := fun e => c1 (.inr (.inr e))
  clear c1
  cases hp : fileP (stOf L nb) c.path with
  | error z =>
    rw [hp] at HT
    dsimp only at HT ⊢
    clear hp
    go_enter Tryz.func26, Tryz.ntmps26
    go_wp2_with fail
    rw [← hW1]
    clear hW1
    refine HT.mono ?_
    rintro e w2 ⟨hb2, rfl, hzn⟩
    have hzb := (bne_iff_ne.2 hzn)
    go_wp2_with fail
    go_ret2
    exact ⟨Below.after hb1 hb2, rfl, hzn⟩
  | ok i =>
    obtain ⟨i1, i2, _⟩ := fileP_ok hF hp
    obtain ⟨x, hx, hk⟩ := fileP_kind hF hp
    obtain ⟨b, ha, _⟩ := Adr.of_st hx
    have hxs := hz i x hx
    have hxw := ((hD i x hx).2 hk).2
    rw [hp] at HT
    dsimp only at HT ⊢
    have hnd : ndAt (stOf L nb) i = x := by unfold ndAt; rw [hx]; rfl
    rw [hnd]
    clear hp hnd
    have lq : W.heap.size < W1.heap.size := bc.lt
    clear bc
    go_enter Tryz.func26, Tryz.ntmps26
    go_wp2_with fail
    rw [← hW1]
    clear hW1
    refine HT.mono ?_
    rintro e w2 ⟨hb2, rfl⟩
    have r3 := (hb2.cell (p := ⟨W.heap.size, 3, none⟩) lq).trans q3
    have r4 := (hb2.cell (p := ⟨W.heap.size, 4, none⟩) lq).trans q4
    have l2 : W.heap.size < w2.heap.size := Nat.lt_of_lt_of_le lq hb2.size
    have HA := Lib.hid (fun w (hb : Below w2.heap.size w2 w) => at_st ((S1.below hb2).below hb) hw ha i1 i2)
    have HR := Lib.hid (fun w (hb : Below w2.heap.size w2 w) => read_st ((S1.below hb2).below hb) hw ha hx hk hxw hxs c.off c.size (by omega) (by omega) (by omega))
    have Hx := Lib.hid (And.intro hx hk)
    clear hx hk
    go_wp2_with fail
    go_region_held3 (fun w' => w'.cell? ⟨W.heap.size, 3, none⟩ = some (.int .i64 c.off) ∧ w'.cell? ⟨W.heap.size, 4, none⟩ = some (.int .i64 c.size)) (refine ⟨?_, ?_⟩ <;> assumption) (first | (go_at_call 41; have hc' := HR; unfold Hid at hc'; refine (hc' _ (Below.refl _ _).drew).mono ?_; clear hc'; rintro e w5 ⟨rfl, hb5⟩; have j3 := (hb5.cell (p := ⟨W.heap.size, 3, none⟩) l2).trans r3; have j4 := (hb5.cell (p := ⟨W.heap.size, 4, none⟩) l2).trans r4) | (go_at_call 40; have hc' := HA; unfold Hid at hc'; refine (hc' _ (Below.refl _ _).drew).mono ?_; clear hc'; rintro e w' ⟨rfl, rfl⟩))
    go_wp2_with fail
    go_ret2
    exact ⟨Below.after (Below.after hb1 hb2) ⟨hb5.os, hb5.tape, hb5.output, hb5.size, hb5.block⟩, rfl⟩
end
end Fs
end Go.Proofs.YtlnnbjgfpiefdaaGreat
/- What an inode is; what is free. -/
namespace Go.Proofs.YtlnnbjgfpiefdaaGreat
open Go.RowKit Go.Maps Go.Shelf

namespace Fs
def statC (s : Stat) : Array Value := #[.int .i64 s.inode, .int .i64 s.kind, .int .i64 s.links, .int .i64 s.size, .int .i64 s.blocks]
def roomC (r : Room) : Array Value := #[.int .i64 r.freeB, .int .i64 r.blocks, .int .i64 r.freeI, .int .i64 r.inodes]
section
variable {W : World} {L : Lay} {fb : Nat} {n : Int} {nb : Nat} {uv : Value} {vals : List Value}
set_option maxRecDepth 100000 in
theorem stat_results {tmps : Array Value} {w : World} {b : Nat} {v0 v1 v2 v3 v4 : Value} {t : TypeId} (h4 : tmps[4]? = some (.pointer (some ⟨b, 0, none⟩))) (hb : Blk w b #[v0, v1, v2, v3, v4] t) :
    (results Tryz.f64 tmps).run Tryz.prog w = .ok (.agg #[v0, v1, v2, v3, v4]) w := by
  have c0 : w.cell? ⟨b, 0, none⟩ = some v0 := hb.cell 0
  have c1 : w.cell? ⟨b, 1, none⟩ = some v1 := hb.cell 1
  have c2 : w.cell? ⟨b, 2, none⟩ = some v2 := hb.cell 2
  have c3 : w.cell? ⟨b, 3, none⟩ = some v3 := hb.cell 3
  have c4 : w.cell? ⟨b, 4, none⟩ = some v4 := hb.cell 4
  simp [results, Tryz.results64, go_sem, h4, c0, c1, c2, c3, c4]
set_option maxRecDepth 100000 in
set_option maxHeartbeats 4000000 in
theorem stat_st (h : Sim W L fb n nb uv vals) (hw : WF L nb) {i : Int} {b : Nat} (ha : Adr L nb i b) {x : Nd} (hx : get (stOf L nb) i = some x) (hok : NdOk x) (j : Int) :
    Calls Tryz.prog 64 #[.pointer (some ⟨b, 0, none⟩), .int .i64 j] W fun e W' => e = .returned (.agg (statC (statN j x))) ∧ Below W.heap.size W W' := by
  obtain ⟨hd, hb⟩ := hw.at ha
  have hxe : ndOf L hd = x := by have := ha.st; rw [hx, ndAtB_of hb] at this; exact (Option.some.inj this).symm
  obtain ⟨c0, c1, c2, _, _⟩ := node_cells (h.is b _ hb).2
  rw [show hd.kind = x.kind from congrArg Nd.kind hxe] at c0
  rw [show hd.links = x.links from congrArg Nd.links hxe] at c1
  rw [show hd.size = x.size from congrArg Nd.size hxe] at c2
  have hbl := (h.is b _ hb).1
  have hp0 := Blk.new W #[.int .i64 0, .int .i64 0, .int .i64 0, .int .i64 0, .int .i64 0] 32
  have HI := indices_any (h.alloc (.cells #[.int .i64 0, .int .i64 0, .int .i64 0, .int .i64 0, .int .i64 0] 32)) hw hb (by rw [hxe]; exact hok)
  rw [hxe] at HI
  obtain ⟨hil, hik⟩ := indices_len hok
  unfold statC statN blocksOf
  have Hx := Lib.hid (And.intro hxe (And.intro hil hik))
  clear hxe hil hik
  go_enter Tryz.func64, Tryz.ntmps64
  go_wp2_with fail
  refine HI.mono ?_
  rintro e w2 ⟨v2, l, rfl, hrow, hperm, hb2⟩
  obtain ⟨hxe, hil, hik⟩ := Hx
  have HT := takes_row hrow hperm (by rw [hperm.length_eq]; exact hil) (fun k hk => hik k (hperm.mem_iff.1 hk))
  go_wp2_with fail
  refine HT.mono ?_
  rintro e w3 ⟨z, rfl, hb3⟩
  have hB2 : Below W.heap.size W w2 := ((Below.refl _ _).alloc (Nat.le_refl _) _).trans ⟨hb2.os, hb2.tape, hb2.output, hb2.size, fun k hk => hb2.block k (by simp; omega)⟩
  have hB3 := Below.after hB2 hb3
  have e0 := (hB3.cell (p := ⟨b, 0, none⟩) hbl).trans c0
  have e1 := (hB3.cell (p := ⟨b, 1, none⟩) hbl).trans c1
  have e2 := (hB3.cell (p := ⟨b, 2, none⟩) hbl).trans c2
  have hp3 := (hp0.same (hb2.block _ (by simp))).same (hb3.block _ (by have := hb2.size; simp at this; omega))
  have p0 := hp3.cell 0
  have p1 := hp3.cell 1
  have p2 := hp3.cell 2
  have p3 := hp3.cell 3
  have p4 := hp3.cell 4
  have g0 := hp3.free 0
  have g1 := hp3.free 1
  have g2 := hp3.free 2
  have g3 := hp3.free 3
  have g4 := hp3.free 4
  have Hz := Lib.hid (And.intro hperm (And.intro hxe (And.intro hB3 hp3)))
  clear hxe hil hik hperm hB3 hp3 hB2 hb2 hb3 hp0 HI HT
  go_wp2_with fail
  go_region
  go_wp2_with fail
  obtain ⟨hperm, hxe, hB3, hp3⟩ := Hz
  exact bodyPost_ret (stat_results rfl (((((hp3.set 0 (.int .i64 j)).set 1 (.int .i64 x.kind)).set 2 (.int .i64 x.links)).set 3 (.int .i64 x.size)).set 4 (.int .i64 (tkN (indices x)))).drew) rfl ⟨rfl, (((((hB3.setCell (p := ⟨W.heap.size, 0, none⟩) (Nat.le_refl _) _).setCell (p := ⟨W.heap.size, 1, none⟩) (Nat.le_refl _) _).setCell (p := ⟨W.heap.size, 2, none⟩) (Nat.le_refl _) _).setCell (p := ⟨W.heap.size, 3, none⟩) (Nat.le_refl _) _).setCell (p := ⟨W.heap.size, 4, none⟩) (Nat.le_refl _) _).drew⟩
end
end Fs
end Go.Proofs.YtlnnbjgfpiefdaaGreat
