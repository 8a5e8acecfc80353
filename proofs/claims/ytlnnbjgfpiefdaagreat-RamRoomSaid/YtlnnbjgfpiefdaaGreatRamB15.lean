/- A file's bytes are written. -/
import Derived.Test.YtlnnbjgfpiefdaaGreatRamB14
import Derived.IntWalk
import Derived.Test.YtlnnbjgfpiefdaaGreatRamB13
import Derived.Lib.BufferWrite
namespace Go.Proofs.YtlnnbjgfpiefdaaGreat
open Go.RowKit Go.Maps Go.Shelf

namespace Fs
/-- Copy a string into a row, as much as there is room for. -/
theorem copy_str {P : Program} (w : World) (dT sT ty elem : TypeId) (g o dLen dCap : Nat) (s : ByteArray) (cur : Array Value) (t : TypeId)
    (hu : P.underlying dT = some (.slice elem)) (hs : (P.info? elem).map (·.size) = some 1) (hg : w.heap[g]? = some (.cells cur t (0, 0))) (hfit : o + min s.size dLen ≤ cur.size) :
    (Builtin.copy_ #[dT, sT] ty #[.slice (some ⟨g, o, none⟩) dLen dCap, .string s]).run P w =
      .ok (goInt (min s.size dLen : Nat)) (w.setRow g (cur.toList.take o ++ (Lib.byteCells s.data.toList).take (min s.size dLen) ++ cur.toList.drop (o + min s.size dLen)).toArray) := by
  have hlen : ((Lib.byteCells s.data.toList).take (min s.size dLen)).length = min s.size dLen := by
    rw [List.length_take, Lib.byteCells_length]
    have : s.data.toList.length = s.size := rfl
    omega
  have hst := run_storeCells_at P g o t ((Lib.byteCells s.data.toList).take (min s.size dLen)) 0 cur w hg (by rw [hlen]; simpa using hfit) (fun v hv => Lib.byteCells_one _ v (List.mem_of_mem_take hv))
  rw [hlen] at hst
  simp only [Nat.add_zero] at hst
  cases hq : P.info? elem with
  | none => simp [hq] at hs
  | some i =>
    simp [Builtin.copy_, run_underlying hu, Builtin.lenOf, Builtin.firstCells, Go.sizeOf, typeInfo, hq]
    rw [show List.take (s.size.min dLen) (List.map (fun b : UInt8 => Value.int IntKind.u8 (b.toNat : Int)) s.data.toList) = (Lib.byteCells s.data.toList).take (min s.size dLen) from rfl, hst]
    simp [Result.andThen]
/-- A piece out of its block. -/
theorem load_piece {w : World} {x : Nat} {cs : List Value} (h : Blk w x cs.toArray 68) (hl : cs.length = 512) : (Instr.loadAt 68 (.pointer (some ⟨x, 0, none⟩))).run Tryz.prog w = .ok (.agg cs.toArray) w := by
  simp only [Instr.loadAt, Instr.sureAddr, Sem.run_bind, Sem.run_pure, Result.andThen]
  exact run_loadVar_row w _ _ _ cs.toArray (0, 0) _ h Tryz.underlying68 rfl (by rw [info_piece]; simp [hl])
/-- A load that is known. -/
theorem wpList_load_run {P : Program} (w : World) {ops : Array Oper} {rest : List Oper} {o : Oper} {a : Act} {Q : Exit → Act → World → Prop}
    (hg : o.guard = none) (p : Operand) (t : TypeId) (hop : o.op = Op.load t p) (v : Value) (hrun : (Instr.loadAt t (a.eval p)).run P w = .ok v w) (hK : wpList P ops Q rest (a.put o.dst v) w) : wpList P ops Q (o :: rest) a w := by
  refine wpList_plain hg fun K' hK' => ?_
  unfold Oper.wp
  simp [execOp, hop, hrun, Result.andThen]
  exact hK' _ _ hK
theorem len_piece : Tryz.prog.arrayLen 68 = 512 := by kernel_rfl
theorem elem_piece (W : World) : (Go.sizeOf (Tryz.prog.elem 68)).run Tryz.prog W = .ok 1 W := by kernel_rfl
theorem arr_piece : Tryz.prog.underlying 68 = some (.array (Tryz.prog.arrayLen 68) (Tryz.prog.elem 68)) := by kernel_rfl
/-- A piece from a byte on. -/
theorem slice_piece (W : World) (B F : Nat) (hF : F < 512) : (Instr.sliceAt 68 (.pointer (some ⟨B, 0, none⟩)) (some (.int .i64 (F : Int))) none none).run Tryz.prog W = .ok (.slice (some ⟨B, F, none⟩) (512 - F) (512 - F)) W := by
  rw [run_sliceAt_array_l W _ _ arr_piece .i64 (F : Int) (by omega) (by rw [len_piece]; omega), elem_piece, len_piece]
  simp only [Result.andThen, slicedAt]
  rw [if_neg (by omega)]
  have : (⟨B, 0, none⟩ : Addr).add ((F : Int).toNat * 1) = ⟨B, F, none⟩ := by unfold Addr.add; split <;> simp_all
  rw [this]
  simp
theorem mk_drop (t : Tx) (k : Nat) : (mk t).extract k t.length = mk (t.drop k) := by
  rw [show (mk t).extract k t.length = mk ((t.drop k).take (t.length - k)) from Lib.extract_mk t _ _, List.take_of_length_le (by rw [List.length_drop]; omega)]
theorem copy_piece_any {P : Program} (Y : World) (dT sT ty elem T : TypeId) (hu : P.underlying dT = some (.slice elem)) (hs : (P.info? elem).map (·.size) = some 1) (p : Pc) (hp : p.length = 512) (F : Nat) (hF : F < 512) (u : Tx) :
    (Builtin.copy_ #[dT, sT] ty #[.slice (some ⟨Y.heap.size, F, none⟩) (512 - F) (512 - F), .string (mk u)]).run P (Y.alloc (.cells (p.map fun b => Value.int .u8 b.toNat).toArray T)).drew =
      .ok (goInt (min u.length (512 - F) : Nat)) (Y.alloc (.cells ((overPc p F (u.take (512 - F))).map fun b => Value.int .u8 b.toNat).toArray T)).drew := by
  have hus : (mk u).size = u.length := mk_size u
  have hcl : ((p.map fun b => Value.int .u8 b.toNat).toArray).size = 512 := by rw [List.size_toArray, List.length_map]; exact hp
  have := copy_str (P := P) (Y.alloc (.cells (p.map fun b => Value.int .u8 b.toNat).toArray T)).drew dT sT ty elem Y.heap.size F (512 - F) (512 - F) (mk u) _ T hu hs (Blk.new Y _ _) (by rw [hus, hcl]; omega)
  rw [this, hus]
  have e : (Y.alloc (.cells (p.map fun b => Value.int .u8 b.toNat).toArray T)).drew.setRow Y.heap.size
      ((p.map fun b => Value.int .u8 b.toNat).toArray.toList.take F ++ (Lib.byteCells (mk u).data.toList).take (min u.length (512 - F)) ++ (p.map fun b => Value.int .u8 b.toNat).toArray.toList.drop (F + min u.length (512 - F))).toArray =
      (Y.alloc (.cells ((overPc p F (u.take (512 - F))).map fun b => Value.int .u8 b.toNat).toArray T)).drew := by
    have h1 := World.setRow_alloc_new Y.drew (p.map fun b => Value.int .u8 b.toNat).toArray ((p.map fun b => Value.int .u8 b.toNat).toArray.toList.take F ++ (Lib.byteCells (mk u).data.toList).take (min u.length (512 - F)) ++ (p.map fun b => Value.int .u8 b.toNat).toArray.toList.drop (F + min u.length (512 - F))).toArray T
    refine Eq.trans h1 ?_
    have h2 : (p.map fun b => Value.int .u8 b.toNat).toArray.toList.take F ++ (Lib.byteCells (mk u).data.toList).take (min u.length (512 - F)) ++ (p.map fun b => Value.int .u8 b.toNat).toArray.toList.drop (F + min u.length (512 - F)) =
        (overPc p F (u.take (512 - F))).map fun b => Value.int .u8 b.toNat := by
      unfold overPc Lib.byteCells
      have hd : (mk u).data.toList = u := rfl
      rw [hd, List.map_append, List.map_append, List.map_take, List.map_drop, List.map_take, List.length_take, Nat.min_comm (512 - F)]
      congr 2
      rw [List.take_eq_take_iff, List.length_map]; omega
    rw [h2]; rfl
  rw [e]
theorem copy_piece (Y : World) (p : Pc) (hp : p.length = 512) (F : Nat) (hF : F < 512) (u : Tx) (ty : TypeId) :
    (Builtin.copy_ #[126, 9] ty #[.slice (some ⟨Y.heap.size, F, none⟩) (512 - F) (512 - F), .string (mk u)]).run Tryz.prog (Y.alloc (.cells (p.map fun b => Value.int .u8 b.toNat).toArray 68)).drew =
      .ok (goInt (min u.length (512 - F) : Nat)) (Y.alloc (.cells ((overPc p F (u.take (512 - F))).map fun b => Value.int .u8 b.toNat).toArray 68)).drew :=
  copy_piece_any Y _ _ ty 5 _ Tryz.underlying126 (by kernel_rfl) p hp F hF u
theorem modN_self {s : Tree} (hs : Rising s) {i : Int} {x : Nd} (hx : get s i = some x) {f : Nd → Nd} (hf : f x = x) : modN s i f = s := by
  refine Rising.ext (hs.mod i f) hs fun j => ?_
  rw [get_mod]
  split
  · rename_i e; rw [e, hx, Option.map_some, hf]
  · rfl
section
variable {W0 W : World} {L0 L : Lay} {Z : Nat → Prop} {fb : Nat} {n : Int} {nb : Nat} {uv : Value} {vals : List Value} {s : Tree}
set_option maxRecDepth 100000 in
set_option maxHeartbeats 4000000 in
theorem write_st (h : Now W0 L0 Z fb n nb W L uv vals s) (hlen : vals.length ≤ 1000) {i : Int} {b : Nat} (ha : Adr L nb i b) {x : Nd} (hx : get s i = some x) (hk : x.kind = 1) (hx1 : x.pieces.length ≤ 100000) (hx2 : Whole x.pieces) (o : Nat) (t : Tx) (ht : t.length ≤ 16384) (hot : o + t.length ≤ 8459264) :
    Calls Tryz.prog 74 #[.pointer (some ⟨fb, 0, none⟩), .pointer (some ⟨b, 0, none⟩), .int .i64 (o : Int), .string (mk t)] W fun e W' => e = .returned (.int .i64 0) ∧ ∃ L' uv' vals', Now W0 L0 Z fb n nb W' L' uv' vals' (if t = [] then s else modN s i fun x => { x with pieces := writeGo x.pieces (t.length + 1) o t, size := max x.size (o + t.length) }) ∧ vals'.length ≤ vals.length + t.length + 1 ∧ (t ≠ [] → vals' ≠ []) ∧ (t = [] → vals'.length ≤ vals.length) := by
  have hsz : (mk t).size = t.length := mk_size t
  have hsR : Rising s := by rw [← h.st.st]; exact h.st.wf.st_rising
  have hw1 : IntKind.i64.wrap (8459264 - (o : Int)) = 8459264 - (o : Int) := IntWalk.i64_in _ (by omega)
  have hg1 : ¬ (8459264 - (o : Int) < (t.length : Int)) := by omega
  have hz : ∀ w : World, (zeroValue 68).run Tryz.prog w = .ok (.agg (zeroPc.map fun b => Value.int .u8 b.toNat).toArray) w := zPc
  have hzl : ((zeroPc.map fun b => Value.int .u8 b.toNat).toArray).size = 512 := by simp [zeroPc]
  generalize (zeroPc.map fun b => Value.int .u8 b.toNat).toArray = zc at hz hzl
  go_enter Tryz.func74, Tryz.ntmps74
  go_wp2_with fail
  go_loopw [9] (fun v wr => ∃ (k : Nat) (Lr : Lay) (uvr : Value) (valsr : List Value) (sr : Tree) (l : Al Int Pc), v = .int .i64 (k : Int) ∧ k ≤ t.length ∧ Now W0 L0 Z fb n nb wr Lr uvr valsr sr ∧ Adr Lr nb i b ∧ valsr.length ≤ vals.length + k ∧ (0 < k → valsr ≠ []) ∧ sr = (modN s i fun x => { x with pieces := l }) ∧ Whole l ∧ l.length ≤ 100000 + k ∧ writeGo l (t.length + 1) (o + k) (t.drop k) = writeGo x.pieces (t.length + 1) o t) (fun v _ => (t.length - intOf v).toNat)
  case atStart => exact ⟨0, L, uv, vals, s, x.pieces, rfl, by omega, h, ha, by omega, fun e => by omega, (modN_self hsR hx rfl).symm, hx2, by omega, rfl⟩
  case round =>
    rename_i v wr
    obtain ⟨k, Lr, uvr, valsr, sr, l, rfl, hkt, hN, hA, hvl, hvn, hsr, hwl, hll, hwg⟩ := hrel
    have hgr : get sr i = some { x with pieces := l } := by rw [hsr, get_mod, if_pos rfl, hx]; rfl
    obtain ⟨hd, hb, hnd, hgs, _, _⟩ := hN.st.node hA
    have hxe : ndOf Lr hd = { x with pieces := l } := by rw [hgr] at hgs; exact (Option.some.inj hgs).symm
    have hkd : hd.kind = 1 := by have := congrArg Nd.kind hxe; exact this.trans hk
    obtain ⟨q, hq⟩ := hN.st.wf.file _ _ hb hkd
    obtain ⟨m, hm⟩ := hN.st.wf.pm _ _ _ hb hq
    have hml : m = l := by
      have e0 : (ndOf Lr hd).pieces = m := by unfold ndOf piecesAt; dsimp only; rw [hq]; dsimp only; rw [hm]
      rw [hxe] at e0; exact e0.symm
    subst hml
    have hMA : MapAt Tryz.prog 3 evPc wr q m := (hN.st.sim.is q _ hm).2
    obtain ⟨_, _, c2, c3, _⟩ := node_cells (hN.st.sim.is b _ hb).2
    rw [hq] at c3
    have hwk : IntKind.i64.wrap ((o : Int) + (k : Int)) = ((o + k : Nat) : Int) := by rw [IntWalk.i64_in _ (by omega)]; omega
    by_cases hlt : k < t.length
    · have hlti : (k : Int) < (t.length : Int) := by omega
      obtain ⟨was, hwas⟩ : ∃ y, y = (get m (((o + k) / 512 : Nat) : Int)).getD zeroPc := ⟨_, rfl⟩
      have hwl0 : was.length = 512 := by rw [hwas]; exact hwl.get _
      obtain ⟨ws, hws⟩ : ∃ y, y = (was.map fun b => Value.int .u8 b.toNat) := ⟨_, rfl⟩
      have hwsl : ws.length = 512 := by rw [hws, List.length_map]; exact hwl0
      have hwone : ∀ v ∈ ws, v.oneCell' = true := by rw [hws]; intro v hv; obtain ⟨y, _, rfl⟩ := List.mem_map.1 hv; rfl
      have hJ : ((o : Int) + (k : Int)) / 512 = (((o + k) / 512 : Nat) : Int) := by omega
      have hF : ((o : Int) + (k : Int)) % 512 = (((o + k) % 512 : Nat) : Int) := by omega
      have hlook : (Instr.lookup 62 (.map (some q)) (.int .i64 (((o : Int) + (k : Int)) / 512)) false).run Tryz.prog wr = .ok (.agg ws.toArray) wr := by
        rw [hJ]
        have := hMA.look kI Tryz.underlying62 (zPc _) (keyI (i := (((o + k) / 512 : Nat) : Int)) (wfI (by omega) (by omega)))
        rw [this, hws, hwas]
        cases get m (((o + k) / 512 : Nat) : Int) <;> rfl
      have hst := run_storeCells_new (P := Tryz.prog) wr 68 zc ws.toArray (by rw [info_piece]; simp [hwsl]) (by rw [hzl]; simp [hwsl]) (by simpa using hwone)
      have hsp := slice_piece (wr.alloc (.cells ws.toArray 68)).drew wr.heap.size ((o + k) % 512) (Nat.mod_lt _ (by omega))
      rw [← hF] at hsp
      have hcp := fun ty => copy_piece wr was hwl0 ((o + k) % 512) (Nat.mod_lt _ (by omega)) (t.drop k) ty
      rw [← hws, ← mk_drop, List.length_drop] at hcp
      obtain ⟨p2, hp2⟩ : ∃ y, y = overPc was ((o + k) % 512) ((t.drop k).take (512 - (o + k) % 512)) := ⟨_, rfl⟩
      have hpl2 : p2.length = 512 := by rw [hp2, hwas]; exact hwl.over (o + k) (t.drop k)
      obtain ⟨cs2, hcs2⟩ : ∃ y, y = (p2.map fun b => Value.int .u8 b.toNat) := ⟨_, rfl⟩
      have hcl2 : cs2.length = 512 := by rw [hcs2, List.length_map]; exact hpl2
      rw [← hp2, ← hcs2] at hcp
      have hload := load_piece (w := (wr.alloc (.cells cs2.toArray 68)).drew) (x := wr.heap.size) (Blk.newAt _ _ rfl).drew hcl2
      have N8 := (hN.alloc (.cells cs2.toArray 68)).drew
      have HL := lay_st N8.st (by omega) hA (by unfold kindOf; rw [hgr]; exact hk) (fun y hy => by rw [hgr] at hy; cases hy; exact ⟨by dsimp only; omega, hwl⟩) (((o + k) / 512 : Nat) : Int) (by omega) (by omega) p2 hpl2
      rw [show evPc p2 = .agg cs2.toArray by rw [hcs2]; rfl, ← hJ] at HL
      have Hall := Lib.hid (And.intro hsr (And.intro hgr (And.intro hgs (And.intro hxe (And.intro hnd (And.intro hwg (And.intro hvn (And.intro hwas (And.intro hws (And.intro hwl0 (And.intro hwone (And.intro hJ (And.intro hF (And.intro hp2 (And.intro hpl2 (And.intro hcs2 hcl2))))))))))))))))
      clear hsr hgr hgs hxe hnd hwg hvn hwas hws hwl0 hwone hJ hF hp2 hpl2 hcs2 hcl2
      go_upto_region 7 with fail
      go_cut [13] (fun v13 wx => v13 = .int .i64 (min (t.length - k) (512 - (o + k) % 512) : Nat) ∧ wx = (wr.alloc (.cells cs2.toArray 68)).drew)
      case first =>
        go_region
        go_wp2_with fail
        go_meet
        case rel => exact ⟨rfl, rfl⟩
      case rest =>
        obtain ⟨rfl, rfl⟩ := hcut
        clear hcp hsp hst hz hlook
        go_wp2_with (first | (refine wpList_load_run _ rfl (.tmp 12) 68 rfl _ hload ?_) | (go_at_call 100; refine HL.mono ?_; rintro e w9 ⟨rfl, ha9⟩; obtain ⟨L9, uv9, vals9, N9, T9, l9, n9, adr9⟩ := N8.after ha9))
        go_roundw
        case rel =>
          obtain ⟨hsr, hgr, hgs, hxe, hnd, hwg, hvn, hwas, hws, hwl0, hwone, hJ, hF, hp2, hpl2, hcs2, hcl2⟩ := Hall
          have hF0 : (o + k) % 512 < 512 := Nat.mod_lt _ (by omega)
          have hne : t.drop k ≠ [] := fun e => by have := congrArg List.length e; simp only [List.length_drop, List.length_nil] at this; omega
          have hcl : ((t.drop k).take (512 - (o + k) % 512)).length = min (t.length - k) (512 - (o + k) % 512) := by rw [List.length_take, List.length_drop]; omega
          refine ⟨k + min (t.length - k) (512 - (o + k) % 512), L9, uv9, vals9, _, put m (((o + k) / 512 : Nat) : Int) p2, by congr 1, by omega, N9, adr9 _ _ hA, by omega, fun _ => n9, ?_, hwl.put _ hpl2, ?_, ?_⟩
          · rw [hsr, modN_modN, hJ]
          · rw [length_put']
            have := length_del_le m (((o + k) / 512 : Nat) : Int)
            omega
          · rw [← hwg, writeGo_step m t.length (o + k) hne, hcl, ← hwas, ← hp2]
            have hdr : (t.drop k).drop (512 - (o + k) % 512) = t.drop (k + min (t.length - k) (512 - (o + k) % 512)) := by
              rw [List.drop_drop]
              rcases Nat.le_total (t.length - k) (512 - (o + k) % 512) with e | e
              · rw [Nat.min_eq_left e, List.drop_of_length_le (by omega), List.drop_of_length_le (by omega)]
              · rw [Nat.min_eq_right e]
            rw [hdr, ← Nat.add_assoc]
            exact writeGo_fuel _ _ _ _ _ (by rw [List.length_drop]; omega) (by rw [List.length_drop]; omega)
        case measure =>
          simp only [intOf]; omega
    · have hkk : k = t.length := by omega
      subst hkk
      rw [List.drop_of_length_le (Nat.le_refl _), writeGo_nil] at hwg
      have hlti : ¬ ((t.length : Int) < (t.length : Int)) := by omega
      by_cases htn : t = []
      · subst htn
        have hwg' : m = x.pieces := by rw [hwg, writeGo_nil]
        have Hall := Lib.hid (And.intro hsr hwg')
        clear hsr hwg hwg' hgr hgs hxe hnd hvn
        have hb0 : ((mk ([] : Tx)).toList.isEmpty) = true := by rw [show (mk ([] : Tx)).toList = [] from toList_bs (mk [])]; rfl
        go_wp2_with fail
        go_ret
        obtain ⟨hsr, hwg'⟩ := Hall
        rw [hsr, hwg', modN_self hsR hx rfl] at hN
        have hvl' : valsr.length ≤ vals.length := by simpa using hvl
        exact ⟨rfl, Lr, uvr, valsr, hN, by omega, hvl'⟩
      · have hb0 : ((mk t).toList.isEmpty) = false := by rw [show (mk t).toList = t from toList_bs (mk t)]; cases t with | nil => exact absurd rfl htn | cons => rfl
        have hcz : hd.size = x.size := congrArg Nd.size hxe
        rw [hcz] at c2
        have hsR' : modN sr i (fun y => { y with size := max x.size ((o : Int) + (t.length : Int)) }) = modN s i fun x => { x with pieces := writeGo x.pieces (t.length + 1) o t, size := max x.size (o + t.length) } := by
          rw [hsr, modN_modN]
          refine modN_congr hsR fun y hy => ?_
          rw [hx] at hy; cases hy
          rw [hwg]
        have HR := resize_st hN.st (by omega) hA (max x.size ((o : Int) + (t.length : Int)))
        have hw3 : IntKind.i64.wrap ((o : Int) + (t.length : Int)) = (o : Int) + (t.length : Int) := IntWalk.i64_in _ (by omega)
        have Hall := Lib.hid (And.intro hsr (And.intro hwg (And.intro hgr (And.intro hgs (And.intro hxe (And.intro hnd (And.intro hvn hsR')))))))
        clear hsr hwg hgr hgs hxe hnd hvn hsR' hz
        go_wp2_with (go_at_call 89; refine HR.mono ?_; rintro e w5 ⟨rfl, ha5⟩; obtain ⟨L5, uv5, vals5, N5, T5, l5, n5, adr5⟩ := hN.after ha5)
        go_ret
        obtain ⟨hsr, hwg, hgr, hgs, hxe, hnd, hvn, hsR'⟩ := Hall
        rw [hsR'] at N5
        exact ⟨rfl, L5, uv5, vals5, N5, by omega, n5⟩
end
end Fs
end Go.Proofs.YtlnnbjgfpiefdaaGreat
