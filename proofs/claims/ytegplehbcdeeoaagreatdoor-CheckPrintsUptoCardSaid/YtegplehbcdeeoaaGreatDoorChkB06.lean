/- Blocks of cells: whole values stored into one, loaded from one. -/
import Derived.Test.YtegplehbcdeeoaaGreatDoorChkB02
import Derived.OneCell
import Derived.WalkKit
import Derived.Laws.CopyRow
import Derived.Test.YtegplehbcdeeoaaGreatDoorChkB01
import Derived.Laws.Bits128
namespace Go.Proofs.YtegplehbcdeeoaaGreatDoor
open Go.RowKit

namespace Ck
/-- A block of cells. -/
def Blk (W : World) (b : Nat) (xs : Array Value) (t : TypeId) : Prop := W.heap[b]? = some (.cells xs t (0, 0))
section
variable {W W' w : World} {b : Nat} {xs ys : Array Value} {t : TypeId}
theorem Blk.lt (h : Blk W b xs t) : b < W.heap.size := lt_of_block h
theorem Blk.cell (h : Blk W b xs t) (j : Nat) : W.cell? ⟨b, j, none⟩ = xs[j]? := by unfold Blk at h; simp [World.cell?, h]
theorem Blk.free (h : Blk W b xs t) (j : Nat) : W.frozen? ⟨b, j, none⟩ = false := by unfold Blk at h; simp [World.frozen?, h]
theorem Blk.same (h : Blk W b xs t) (e : W'.heap[b]? = W.heap[b]?) : Blk W' b xs t := e.trans h
theorem Blk.new (W : World) (xs : Array Value) (t : TypeId) : Blk (W.alloc (.cells xs t (0, 0))) W.heap.size xs t := by unfold Blk World.alloc; simp
theorem Blk.newAt {b : Nat} (xs : Array Value) (t : TypeId) (hb : b = W.heap.size) : Blk (W.alloc (.cells xs t (0, 0))) b xs t := by rw [hb]; exact Blk.new W xs t
theorem Blk.alloc (h : Blk W b xs t) (o : Obj) : Blk (W.alloc o) b xs t := h.same (((Below.refl _ _).alloc (Nat.le_refl _) _).block _ h.lt)
theorem Blk.setAt (h : Blk W b xs t) (i : Nat) (v : Value) : Blk (W.setCell ⟨b, i, none⟩ v) b (xs.setIfInBounds i v) t := by
  unfold Blk at *
  simp only [World.setCell]
  rw [Array.getElem?_modify, if_pos rfl, h]
  rfl
theorem setRow_heap (w : World) (b x : Nat) (ys : Array Value) (h : x ≠ b) : (w.setRow b ys).heap[x]? = w.heap[x]? := by
  simp only [World.setRow]
  rw [Array.getElem?_modify, if_neg (fun e => h e.symm)]
theorem setRow_size (w : World) (b : Nat) (ys : Array Value) : (w.setRow b ys).heap.size = w.heap.size := by simp [World.setRow]
theorem Blk.setRow (h : Blk w b xs t) (ys : Array Value) : Blk (w.setRow b ys) b ys t := by
  unfold Blk at *
  simp only [World.setRow]
  rw [Array.getElem?_modify, if_pos rfl, h]
  rfl
theorem below_setRow {B : Nat} {w w' : World} (h : Below B w w') {b : Nat} (hb : B ≤ b) (ys : Array Value) : Below B w (w'.setRow b ys) :=
  ⟨h.os, h.tape, h.output, by rw [setRow_size]; exact h.size, fun k hk => (setRow_heap _ _ _ _ (by omega)).trans (h.block k hk)⟩
theorem store_row {ty : TypeId} (h : Blk w b xs t) (hi : (Tryz.prog.info? ty).map (·.size) = some ys.size) (hs : xs.size = ys.size) (h1 : ys.all (·.oneCell') = true) :
    (Instr.storeAt ty (.pointer (some ⟨b, 0, none⟩)) (.agg ys)).run Tryz.prog w = .ok () (w.setRow b ys) := by
  simp only [Instr.storeAt, Instr.sureAddr, Sem.run_bind, Sem.run_pure, Result.andThen]
  exact run_storeVar_row w b t ty xs ys h hi hs h1
theorem load_arr {ty e : TypeId} {n : Nat} (h : Blk w b xs t) (hu : Tryz.prog.underlying ty = some (.array n e)) (hi : (Tryz.prog.info? ty).map (·.size) = some xs.size) :
    (Instr.loadAt ty (.pointer (some ⟨b, 0, none⟩))).run Tryz.prog w = .ok (.agg xs) w := by
  simp only [Instr.loadAt, Instr.sureAddr, Sem.run_bind, Sem.run_pure, Result.andThen]
  exact run_loadVar_row w _ _ _ xs (0, 0) _ h hu rfl hi
theorem load_str {ty : TypeId} {fs : Array Field} (h : Blk w b xs t) (hu : Tryz.prog.underlying ty = some (.struct fs)) (hi : (Tryz.prog.info? ty).map (·.size) = some xs.size) :
    (Instr.loadAt ty (.pointer (some ⟨b, 0, none⟩))).run Tryz.prog w = .ok (.agg xs) w := by
  simp only [Instr.loadAt, Instr.sureAddr, Sem.run_bind, Sem.run_pure, Result.andThen]
  exact run_loadVar_row w _ _ _ xs (0, 0) _ h hu rfl hi
end
/-- A lone result that lies in a block. -/
theorem results_cell {P : Program} {fn : Func} {tmps : Array Value} {k : Nat} {ty : TypeId} {w : World} {a : Addr} {v : Value} (hr : fn.results = #[.cell k ty]) (h : tmps[k]? = some (.pointer (some a))) (hl : (loadVar ty a).run P w = .ok v w) :
    (results fn tmps).run P w = .ok v w := by
  unfold results
  rw [hr]
  simp [h, Result.andThen]
  exact hl
/-- A store that is known. -/
theorem wpList_store_run {P : Program} (w : World) {ops : Array Oper} {rest : List Oper} {o : Oper} {a : Act} {Q : Exit → Act → World → Prop}
    (hg : o.guard = none) (p v : Operand) (t : TypeId) (hop : o.op = Op.store t p v) (w' : World) (hrun : (Instr.storeAt t (a.eval p) (a.eval v)).run P w = .ok () w') (hK : wpList P ops Q rest (a.put o.dst undef) w') : wpList P ops Q (o :: rest) a w := by
  refine wpList_plain hg fun K' hK' => ?_
  unfold Oper.wp
  simp [execOp, hop, hrun, Result.andThen]
  exact hK' _ _ hK
/-- A load that is known. -/
theorem wpList_load_run {P : Program} (w : World) {ops : Array Oper} {rest : List Oper} {o : Oper} {a : Act} {Q : Exit → Act → World → Prop}
    (hg : o.guard = none) (p : Operand) (t : TypeId) (hop : o.op = Op.load t p) (v : Value) (hrun : (Instr.loadAt t (a.eval p)).run P w = .ok v w) (hK : wpList P ops Q rest (a.put o.dst v) w) : wpList P ops Q (o :: rest) a w := by
  refine wpList_plain hg fun K' hK' => ?_
  unfold Oper.wp
  simp [execOp, hop, hrun, Result.andThen]
  exact hK' _ _ hK
/-- A struct into the midst of a block. -/
theorem store_part {P : Program} {w : World} {g o : Nat} {xs ys : Array Value} {t ty : TypeId} (h : w.heap[g]? = some (.cells xs t (0, 0))) (hi : (P.info? ty).map (·.size) = some ys.size) (hfit : o + ys.size ≤ xs.size) (h1 : ys.all (·.oneCell') = true) :
    (Instr.storeAt ty (.pointer (some ⟨g, o, none⟩)) (.agg ys)).run P w = .ok () (w.setRow g (xs.toList.take o ++ ys.toList ++ xs.toList.drop (o + ys.size)).toArray) := by
  simp only [Instr.storeAt, Instr.sureAddr, Sem.run_bind, Sem.run_pure, Result.andThen]
  have hc := run_storeCells_at P g o t ys.toList 0 xs w h (by simpa using hfit) (fun v hv => (Array.all_eq_true_iff_forall_mem.1 h1) v (by simpa using hv))
  simp only [Nat.add_zero, Array.length_toList] at hc
  cases hq : P.info? ty with
  | none => simp [hq] at hi
  | some i =>
    have hs : ys.size = i.size := by simp [hq] at hi; omega
    simpa [storeVar, Go.sizeOf, typeInfo, hq, Value.cells, hs] using hc
end Ck
end Go.Proofs.YtegplehbcdeeoaaGreatDoor
/- The sum of pieces joined. No program in sight. -/
namespace Go.Proofs.YtegplehbcdeeoaaGreatDoor
namespace Ck
open Pk
/-- A word, some zero bytes later. -/
def zN (v : Nat) : Nat → Nat
  | 0 => v
  | k + 1 => zN (stepB v 0) k
theorem step_xor (u v : Nat) (b : UInt8) : stepB (u ^^^ v) b = stepB u b ^^^ stepB v 0 := by
  unfold stepB
  rw [← sh4_xor, ← sh4_xor]
  congr 2
  show u ^^^ v ^^^ b.toNat = (u ^^^ b.toNat) ^^^ (v ^^^ 0)
  rw [Nat.xor_zero, Nat.xor_assoc, Nat.xor_assoc, Nat.xor_comm v]
theorem zN_xor (u v : Nat) : ∀ k, zN (u ^^^ v) k = zN u k ^^^ zN v k
  | 0 => rfl
  | k + 1 => by
    show zN (stepB (u ^^^ v) 0) k = zN (stepB u 0) k ^^^ zN (stepB v 0) k
    rw [step_xor]
    exact zN_xor _ _ k
theorem zN_lt {v : Nat} (h : v < 4294967296) : ∀ k, zN v k < 4294967296
  | 0 => h
  | k + 1 => by
    show zN (stepB v 0) k < _
    exact zN_lt (stepB_lt 0 h) k
theorem zN_add (v : Nat) (j : Nat) : ∀ k, zN v (k + j) = zN (zN v k) j := by
  intro k
  induction k generalizing v with
  | zero => rw [Nat.zero_add]; rfl
  | succ k ih => rw [Nat.succ_add]; exact ih _
/-- A linear turn of words. -/
structure Lin (L : Nat → Nat) : Prop where
  xor : ∀ a b, L (a ^^^ b) = L a ^^^ L b
  lt : ∀ v, v < 4294967296 → L v < 4294967296
theorem Lin.zero {L : Nat → Nat} (h : Lin L) : L 0 = 0 := by
  have := h.xor 0 0
  rw [Nat.xor_self] at this
  rw [this, Nat.xor_self]
theorem lin_z (k : Nat) : Lin fun v => zN v k := ⟨fun a b => zN_xor a b k, fun _ h => zN_lt h k⟩
theorem Lin.comp {L M : Nat → Nat} (h : Lin L) (k : Lin M) : Lin fun v => L (M v) := ⟨fun a b => by rw [k.xor, h.xor], fun v hv => h.lt _ (k.lt v hv)⟩
theorem low_bit (v : Nat) : v = (v % 2) ^^^ (2 * (v / 2)) := by
  apply Nat.eq_of_testBit_eq
  intro j
  have e1 := Nat.testBit_two_pow_mul_add (i := 1) (v / 2) (b := v % 2) (by have := Nat.mod_lt v (show 0 < 2 by omega); simpa using this) j
  have e2 := Nat.testBit_two_pow_mul (i := 1) (a := v / 2) (j := j)
  simp only [show (2 : Nat) ^ 1 = 2 from rfl] at e1 e2
  rw [show 2 * (v / 2) + v % 2 = v by omega] at e1
  rw [e1, Nat.testBit_xor, e2]
  by_cases hj : j < 1
  · have : ¬ (1 ≤ j) := by omega
    simp [hj, this]
  · have h3 : (v % 2).testBit j = false := by
      refine Nat.testBit_lt_two_pow (Nat.lt_of_lt_of_le (Nat.mod_lt v (show 0 < 2 by omega)) ?_)
      have := Nat.pow_le_pow_right (n := 2) (by omega) (show 1 ≤ j by omega)
      simpa using this
    have : 1 ≤ j := by omega
    simp [hj, this, h3]
theorem pow_split (i v : Nat) : 2 ^ i * v = (if v % 2 = 1 then 2 ^ i else 0) ^^^ (2 ^ (i + 1) * (v / 2)) := by
  have h : v <<< i = ((v % 2) ^^^ (2 * (v / 2))) <<< i := by rw [← low_bit]
  rw [Nat.shiftLeft_xor_distrib, Nat.shiftLeft_eq, Nat.shiftLeft_eq, Nat.shiftLeft_eq] at h
  rw [Nat.mul_comm, h]
  congr 1
  · rcases Nat.mod_two_eq_zero_or_one v with e | e <;> rw [e] <;> simp
  · rw [Nat.pow_succ, Nat.mul_comm 2, Nat.mul_assoc, Nat.mul_comm _ (2 * 2 ^ i), Nat.mul_comm 2 (2 ^ i)]
/-- One round of a matrix's way. -/
theorem Lin.round {L : Nat → Nat} (h : Lin L) (i v r : Nat) : r ^^^ L (2 ^ i * v) = (if v % 2 = 1 then r ^^^ L (2 ^ i) else r) ^^^ L (2 ^ (i + 1) * (v / 2)) := by
  rw [pow_split, h.xor]
  rcases Nat.mod_two_eq_zero_or_one v with e | e
  · rw [e, if_neg (by decide), if_neg (by decide), h.zero, Nat.zero_xor]
  · rw [e, if_pos rfl, if_pos rfl, Nat.xor_assoc]
theorem sumFrom_xor (u v : Nat) : ∀ l : List UInt8, sumFrom (u ^^^ v) l = sumFrom u l ^^^ zN v l.length := by
  intro l
  induction l generalizing u v with
  | nil => rfl
  | cons b l ih =>
    show sumFrom (stepB (u ^^^ v) b) l = sumFrom (stepB u b) l ^^^ zN (stepB v 0) l.length
    rw [step_xor]
    exact ih _ _
/-- The sum of two pieces, one behind the other. -/
theorem crc_join (a b : List UInt8) : crc (a ++ b) = zN (crc a) b.length ^^^ crc b := by
  have h1 : sumFrom 4294967295 (a ++ b) = sumFrom (sumFrom 4294967295 a) b := by unfold sumFrom; rw [List.foldl_append]
  have h2 : sumFrom 4294967295 a = 4294967295 ^^^ crc a := by unfold crc; rw [← Nat.xor_assoc, Nat.xor_self, Nat.zero_xor]
  unfold crc at *
  rw [h1]
  conv => lhs; rw [h2, sumFrom_xor]
  rw [← Nat.xor_assoc, Nat.xor_comm]
end Ck
end Go.Proofs.YtegplehbcdeeoaaGreatDoor
/- The walks of the sum: of bytes; of pieces joined. -/
namespace Go.Proofs.YtegplehbcdeeoaaGreatDoor
open Go.RowKit

namespace Ck
open Pk
theorem half_lt (k : Nat) : half.getD k 0 < 4294967296 := by
  rcases Nat.lt_or_ge k 16 with h | h
  · exact (by decide : ∀ k : Fin 16, half.getD k.val 0 < 4294967296) ⟨k, h⟩
  · have e : half.getD k 0 = 0 := by rw [List.getD_eq_getElem?_getD, List.getElem?_eq_none (by simpa [half] using h)]; rfl
    rw [e]; decide
theorem and15_u32 (x : Nat) (h : x < 4294967296) : bits .and .u32 (x : Int) 15 = ((x % 16 : Nat) : Int) := by
  have := Go.u32_and_nat x 15 h (by decide)
  rw [show ((15 : Nat) : Int) = 15 from rfl] at this
  rw [this]
  congr 1
  exact Nat.and_two_pow_sub_one_eq_mod x 4
/-- Four places, as the program reckons them. -/
theorem quarter (x : Nat) (hx : x < 4294967296) (w : World) (hw : KVars w) : ∃ n y : Nat, y = sh4 x ∧ y < 4294967296 ∧ bits .and .u32 (x : Int) 15 = ((x % 16 : Nat) : Int) ∧ w.cell? ⟨5, x % 16, none⟩ = some (.int .u32 n) ∧ bits .xor .u32 (n : Int) ((x : Int) / 16) = (y : Int) := by
  refine ⟨half.getD (x % 16) 0, sh4 x, rfl, sh4_lt hx, and15_u32 x hx, hw.half _ (Nat.mod_lt _ (by omega)), ?_⟩
  rw [sh4_half]
  have := Go.u32_xor_nat (half.getD (x % 16) 0) (x / 16) (half_lt _) (by omega)
  rw [← this]; congr 1
theorem step_any (v : Nat) (b : UInt8) (w : World) (hv : v < 4294967296) (hw : KVars w) : Calls Tryz.prog 161 #[.int .u32 v, .int .u8 b.toNat] w fun e w' => e = .returned (.int .u32 (stepB v b)) ∧ w = w' := by
  have hb := b.toNat_lt
  obtain ⟨x, hx⟩ : ∃ x, x = v ^^^ b.toNat := ⟨_, rfl⟩
  have hxl : x < 4294967296 := by rw [hx]; exact Nat.xor_lt_two_pow (n := 32) hv (by omega)
  have e1 : bits .xor .u32 (v : Int) (b.toNat : Int) = (x : Int) := by rw [hx]; exact Go.u32_xor_nat _ _ hv (by omega)
  obtain ⟨n, y, hy, hyl, e2, c1, e3⟩ := quarter x hxl w hw
  obtain ⟨m, z, hz, hzl, e4, c2, e5⟩ := quarter y hyl w hw
  have hr : z = stepB v b := by rw [hz, hy, hx]; rfl
  rw [← hr]
  clear hr hz hy hx
  have q1 : x % 16 < 16 := Nat.mod_lt _ (by omega)
  have q2 : y % 16 < 16 := Nat.mod_lt _ (by omega)
  go_enter Tryz.func161, Tryz.ntmps161
  go_wp2
  go_ret
  exact ⟨rfl, rfl⟩
theorem sum_succ (l : List UInt8) (k : Nat) (c : UInt8) (h : l[k]? = some c) : sumFrom 4294967295 (l.take (k + 1)) = stepB (sumFrom 4294967295 (l.take k)) c := by
  rw [List.take_add_one, h]; exact sumFrom_snoc _ _ _
theorem of_at (l : List UInt8) (g o cap : Nat) (w : World) (hl : l.length ≤ 1000000000000000) (hc : SeenAt w g o l) (hw : KVars w) : Calls Tryz.prog 131 #[.slice (some ⟨g, o, none⟩) l.length cap] w fun e w' => e = .returned (.int .u32 (crc l)) ∧ w = w' := by
  go_enter Tryz.func131, Tryz.ntmps131
  go_wp2
  go_loop [3, 8] (fun v i => ∃ k : Nat, k ≤ l.length ∧ i = .int .i64 k ∧ v = .int .u32 (sumFrom 4294967295 (l.take k) : Nat)) (fun _ i => l.length - (intOf i).toNat)
  case atStart => exact ⟨0, Nat.zero_le _, rfl, rfl⟩
  case round =>
    obtain ⟨k, hk, rfl, rfl⟩ := hrel
    have hS := sumFrom_lt (l.take k) (show 4294967295 < 4294967296 by decide)
    by_cases hlt : k < l.length
    · obtain ⟨c, hcc⟩ : ∃ c, l[k]? = some c := ⟨_, List.getElem?_eq_getElem hlt⟩
      have h1 := hc k c hcc
      have HS := Lib.hid (sum_succ l k c hcc)
      generalize sumFrom 4294967295 (l.take k) = v at hS HS
      clear hcc
      go_wp2_with (go_at_call 161; refine (step_any v c _ hS hw).mono ?_; rintro e w' ⟨rfl, rfl⟩)
      go_round
      case rel => exact ⟨k + 1, by omega, by go_num, by rw [HS.out]⟩
      case measure => simp [intOf]; omega
    · obtain rfl : k = l.length := by omega
      have HC := Lib.hid (show crc l = 4294967295 ^^^ sumFrom 4294967295 (l.take l.length) by rw [List.take_length]; rfl)
      generalize sumFrom 4294967295 (l.take l.length) = v at hS HC
      have hsg : IntKind.u32.signed = false := rfl
      have hx : bits .xor .u32 IntKind.u32.max (v : Int) = ((4294967295 ^^^ v : Nat) : Int) := Go.u32_xor_nat 4294967295 v (by decide) hS
      go_wp2
      go_ret
      exact ⟨by rw [HC.out]; rfl, rfl⟩
theorem i64_and1 (n : Int) : bits .and .i64 n 1 = n % 2 := by
  have h1 : (BitVec.ofInt 64 1).toNat = 2 ^ 1 - 1 := by decide
  have key : (BitVec.ofInt 64 n &&& BitVec.ofInt 64 1).toNat = (n % ((2 ^ 64 : Nat) : Int)).toNat % 2 ^ 1 := by
    rw [BitVec.toNat_and, BitVec.toNat_ofInt, h1, Nat.and_two_pow_sub_one_eq_mod]
  show IntKind.i64.wrap ((BitVec.ofInt 64 n &&& BitVec.ofInt 64 1).toNat : Nat) = n % 2
  rw [key, IntKind.wrap_i64]
  omega
/-- A matrix, where it lies. -/
def MatAt (w : World) (b : Nat) (L : Nat → Nat) : Prop := ∀ i, i < 32 → w.cell? ⟨b, i, none⟩ = some (.int .u32 (L (2 ^ i) : Nat))
theorem and1_u32 (x : Nat) (h : x < 4294967296) : bits .and .u32 (x : Int) 1 = ((x % 2 : Nat) : Int) := by
  have := Go.u32_and_nat x 1 h (by decide)
  rw [show ((1 : Nat) : Int) = 1 from rfl] at this
  rw [this]
  congr 1
  exact Nat.and_two_pow_sub_one_eq_mod x 1
theorem pow_le_of {i v : Nat} (h : 2 ^ i * v < 4294967296) (hv : v ≠ 0) : i < 32 := by
  rcases Nat.lt_or_ge i 32 with e | e
  · exact e
  · exfalso
    have h1 : 2 ^ 32 ≤ 2 ^ i := Nat.pow_le_pow_right (by decide) e
    have h2 : 2 ^ i * 1 ≤ 2 ^ i * v := Nat.mul_le_mul_left _ (by omega)
    have : (2 : Nat) ^ 32 = 4294967296 := by decide
    omega
set_option maxRecDepth 100000 in
theorem times_any {L : Nat → Nat} (hL : Lin L) (b v0 : Nat) (w : World) (hv0 : v0 < 4294967296) (hm : MatAt w b L) :
    Calls Tryz.prog 186 #[.pointer (some ⟨b, 0, none⟩), .int .u32 v0] w fun e w' => e = .returned (.int .u32 (L v0 : Nat)) ∧ w = w' := by
  obtain ⟨T, hT⟩ : ∃ T, T = L v0 := ⟨_, rfl⟩
  rw [← hT]
  go_enter Tryz.func186, Tryz.ntmps186
  go_wp2
  go_loop [1, 5, 6] (fun vv rv iv => ∃ i v r : Nat, iv = .int .i64 i ∧ vv = .int .u32 v ∧ rv = .int .u32 r ∧ v < 4294967296 ∧ r < 4294967296 ∧ Hid (2 ^ i * v < 4294967296) ∧ Hid (r ^^^ L (2 ^ i * v) = T)) (fun vv _ _ => (intOf vv).toNat)
  case atStart => exact ⟨0, v0, 0, rfl, rfl, rfl, hv0, by decide, (by show 2 ^ 0 * v0 < _; omega), (by show 0 ^^^ L (2 ^ 0 * v0) = T; rw [Nat.zero_xor, hT, Nat.pow_zero, Nat.one_mul])⟩
  case round =>
    obtain ⟨i, v, r, rfl, rfl, rfl, hv, hr, hb, hx⟩ := hrel
    by_cases h0 : v = 0
    · subst h0
      have hf : r = T := by rw [← hx.out, Nat.mul_zero, hL.zero, Nat.xor_zero]
      clear hL hb hx hv hr hm
      go_wp2
      go_ret
      exact ⟨rfl, rfl⟩
    · have hi := pow_le_of hb.out h0
      have hq : ((v : Int) != 0) = true := bne_iff_ne.2 (by omega)
      have hc := hm i hi
      have ha := and1_u32 v hv
      have hR := hL.round i v r
      rw [hx.out] at hR
      have hpl := hL.lt (2 ^ i) (by
        have : 2 ^ i * 1 ≤ 2 ^ i * v := Nat.mul_le_mul_left _ (by omega)
        have := hb.out
        omega)
      have hb' : 2 ^ (i + 1) * (v / 2) < 4294967296 := by
        have h1 : 2 ^ (i + 1) * (v / 2) ≤ 2 ^ i * v := by
          rw [Nat.pow_succ, Nat.mul_assoc]
          exact Nat.mul_le_mul_left _ (by omega)
        have := hb.out
        omega
      have hb' := Lib.hid hb'
      have hw1 : IntKind.i64.wrap ((i : Int) + 1) = (i : Int) + 1 := IntWalk.i64_in _ (by omega)
      have hxr : bits .xor .u32 (r : Int) (L (2 ^ i) : Nat) = ((r ^^^ L (2 ^ i) : Nat) : Int) := Go.u32_xor_nat _ _ hr hpl
      have hrl : r ^^^ L (2 ^ i) < 4294967296 := Nat.xor_lt_two_pow (n := 32) hr hpl
      have hd : v / 2 < v := by omega
      generalize L (2 ^ i) = m at *
      have hR := Lib.hid hR
      have hd := Lib.hid hd
      have hi32 : (i : Int) < 32 := by omega
      have hvl := Lib.hid hv
      have hrl0 := Lib.hid hr
      have hrl' := Lib.hid hrl
      clear hx hb hm hpl hi
      rcases Nat.mod_two_eq_zero_or_one v with e | e
      · have e1 : (((v % 2 : Nat) : Int) == 1) = false := by rw [e]; rfl
        have HR := Lib.hid (show r ^^^ L (2 ^ (i + 1) * (v / 2)) = T by rw [hR.out, e, if_neg (by decide)])
        clear hR e hL hT hv hr hrl hq
        have hq : ((v : Int) != 0) = true := bne_iff_ne.2 (by omega)
        go_wp2
        exact ⟨⟨i + 1, v / 2, r, rfl, congrArg _ (by omega), rfl, by have := hvl.out; omega, hrl0, hb', HR⟩, by have := hd.out; simp only [intOf]; omega⟩
      · have e1 : (((v % 2 : Nat) : Int) == 1) = true := by rw [e]; rfl
        have HR := Lib.hid (show (r ^^^ m) ^^^ L (2 ^ (i + 1) * (v / 2)) = T by rw [hR.out, e, if_pos rfl])
        clear hR e hL hT hv hr hrl hq
        have hq : ((v : Int) != 0) = true := bne_iff_ne.2 (by omega)
        go_wp2
        exact ⟨⟨i + 1, v / 2, r ^^^ m, rfl, congrArg _ (by omega), rfl, by have := hvl.out; omega, hrl', hb', HR⟩, by have := hd.out; simp only [intOf]; omega⟩
def matC (L : Nat → Nat) : Array Value := ((List.range 32).map fun i => Value.int .u32 (L (2 ^ i) : Nat)).toArray
theorem matC_size (L : Nat → Nat) : (matC L).size = 32 := by simp [matC]
theorem MatAt.of {w : World} {b : Nat} {L : Nat → Nat} {t : TypeId} (h : Blk w b (matC L) t) : MatAt w b L := fun i hi => by
  rw [h.cell]
  simp [matC, hi]
theorem info_mat : (Tryz.prog.info? 247).map (·.size) = some 32 := by kernel_rfl
/-- What is made yet of a matrix. -/
def Part (cs : Array Value) (L : Nat → Nat) (i : Nat) : Prop := cs.size = 32 ∧ (∀ j, j < i → cs[j]? = some (.int .u32 (L (2 ^ j) : Nat))) ∧ ∀ j, j < 32 → ∃ n : Int, cs[j]? = some (.int .u32 n)
theorem Part.set {cs : Array Value} {L : Nat → Nat} {i : Nat} (h : Part cs L i) (hi : i < 32) : Part (cs.setIfInBounds i (.int .u32 (L (2 ^ i) : Nat))) L (i + 1) := by
  obtain ⟨h1, h2, h3⟩ := h
  refine ⟨by simpa using h1, fun j hj => ?_, fun j hj => ?_⟩
  · rw [Array.getElem?_setIfInBounds]
    by_cases c : i = j
    · subst c; rw [if_pos rfl, if_pos (by omega)]
    · rw [if_neg c]; exact h2 j (by omega)
  · rw [Array.getElem?_setIfInBounds]
    by_cases c : i = j
    · subst c; rw [if_pos rfl, if_pos (by omega)]; exact ⟨_, rfl⟩
    · rw [if_neg c]; exact h3 j hj
theorem Part.all {cs : Array Value} {L : Nat → Nat} (h : Part cs L 32) : cs = matC L := by
  refine Array.ext_getElem? fun j => ?_
  by_cases c : j < 32
  · rw [h.2.1 j c]; simp [matC, c]
  · rw [Array.getElem?_eq_none (by rw [h.1]; omega), Array.getElem?_eq_none (by rw [matC_size]; omega)]
theorem Part.start (L : Nat → Nat) : Part (Array.replicate 32 (.int .u32 0)) L 0 := by
  refine ⟨by simp, fun j hj => by omega, fun j hj => ⟨0, ?_⟩⟩
  rw [Array.getElem?_replicate, if_pos hj]
set_option maxRecDepth 100000 in
theorem square_results {tmps : Array Value} {w : World} {b : Nat} {cs : Array Value} {t : TypeId} (h2 : tmps[2]? = some (.pointer (some ⟨b, 0, none⟩))) (hb : Blk w b cs t) (hc : cs.size = 32) :
    (results Tryz.f187 tmps).run Tryz.prog w = .ok (.agg cs) w := by
  exact results_cell rfl h2 (run_loadVar_row (P := Tryz.prog) w b t 247 cs (0, 0) _ hb Tryz.underlying247 rfl (by rw [info_mat, hc]))
set_option maxRecDepth 100000 in
set_option maxHeartbeats 1000000 in
theorem square_any {L : Nat → Nat} (hL : Lin L) (b : Nat) (w : World) (hb : b < w.heap.size) (hm : MatAt w b L) :
    Calls Tryz.prog 187 #[.pointer (some ⟨b, 0, none⟩)] w fun e w' => e = .returned (.agg (matC fun v => L (L v))) ∧ Below w.heap.size w w' := by
  have hM : ∀ (w' : World), Below w.heap.size w w' → MatAt w' b L := fun w' hw i hi => (hw.cell (p := ⟨b, i, none⟩) hb).trans (hm i hi)
  obtain ⟨X, hX⟩ : ∃ x, x = (w.alloc (.cells (Array.replicate 32 (.int .u32 0)) 247)).alloc (.cells (Array.replicate 32 (.int .u32 0)) 247) := ⟨_, rfl⟩
  have hbX : Below w.heap.size w X := by rw [hX]; exact ((Below.refl _ _).alloc (Nat.le_refl _) _).alloc (by simp) _
  have b1 : Blk X w.heap.size (Array.replicate 32 (.int .u32 0)) 247 := by rw [hX]; exact (Blk.new w _ _).alloc _
  have b2 : Blk X (w.heap.size + 1) (Array.replicate 32 (.int .u32 0)) 247 := by rw [hX]; exact Blk.newAt _ _ (by simp)
  have hs : X.heap.size = w.heap.size + 2 := by rw [hX]; simp
  have hRep : Array.replicate 32 (Value.int .u32 0) = #[.int .u32 0, .int .u32 0, .int .u32 0, .int .u32 0, .int .u32 0, .int .u32 0, .int .u32 0, .int .u32 0, .int .u32 0, .int .u32 0, .int .u32 0, .int .u32 0, .int .u32 0, .int .u32 0, .int .u32 0, .int .u32 0, .int .u32 0, .int .u32 0, .int .u32 0, .int .u32 0, .int .u32 0, .int .u32 0, .int .u32 0, .int .u32 0, .int .u32 0, .int .u32 0, .int .u32 0, .int .u32 0, .int .u32 0, .int .u32 0, .int .u32 0, .int .u32 0] := rfl
  rw [hRep] at hX
  have HX := Lib.hid (And.intro hbX (And.intro b1 (And.intro b2 hs)))
  clear hbX b1 b2 hs hRep
  go_enter Tryz.func187, Tryz.ntmps187
  go_wp2
  rw [← hX]
  clear hX
  obtain ⟨hbX, b1, b2, hs⟩ := HX
  go_loopw [5] (fun iv wr => ∃ (i : Nat) (cs : Array Value), iv = .int .i64 i ∧ i ≤ 32 ∧ Blk wr (w.heap.size + 1) cs 247 ∧ Hid (Part cs (fun v => L (L v)) i) ∧ Blk wr w.heap.size (Array.replicate 32 (.int .u32 0)) 247 ∧ Below w.heap.size w wr) (fun iv _ => 32 - (intOf iv).toNat)
  case atStart => exact ⟨0, _, rfl, by omega, b2, Part.start _, b1, hbX⟩
  case round =>
    obtain ⟨i, cs, rfl, hi, bs, hp, br, hbw⟩ := hrel
    by_cases c : i < 32
    · have hmw := hM wr hbw
      have hc := hmw i c
      have hT := times_any hL b (L (2 ^ i)) wr (hL.lt _ (Nat.lt_of_lt_of_le (Nat.pow_lt_pow_right (by decide) c) (by decide))) hmw
      obtain ⟨n, hn⟩ := hp.out.2.2 i c
      have hcell := bs.cell i
      rw [hn] at hcell
      have hfree := bs.free i
      have hi32 : (i : Int) < 32 := by omega
      have hw1 : IntKind.i64.wrap ((i : Int) + 1) = (i : Int) + 1 := IntWalk.i64_in _ (by omega)
      have HE := Lib.hid (show Blk (wr.setCell ⟨w.heap.size + 1, i, none⟩ (.int .u32 (L (L (2 ^ i)) : Nat))) (w.heap.size + 1) (cs.setIfInBounds i (.int .u32 (L (L (2 ^ i)) : Nat))) 247 ∧ Part (cs.setIfInBounds i (.int .u32 (L (L (2 ^ i)) : Nat))) (fun v => L (L v)) (i + 1) ∧ Blk (wr.setCell ⟨w.heap.size + 1, i, none⟩ (.int .u32 (L (L (2 ^ i)) : Nat))) w.heap.size (Array.replicate 32 (.int .u32 0)) 247 ∧ Below w.heap.size w (wr.setCell ⟨w.heap.size + 1, i, none⟩ (.int .u32 (L (L (2 ^ i)) : Nat))) from
        ⟨bs.setAt i _, hp.out.set c, br.same (Below.heap_setCell _ _ _ _ (by show w.heap.size ≠ w.heap.size + 1; omega)), hbw.setCell (by show w.heap.size ≤ w.heap.size + 1; omega) _⟩)
      clear bs hp br hbw hM b1 b2 hbX hmw hn
      go_wp2_with (go_at_call 186; refine hT.mono ?_; rintro e w1 ⟨rfl, rfl⟩)
      go_roundw
      case rel => exact ⟨i + 1, _, rfl, by omega, HE.out.1, HE.out.2.1, HE.out.2.2.1, HE.out.2.2.2⟩
      case measure => simp only [intOf]; omega
    · obtain rfl : i = 32 := by omega
      have hcs := hp.out.all
      subst hcs
      have hl := load_arr (ty := 247) bs Tryz.underlying247 (by rw [info_mat, matC_size])
      have hst := store_row (ty := 247) (ys := matC fun v => L (L v)) br (by rw [info_mat, matC_size]) (by rw [matC_size]; rfl) (by simp [matC, Value.oneCell'])
      have hr := br.setRow (matC fun v => L (L v))
      obtain ⟨Y, hY⟩ : ∃ y, y = wr.setRow w.heap.size (matC fun v => L (L v)) := ⟨_, rfl⟩
      have hbY : Below w.heap.size w Y := by rw [hY]; exact below_setRow hbw (Nat.le_refl _) _
      rw [← hY] at hst hr
      generalize hmc : (matC fun v => L (L v)) = mc at *
      have hmcs : mc.size = 32 := by rw [← hmc, matC_size]
      have hbY := Lib.hid hbY
      have hR := Lib.hid hr
      have HM := Lib.hid hmc
      clear hmc hY hM b1 b2 hbX bs hp br hbw hr
      go_wp2_with (first | (refine wpList_load_run _ rfl (.tmp 3) 247 rfl _ hl ?_) | (refine wpList_store_run _ rfl (.tmp 2) (.tmp 18) 247 rfl Y hst ?_))
      exact bodyPost_ret (square_results rfl hR.out hmcs) rfl ⟨by rw [← HM.out], hbY.out⟩
set_option maxRecDepth 100000 in
set_option maxHeartbeats 2000000 in
theorem behind_any (v0 n0 : Nat) (w : World) (hv0 : v0 < 4294967296) (hn0 : n0 ≤ 1000000000000) (hw : KVars w) :
    Calls Tryz.prog 182 #[.int .u32 v0, .int .i64 n0] w fun e w' => e = .returned (.int .u32 (zN v0 n0 : Nat)) ∧ Below w.heap.size w w' := by
  obtain ⟨T, hT⟩ : ∃ T, T = zN v0 n0 := ⟨_, rfl⟩
  rw [← hT]
  have hT := Lib.hid hT
  obtain ⟨X, hX⟩ : ∃ x, x = w.alloc (.cells (Array.replicate 32 (.int .u32 0)) 247) := ⟨_, rfl⟩
  have hbX : Below w.heap.size w X := by rw [hX]; exact (Below.refl _ _).alloc (Nat.le_refl _) _
  have b1 : Blk X w.heap.size (Array.replicate 32 (.int .u32 0)) 247 := by rw [hX]; exact Blk.new w _ _
  have hRep : Array.replicate 32 (Value.int .u32 0) = #[.int .u32 0, .int .u32 0, .int .u32 0, .int .u32 0, .int .u32 0, .int .u32 0, .int .u32 0, .int .u32 0, .int .u32 0, .int .u32 0, .int .u32 0, .int .u32 0, .int .u32 0, .int .u32 0, .int .u32 0, .int .u32 0, .int .u32 0, .int .u32 0, .int .u32 0, .int .u32 0, .int .u32 0, .int .u32 0, .int .u32 0, .int .u32 0, .int .u32 0, .int .u32 0, .int .u32 0, .int .u32 0, .int .u32 0, .int .u32 0, .int .u32 0, .int .u32 0] := rfl
  rw [hRep] at hX
  have HX := Lib.hid (And.intro hbX b1)
  clear hbX b1 hRep
  go_enter Tryz.func182, Tryz.ntmps182
  go_wp2
  rw [← hX]
  clear hX
  obtain ⟨hbX, b1⟩ := HX
  go_loopw [7] (fun iv wr => ∃ (i : Nat) (cs : Array Value), iv = .int .i64 i ∧ i ≤ 32 ∧ Blk wr w.heap.size cs 247 ∧ Hid (Part cs (fun v => zN v 1) i) ∧ Below w.heap.size w wr) (fun iv _ => 32 - (intOf iv).toNat)
  case atStart => exact ⟨0, _, rfl, by omega, b1, Part.start _, hbX⟩
  case round =>
    obtain ⟨i, cs, rfl, hi, bs, hp, hbw⟩ := hrel
    by_cases c : i < 32
    · have hpl : 2 ^ i < 4294967296 := Nat.lt_of_lt_of_le (Nat.pow_lt_pow_right (by decide) c) (by decide)
      have hS := step_any (2 ^ i) 0 wr hpl (hw.below hbw)
      have hzN : stepB (2 ^ i) 0 = zN (2 ^ i) 1 := rfl
      rw [hzN] at hS
      have hS : Calls Tryz.prog 161 #[.int .u32 (2 ^ i : Nat), .int .u8 0] wr fun e w' => e = .returned (.int .u32 (zN (2 ^ i) 1 : Nat)) ∧ wr = w' := hS
      have hpi : (2 : Int) ^ i % 4294967296 = ((2 ^ i : Nat) : Int) := by
        have : (2 : Int) ^ i = ((2 ^ i : Nat) : Int) := by push_cast; rfl
        rw [this]
        exact (fun (q : Nat) (hq : q < 4294967296) => (by omega : (q : Int) % 4294967296 = q)) _ hpl
      obtain ⟨n, hn⟩ := hp.out.2.2 i c
      have hcell := bs.cell i
      rw [hn] at hcell
      have hfree := bs.free i
      have hi32 : (i : Int) < 32 := by omega
      have hw1 : IntKind.i64.wrap ((i : Int) + 1) = (i : Int) + 1 := IntWalk.i64_in _ (by omega)
      have HE := Lib.hid (show Blk (wr.setCell ⟨w.heap.size, i, none⟩ (.int .u32 (zN (2 ^ i) 1 : Nat))) w.heap.size (cs.setIfInBounds i (.int .u32 (zN (2 ^ i) 1 : Nat))) 247 ∧ Part (cs.setIfInBounds i (.int .u32 (zN (2 ^ i) 1 : Nat))) (fun v => zN v 1) (i + 1) ∧ Below w.heap.size w (wr.setCell ⟨w.heap.size, i, none⟩ (.int .u32 (zN (2 ^ i) 1 : Nat))) from
        ⟨bs.setAt i _, hp.out.set c, hbw.setCell (Nat.le_refl _) _⟩)
      generalize zN (2 ^ i) 1 = z at *
      generalize (2 ^ i : Nat) = pw at *
      clear bs hp hbw b1 hbX hn hw hzN
      go_wp2_with (go_at_call 161; refine hS.mono ?_; rintro e w1 ⟨rfl, rfl⟩)
      go_roundw
      case rel => exact ⟨i + 1, _, rfl, by omega, HE.out.1, HE.out.2.1, HE.out.2.2⟩
      case measure => simp only [intOf]; omega
    · obtain rfl : i = 32 := by omega
      have hcs := hp.out.all
      subst hcs
      clear hp b1 hbX
      rw [show ((32 : Nat) : Int) = 32 from rfl]
      go_wp2
      go_loopw [0, 1] (fun vv nv wx => ∃ v n k : Nat, vv = .int .u32 v ∧ nv = .int .i64 n ∧ v < 4294967296 ∧ n ≤ 1000000000000 ∧ Hid (zN v (k * n) = T) ∧ Blk wx w.heap.size (matC fun v => zN v k) 247 ∧ Below w.heap.size w wx) (fun _ nv _ => (intOf nv).toNat)
      case atStart => exact ⟨v0, n0, 1, rfl, rfl, hv0, hn0, by unfold Hid; rw [Nat.one_mul]; exact hT.out.symm, bs, hbw⟩
      case round =>
        obtain ⟨v, n, k, rfl, rfl, hv, hn, hz, bm, hbx⟩ := hrel
        by_cases hn0' : n = 0
        · subst hn0'
          have hf : v = T := by rw [← hz.out, Nat.mul_zero]; rfl
          have hfin := Lib.hid hbx
          clear hz bm hbx hT bs hbw hv hn
          subst hf
          go_wp2
          go_ret
          exact ⟨rfl, hfin.out⟩
        · have hq : (0 : Int) < (n : Int) := by omega
          have hlz := lin_z k
          have hmt := MatAt.of bm
          have hT1 := times_any hlz w.heap.size v wr hv hmt
          have hS := square_any hlz w.heap.size wr bm.lt hmt
          have hmm : (matC fun v => zN (zN v k) k) = matC fun v => zN v (2 * k) := by
            congr 1
            funext v
            rw [← zN_add]; congr 1; omega
          rw [hmm] at hS
          obtain ⟨mc, hmc⟩ : ∃ mc, mc = matC fun v => zN v (2 * k) := ⟨_, rfl⟩
          rw [← hmc] at hS
          have hms : mc.size = 32 := by rw [hmc, matC_size]
          have hone : mc.all (·.oneCell') = true := by rw [hmc]; simp [matC, Value.oneCell']
          have hnd : n / 2 < n := by omega
          have hn2 : n / 2 ≤ 1000000000000 := by omega
          have HST := Lib.hid (fun (w2 : World) (hb2 : Below wr.heap.size wr w2) => (show ∃ Y, (Instr.storeAt 247 (.pointer (some ⟨w.heap.size, 0, none⟩)) (.agg mc)).run Tryz.prog w2 = .ok () Y ∧ Blk Y w.heap.size (matC fun v => zN v (2 * k)) 247 ∧ Below w.heap.size w Y from by
            have bm2 := bm.same (hb2.block _ bm.lt)
            have hb3 : Below w.heap.size w w2 := hbx.trans ⟨hb2.os, hb2.tape, hb2.output, hb2.size, fun k hk => hb2.block k (Nat.lt_of_lt_of_le hk hbx.size)⟩
            exact ⟨_, store_row (ty := 247) (ys := mc) bm2 (by rw [info_mat, hms]) (by rw [matC_size, hms]) hone, by rw [← hmc]; exact bm2.setRow mc, below_setRow hb3 (Nat.le_refl _) _⟩))
          have hnd := Lib.hid hnd
          have hn2 := Lib.hid hn2
          have hvv := Lib.hid (hlz.lt v hv)
          have hv' := Lib.hid hv
          have ha1 := i64_and1 (n : Int)
          rcases Nat.mod_two_eq_zero_or_one n with e | e
          · have e1 : ((n : Int) % 2 == 1) = false := by rw [show (n : Int) % 2 = 0 by omega]; rfl
            have HR := Lib.hid (show zN v (2 * k * (n / 2)) = T by
              rw [← hz.out]; congr 1
              have : n = 2 * (n / 2) := by omega
              conv => rhs; rw [this]
              rw [Nat.mul_comm 2 k, Nat.mul_assoc])
            clear hz bm hbx hT bs hbw hv hn hmm hmc hlz hmt e hT1 hone
            go_wp2_with (first | (go_at_call 187; refine hS.mono ?_; rintro e w2 ⟨rfl, hb2⟩; obtain ⟨Y, hst, HB2⟩ := (show _ from HST.out) w2 hb2; have HB2 := Lib.hid HB2) | (refine wpList_store_run _ rfl (.tmp 5) (.tmp 25) 247 rfl Y hst ?_))
            go_roundw
            case rel => exact ⟨v, n / 2, 2 * k, rfl, congrArg _ (by omega), hv'.out, hn2.out, HR, HB2.out.1, HB2.out.2⟩
            case measure => have := hnd.out; simp only [intOf]; omega
          · have e1 : ((n : Int) % 2 == 1) = true := by rw [show (n : Int) % 2 = 1 by omega]; rfl
            have HR := Lib.hid (show zN (zN v k) (2 * k * (n / 2)) = T by
              rw [← hz.out, ← zN_add]; congr 1
              have : n = 2 * (n / 2) + 1 := by omega
              conv => rhs; rw [this]
              rw [Nat.mul_add, Nat.mul_one, ← Nat.mul_assoc, Nat.mul_comm k 2]; omega)
            generalize zN v k = vk at *
            clear hz bm hbx hT bs hbw hv hn hmm hmc hlz hmt e hone
            go_wp2_with (first | (go_at_call 186; refine hT1.mono ?_; rintro e w1 ⟨rfl, rfl⟩) | (go_at_call 187; refine hS.mono ?_; rintro e w2 ⟨rfl, hb2⟩; obtain ⟨Y, hst, HB2⟩ := (show _ from HST.out) w2 hb2; have HB2 := Lib.hid HB2) | (refine wpList_store_run _ rfl (.tmp 5) (.tmp 25) 247 rfl Y hst ?_))
            go_roundw
            case rel => exact ⟨vk, n / 2, 2 * k, rfl, congrArg _ (by omega), hvv.out, hn2.out, HR, HB2.out.1, HB2.out.2⟩
            case measure => have := hnd.out; simp only [intOf]; omega
set_option maxRecDepth 100000 in
theorem join_any (a b : List UInt8) (w : World) (hb : b.length ≤ 1000000000000) (hw : KVars w) :
    Calls Tryz.prog 178 #[.int .u32 (crc a), .int .u32 (crc b), .int .i64 b.length] w fun e w' => e = .returned (.tuple #[.int .u32 (crc (a ++ b)), .int .i64 0]) ∧ Below w.heap.size w w' := by
  have hj := crc_join a b
  have ha := crc_lt a
  have hbl := crc_lt b
  have hz := zN_lt ha b.length
  have HB := behind_any (crc a) b.length w ha hb hw
  generalize crc a = x at *
  generalize crc b = y at *
  generalize crc (a ++ b) = z at *
  generalize zN x b.length = t at *
  subst hj
  have hx : bits .xor .u32 (t : Int) (y : Int) = ((t ^^^ y : Nat) : Int) := Go.u32_xor_nat _ _ hz hbl
  have h1 : ¬ (b.length : Int) < 0 := by omega
  have h2 : ¬ (1099511627776 : Int) < (b.length : Int) := by omega
  go_enter Tryz.func178, Tryz.ntmps178
  go_wp2_with (go_at_call 182; refine HB.mono ?_; rintro e w1 ⟨rfl, hb1⟩)
  go_ret2
  exact ⟨rfl, hb1⟩
end Ck
end Go.Proofs.YtegplehbcdeeoaaGreatDoor
