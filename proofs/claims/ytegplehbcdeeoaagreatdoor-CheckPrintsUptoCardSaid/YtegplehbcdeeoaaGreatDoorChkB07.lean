/- Numbers written into bytes. -/
import Derived.Test.YtegplehbcdeeoaaGreatDoorChkB06
import Derived.Test.YtegplehbcdeeoaaGreatDoorChkB04
import Derived.WalkSpells
import Derived.Lib.ConvBytes
import Derived.Lib.SmallJoins
import Derived.Lib.BufferWrite
import Derived.Deep.CutBlock
import Derived.Deep.DeepCutAuto
import Derived.Test.YtegplehbcdeeoaaGreatDoorChkB03
import Derived.StillTailTactics
namespace Go.Proofs.YtegplehbcdeeoaaGreatDoor
open Go.RowKit

namespace Ck
open Pk Pw
/-- Bytes as a block's cells. -/
def bytesC (l : B) : Array Value := (bytesV l).toArray
theorem bytesC_size (l : B) : (bytesC l).size = l.length := by simp [bytesC, bytesV]
theorem bytesC_get (l : B) (j : Nat) : (bytesC l)[j]? = (l[j]?).map fun c => Value.int .u8 c.toNat := by simp [bytesC, bytesV]
theorem bytesC_one (l : B) : (bytesC l).all (·.oneCell') = true := by
  rw [Array.all_eq_true_iff_forall_mem]
  intro v hv
  exact bytesV_one l v (by simpa [bytesC] using hv)
theorem SeenAt.of_blk {w : World} {b : Nat} {l : B} {t : TypeId} (h : Blk w b (bytesC l) t) : SeenAt w b 0 l := fun j c hj => by
  rw [h.cell, Nat.zero_add, bytesC_get, hj]; rfl
/-- Bytes laid into others. -/
def lay (l : B) (i : Nat) (x : B) : B := l.take i ++ x ++ l.drop (i + x.length)
theorem lay_len {l x : B} {i : Nat} (h : i + x.length ≤ l.length) : (lay l i x).length = l.length := by
  unfold lay
  rw [List.length_append, List.length_append, List.length_take, List.length_drop]; omega
theorem lay_get {l x : B} {i : Nat} (h : i + x.length ≤ l.length) (j : Nat) : (lay l i x)[j]? = if i ≤ j ∧ j < i + x.length then x[j - i]? else l[j]? := by
  unfold lay
  by_cases h1 : j < i
  · rw [if_neg (by omega), List.append_assoc, List.getElem?_append_left (by rw [List.length_take]; omega), List.getElem?_take_of_lt h1]
  · by_cases h2 : j < i + x.length
    · rw [if_pos ⟨by omega, h2⟩, List.getElem?_append_left (by rw [List.length_append, List.length_take]; omega), List.getElem?_append_right (by rw [List.length_take]; omega), List.length_take, Nat.min_eq_left (by omega)]
    · rw [if_neg (by omega), List.getElem?_append_right (by rw [List.length_append, List.length_take]; omega), List.length_append, List.length_take, Nat.min_eq_left (by omega), List.getElem?_drop]
      congr 1; omega
theorem lay_nil (l : B) (i : Nat) : lay l i [] = l := by unfold lay; simp
theorem lay_step {l x : B} {i k : Nat} {c : UInt8} (h : i + x.length ≤ l.length) (hc : x[k]? = some c) : (bytesC (lay l i (x.take k))).setIfInBounds (i + k) (.int .u8 c.toNat) = bytesC (lay l i (x.take (k + 1))) := by
  have hk := (List.getElem?_eq_some_iff.1 hc).1
  have l1 : (x.take k).length = k := by rw [List.length_take]; omega
  have l2 : (x.take (k + 1)).length = k + 1 := by rw [List.length_take]; omega
  refine Array.ext_getElem? fun j => ?_
  rw [Array.getElem?_setIfInBounds, bytesC_get, bytesC_get, lay_get (by omega), lay_get (by omega), l1, l2, bytesC_size, lay_len (by omega)]
  by_cases e : i + k = j
  · subst e
    rw [if_pos rfl, if_pos (by omega), if_pos (by omega), List.getElem?_take_of_lt (by omega), show i + k - i = k by omega, hc]
    rfl
  · rw [if_neg e]
    by_cases e2 : i ≤ j ∧ j < i + k
    · rw [if_pos e2, if_pos (by omega), List.getElem?_take_of_lt (by omega), List.getElem?_take_of_lt (by omega)]
    · rw [if_neg e2, if_neg (by omega)]
theorem shr_byte (v k : Nat) : Value.int .u8 ((v : Int) / 2 ^ (8 * k) % 256) = .int .u8 ((UInt8.ofNat (v / 256 ^ k % 256)).toNat : Nat) := by
  rw [UInt8.toNat_ofNat']
  congr 1
  have : (256 : Nat) ^ k = 2 ^ (8 * k) := by rw [Nat.pow_mul]
  rw [this]
  have e : ((2 : Int) ^ (8 * k)) = ((2 ^ (8 * k) : Nat) : Int) := by simp
  rw [e]
  omega
theorem low_get {wd k : Nat} (v : Nat) (h : k < wd) : (low wd v)[k]? = some (UInt8.ofNat (v / 256 ^ k % 256)) := by
  unfold low
  rw [List.getElem?_map, List.getElem?_range h]; rfl
set_option maxRecDepth 100000 in
set_option maxHeartbeats 1000000 in
theorem put_at (l : B) (b cap at' n v : Nat) (t : TypeId) (w : World) (hwd : isW n) (hv : v < 256 ^ n) (hw : KVars w) (hb : Blk w b (bytesC l) t) (hl : at' + n ≤ l.length) (hle : l.length ≤ 1000000000000000) :
    Calls Tryz.prog 130 #[.slice (some ⟨b, 0, none⟩) l.length cap, .int .i64 at', .int .i64 n, .int .u64 v] w fun e w' => e = .returned (.int .i64 0) ∧ Blk w' b (bytesC (lay l at' (low n v))) t ∧ w.grownBy w' (some b) := by
  have HW := isWidth_any n hwd w hw
  have HL := lie_any _ (some ⟨b, 0, none⟩) l.length cap at' n w rfl hl hle
  have hn4 : n ≤ 4 := by rcases hwd with rfl | rfl | rfl <;> omega
  have hn8 : (n : Int) < 8 := by omega
  have hd' : (v : Int) / 2 ^ (8 * n) = 0 := by
    have h1 : v < 2 ^ (8 * n) := by rw [Nat.pow_mul]; exact hv
    have e : ((2 : Int) ^ (8 * n)) = ((2 ^ (8 * n) : Nat) : Int) := by simp
    rw [e]
    have h2 : v / 2 ^ (8 * n) = 0 := Nat.div_eq_of_lt h1
    omega
  have hln := low_len n v
  have h0 : lay l at' ((low n v).take 0) = l := by rw [List.take_zero, lay_nil]
  have hall : (low n v).take n = low n v := by rw [List.take_of_length_le (by omega)]
  have HB := Lib.hid (And.intro hb (And.intro h0 hall))
  clear hw hv hb h0 hall
  go_enter Tryz.func130, Tryz.ntmps130
  go_wp2_with (first | (go_at_call 127; refine HW.mono ?_; rintro e w' ⟨rfl, rfl⟩) | (go_at_call 128; refine HL.mono ?_; rintro e w' ⟨rfl, rfl⟩))
  go_loopw [32] (fun i wr => ∃ k : Nat, k ≤ n ∧ i = .int .i64 k ∧ Blk wr b (bytesC (lay l at' ((low n v).take k))) t ∧ w.grownBy wr (some b)) (fun i _ => n - (intOf i).toNat)
  case atStart => exact ⟨0, Nat.zero_le _, rfl, by rw [HB.out.2.1]; exact HB.out.1, World.grownBy.refl _ _⟩
  case round =>
    obtain ⟨k, hk, rfl, hown, hgr⟩ := hrel
    by_cases hlt : k < n
    · have hc := low_get v hlt
      have HS := Lib.hid (lay_step (l := l) (x := low n v) (i := at') (k := k) (by omega) hc)
      have hlk : ((low n v).take k).length = k := by rw [List.length_take]; omega
      have hsz : (bytesC (lay l at' ((low n v).take k))).size = l.length := by rw [bytesC_size, lay_len (by omega)]
      obtain ⟨u, hu⟩ : ∃ u, (bytesC (lay l at' ((low n v).take k)))[at' + k]? = some u := ⟨_, Array.getElem?_eq_getElem (by omega)⟩
      have hcell := hown.cell (at' + k)
      rw [hu] at hcell
      have hfree := hown.free (at' + k)
      have hki : (k : Int) < (n : Int) := by omega
      have hka : IntKind.i64.wrap ((at' : Int) + k) = ((at' + k : Nat) : Int) := by rw [IntWalk.i64_in _ (by omega)]; omega
      have hlo : ((at' + k : Nat) : Int) < (l.length : Int) := by omega
      have HR := Lib.hid (And.intro hown hgr)
      clear hown hgr hu hlk hsz hln hc
      go_wp2
      go_roundw
      case rel => exact ⟨k + 1, by omega, rfl, by rw [shr_byte, ← HS.out]; exact HR.out.1.setAt _ _, HR.out.2.trans ⟨rfl, rfl, rfl, by simp [World.setCell], fun i _ hi => Below.heap_setCell _ _ _ _ (fun e => hi (by rw [e]))⟩⟩
      case measure => simp only [intOf]; omega
    · obtain rfl : k = n := by omega
      have hall := HB.out.2.2
      rw [hall] at hown
      have HR := Lib.hid (And.intro hown hgr)
      clear hown hgr hall HW HL
      go_wp2
      go_ret
      exact ⟨rfl, HR.out.1, HR.out.2⟩
theorem info_u8z : (Tryz.prog.info? 5).map (fun i => (i.zero, i.size, i.bytes)) = some (some (.int .u8 0), 1, 1) := by kernel_rfl
theorem made_zeros (n : Nat) : madeCells #[.int .u8 0] n = bytesC (zs n) := by
  refine Array.ext_getElem? fun j => ?_
  rw [bytesC_get]
  unfold madeCells zs
  rw [Array.getElem?_map]
  by_cases h : j < n
  · rw [Array.getElem?_eq_getElem (by simpa using h), List.getElem?_replicate, if_pos h]
    simp [Nat.mod_one]
  · rw [Array.getElem?_eq_none (by simp; omega), List.getElem?_replicate, if_neg h]; rfl
/-- A row of zeros, made. -/
theorem make_row (n : Nat) (hn : n ≤ 1000000000000) (W : World) : (Instr.makeSlice 24 (.int .i64 n) (.int .i64 n)).run Tryz.prog W = .ok (.slice (some ⟨W.heap.size, 0, none⟩) n n) (W.alloc (.cells (bytesC (zs n)) 5)) := by
  have h := info_u8z
  cases hi : Tryz.prog.info? 5 with
  | none => rw [hi] at h; cases h
  | some i =>
    rw [hi] at h
    simp only [Option.map_some, Option.some.injEq, Prod.mk.injEq] at h
    obtain ⟨hz, hs, hb⟩ := h
    have := run_make (P := Tryz.prog) W 24 5 i _ Tryz.underlying24 hi hz .i64 .i64 n n (by omega) (by omega) (by rw [hb]; omega) (by omega)
    rw [hs] at this
    rw [← made_zeros]
    simp only [Int.toNat_natCast, Nat.mul_one] at this
    exact this
/-- A block's bytes. -/
def zs512 : B := zs 512
theorem make512 (W : World) : (Instr.makeSlice 24 (.int .i64 512) (.int .i64 512)).run Tryz.prog W = .ok (.slice (some ⟨W.heap.size, 0, none⟩) 512 512) (W.alloc (.cells (bytesC zs512) 5)) := make_row 512 (by omega) W
/-- A make that is known. -/
theorem wpList_make_run {P : Program} (w : World) {ops : Array Oper} {rest : List Oper} {o : Oper} {a : Act} {Q : Exit → Act → World → Prop}
    (hg : o.guard = none) (t : TypeId) (l c : Operand) (hop : o.op = Op.makeSlice t l c) (v : Value) (w' : World) (hrun : (Instr.makeSlice t (a.eval l) (a.eval c)).run P w = .ok v w') (hK : wpList P ops Q rest (a.put o.dst v) w') : wpList P ops Q (o :: rest) a w := by
  refine wpList_plain hg fun K' hK' => ?_
  unfold Oper.wp
  simp [execOp, hop, hrun, Result.andThen]
  exact hK' _ _ hK
end Ck
end Go.Proofs.YtegplehbcdeeoaaGreatDoor
/- The geometry and the super block. -/
namespace Go.Proofs.YtegplehbcdeeoaaGreatDoor
open Go.RowKit

namespace Ck
open Pk Pw
/-- The regions of a disk of n blocks. -/
def geo (n : Int) : Value := .agg #[.int .i64 n, .int .i64 98, .int .i64 (98 + (n + 4095) / 4096), .int .i64 (98 + (n + 4095) / 4096 + n / 64), .int .i64 (n / 64 * 8)]
def geo0 : Value := .agg #[.int .i64 0, .int .i64 0, .int .i64 0, .int .i64 0, .int .i64 0]

set_option maxRecDepth 100000 in
theorem of_bad (n : Int) (w : World) (h : n < 128 ∨ 16384 < n) :
    Calls Tryz.prog 52 #[.int .i64 n] w fun e w' => e = .returned (.tuple #[geo0, .int .i64 70]) ∧ Below w.heap.size w w' := by
  rcases h with h | h
  · go_enter Tryz.func52, Tryz.ntmps52
    go_wp2
    exact bodyPost_ret (v := .tuple #[geo0, .int .i64 70]) (by simp [results, Tryz.results52, go_sem, geo0]) rfl ⟨rfl, (Below.refl _ _).alloc (Nat.le_refl _) _⟩
  · have h' : ¬ n < 128 := by omega
    go_enter Tryz.func52, Tryz.ntmps52
    go_wp2
    exact bodyPost_ret (v := .tuple #[geo0, .int .i64 70]) (by simp [results, Tryz.results52, go_sem, geo0]) rfl ⟨rfl, (Below.refl _ _).alloc (Nat.le_refl _) _⟩

set_option maxRecDepth 100000 in
theorem of_good (n : Int) (w : World) (h1 : 128 ≤ n) (h2 : n ≤ 16384) :
    Calls Tryz.prog 52 #[.int .i64 n] w fun e w' => e = .returned (.tuple #[geo n, .int .i64 0]) ∧ Below w.heap.size w w' := by
  have a1 : ¬ n < 128 := by omega
  have a2 : ¬ 16384 < n := by omega
  go_enter Tryz.func52, Tryz.ntmps52
  go_wp2
  have e : (n + 4096 - 1) / 4096 = (n + 4095) / 4096 := by congr 1; omega
  refine bodyPost_ret (v := .tuple #[geo n, .int .i64 0]) (by simp [results, Tryz.results52, go_sem, geo, e]) rfl ⟨rfl, ?_⟩
  exact (((Below.refl _ _).alloc (Nat.le_refl _) _).alloc (by simp) _).alloc (by simp; omega) _
theorem copy_str {P : Program} (w : World) (dT sT ty elem : TypeId) (g o dLen dCap : Nat) (s : ByteArray) (cur : Array Value) (t : TypeId)
    (hu : P.underlying dT = some (.slice elem)) (hs : (P.info? elem).map (·.size) = some 1) (hg : w.heap[g]? = some (.cells cur t (0, 0))) (hfit : o + min s.size dLen ≤ cur.size) :
    (Builtin.copy_ #[dT, sT] ty #[.slice (some ⟨g, o, none⟩) dLen dCap, .string s]).run P w =
      .ok (goInt (min s.size dLen : Nat)) (w.setRow g (cur.toList.take o ++ (Lib.byteCells s.data.toList).take (min s.size dLen) ++ cur.toList.drop (o + min s.size dLen)).toArray) := by
  have hlen : ((Lib.byteCells s.data.toList).take (min s.size dLen)).length = min s.size dLen := by
    rw [List.length_take, Lib.byteCells_length]
    have : s.data.toList.length = s.size := rfl
    omega
  have hst := run_storeCells_at P g o t ((Lib.byteCells s.data.toList).take (min s.size dLen)) 0 cur w hg (by rw [hlen]; simpa using hfit) (fun v hv => Lib.byteCells_one _ v (List.mem_of_mem_take hv))
  rw [hlen] at hst
  simp only [Nat.add_zero] at hst
  cases hq : P.info? elem with
  | none => simp [hq] at hs
  | some i =>
    simp [Builtin.copy_, run_underlying hu, Builtin.lenOf, Builtin.firstCells, Go.sizeOf, typeInfo, hq]
    rw [show List.take (s.size.min dLen) (List.map (fun b : UInt8 => Value.int IntKind.u8 (b.toNat : Int)) s.data.toList) = (Lib.byteCells s.data.toList).take (min s.size dLen) from rfl, hst]
    simp [Result.andThen]
theorem ahead_any (l : B) (g o cap : Nat) (w : World) (hs : SeenAt w g o l) (hle : l.length ≤ 1000000000000000) (hz : ∀ c ∈ l, c ≠ 0) :
    Calls Tryz.prog 160 #[.slice (some ⟨g, o, none⟩) l.length cap] w fun e w' => e = .returned (.int .i64 l.length) ∧ w = w' := by
  go_enter Tryz.func160, Tryz.ntmps160
  go_wp2
  go_loop [7] (fun i => ∃ k : Nat, k ≤ l.length ∧ i = .int .i64 k) (fun i => l.length - (intOf i).toNat)
  case atStart => exact ⟨0, Nat.zero_le _, rfl⟩
  case round =>
    obtain ⟨k, hk, rfl⟩ := hrel
    by_cases hlt : k < l.length
    · obtain ⟨c, hc⟩ : ∃ c, l[k]? = some c := ⟨_, List.getElem?_eq_getElem hlt⟩
      have hcell := hs k c hc
      have hki : (k : Int) < (l.length : Int) := by omega
      have hq : ((c.toNat : Int) == 0) = false := by
        rw [beq_eq_false_iff_ne]
        intro e
        exact hz c (List.mem_of_getElem? hc) (UInt8.toNat_inj.1 (by show c.toNat = 0; omega))
      clear hc hs hz
      go_wp2
      go_round
      case rel => exact ⟨k + 1, by omega, by go_num⟩
      case measure => simp [intOf]; omega
    · obtain rfl : k = l.length := by omega
      go_wp2
      go_ret
      exact ⟨rfl, rfl⟩
def magicS : B := [66, 79, 76, 69, 70, 83, 48, 49]
set_option maxRecDepth 100000 in
set_option maxHeartbeats 1000000 in
theorem putMagic (b : Nat) (t : TypeId) (w : World) (hb : Blk w b (bytesC (zs 512)) t) :
    Calls Tryz.prog 129 #[.slice (some ⟨b, 0, none⟩) 512 512, .int .i64 0, .int .i64 8, .string ⟨#[66, 79, 76, 69, 70, 83, 48, 49]⟩] w fun e w' => e = .returned (.int .i64 0) ∧ Blk w' b (bytesC (lay (zs 512) 0 magicS)) t ∧ w.grownBy w' (some b) := by
  have hconv := Lib.run_convert_string_bytes (P := Tryz.prog) w 9 24 5 ⟨#[66, 79, 76, 69, 70, 83, 48, 49]⟩ Tryz.underlying9 Tryz.underlying24 Tryz.underlying5
  have HL := fun w => lie_any _ (some ⟨b, 0, none⟩) 512 512 0 8 w rfl (by omega) (by omega)
  go_enter Tryz.func129, Tryz.ntmps129
  have hW : Blk (Lib.bytesWorld w 5 ⟨#[66, 79, 76, 69, 70, 83, 48, 49]⟩) b (bytesC (zs 512)) t := hb.same ((Go.Joins.below_bytesWorld w.heap.size w 5 ⟨#[66, 79, 76, 69, 70, 83, 48, 49]⟩ (Nat.le_refl _)).block _ hb.lt)
  have hBW := Go.Joins.below_bytesWorld w.heap.size w 5 ⟨#[66, 79, 76, 69, 70, 83, 48, 49]⟩ (Nat.le_refl _)
  have hS : SeenAt (Lib.bytesWorld w 5 ⟨#[66, 79, 76, 69, 70, 83, 48, 49]⟩) w.heap.size 0 magicS := fun j c hj => by
    have hj8 : j < 8 := (List.getElem?_eq_some_iff.1 hj).1
    rw [Nat.zero_add, Lib.bytesWorld_cell w _ ⟨#[66, 79, 76, 69, 70, 83, 48, 49]⟩ j hj8]
    have : (([66, 79, 76, 69, 70, 83, 48, 49] : List UInt8).getD j 0) = c := by
      rw [List.getD_eq_getElem?_getD, show ([66, 79, 76, 69, 70, 83, 48, 49] : List UInt8)[j]? = some c from hj]; rfl
    show some (Value.int .u8 (([66, 79, 76, 69, 70, 83, 48, 49] : List UInt8).getD j 0).toNat) = _
    rw [this]
  have HA : Calls Tryz.prog 160 #[.slice (some ⟨w.heap.size, 0, none⟩) 8 (grownCap w 8 0 5)] (Lib.bytesWorld w 5 ⟨#[66, 79, 76, 69, 70, 83, 48, 49]⟩) fun e w' => e = .returned (.int .i64 8) ∧ (Lib.bytesWorld w 5 ⟨#[66, 79, 76, 69, 70, 83, 48, 49]⟩) = w' :=
    ahead_any magicS w.heap.size 0 _ _ hS (by decide) (by decide)
  obtain ⟨X, hX⟩ : ∃ X, X = Lib.bytesWorld w 5 ⟨#[66, 79, 76, 69, 70, 83, 48, 49]⟩ := ⟨_, rfl⟩
  rw [← hX] at hW hBW HA
  have hcp := fun ty => copy_str (P := Tryz.prog) X 24 9 ty 5 b 0 8 512 ⟨#[66, 79, 76, 69, 70, 83, 48, 49]⟩ _ t Tryz.underlying24 (by kernel_rfl) hW (by rw [bytesC_size]; decide)
  have hrow : ((bytesC (zs 512)).toList.take 0 ++ (Lib.byteCells (⟨#[66, 79, 76, 69, 70, 83, 48, 49]⟩ : ByteArray).data.toList).take (min (⟨#[66, 79, 76, 69, 70, 83, 48, 49]⟩ : ByteArray).size 8) ++ (bytesC (zs 512)).toList.drop (0 + min (⟨#[66, 79, 76, 69, 70, 83, 48, 49]⟩ : ByteArray).size 8)).toArray = bytesC (lay (zs 512) 0 magicS) := by kernel_rfl
  rw [hrow] at hcp
  have hmin : goInt (min (⟨#[66, 79, 76, 69, 70, 83, 48, 49]⟩ : ByteArray).size 8 : Nat) = .int .i64 8 := rfl
  rw [hmin] at hcp
  obtain ⟨Y, hY⟩ : ∃ Y, Y = X.setRow b (bytesC (lay (zs 512) 0 magicS)) := ⟨_, rfl⟩
  have hYb : Blk Y b (bytesC (lay (zs 512) 0 magicS)) t := by rw [hY]; exact hW.setRow _
  have hYg : w.grownBy Y (some b) := by
    rw [hY]
    exact ⟨hBW.os, hBW.tape, hBW.output, by rw [setRow_size]; exact hBW.size, fun k hk hn => (setRow_heap _ _ _ _ (fun e => hn (by rw [e]))).trans (hBW.block k hk)⟩
  rw [← hY] at hcp
  have hcl : ∀ ty, (Builtin.clear_ #[24] ty #[.slice (some ⟨b, 8, none⟩) 0 504]).run Tryz.prog Y = .ok (.tuple #[]) Y := fun ty => by
    simp [Builtin.clear_, run_underlying Tryz.underlying24]
  have HR := Lib.hid (And.intro hYb hYg)
  clear hrow hmin hY hYb hYg hW hBW hS hb
  go_wp2_with (first | (go_at_call 160; rw [← hX]; refine HA.mono ?_; rintro e w1 ⟨rfl, rfl⟩; clear hX) | (go_at_call 128; refine (HL _).mono ?_; rintro e w1 ⟨rfl, rfl⟩))
  go_ret
  exact ⟨rfl, HR.out.1, HR.out.2⟩
theorem lay_app (A x : B) (m : Nat) : lay (A ++ zs (x.length + m)) A.length x = A ++ x ++ zs m := by
  unfold lay
  rw [List.take_left, List.drop_append, List.drop_of_length_le (by omega), List.nil_append, show A.length + x.length - A.length = x.length by omega]
  unfold zs
  rw [List.drop_replicate, show x.length + m - x.length = m by omega]
/-- A super block. -/
def superP (n : Nat) : B := magicS ++ low 4 n ++ low 4 (crc (magicS ++ low 4 n)) ++ zs 496
theorem super_len (n : Nat) : (superP n).length = 512 := by
  unfold superP
  rw [List.length_append, List.length_append, List.length_append, low_len, low_len]
  have h1 : magicS.length = 8 := rfl
  have h2 : (zs 496).length = 496 := List.length_replicate
  omega
set_option maxRecDepth 100000 in
theorem super_bad (n : Int) (w : World) (h : n < 128 ∨ 16384 < n) : Calls Tryz.prog 93 #[.int .i64 n] w fun e w' => e = .returned (.tuple #[.slice none 0 0, .int .i64 70]) ∧ Below w.heap.size w w' := by
  have HO := fun w => of_bad n w h
  clear h
  go_enter Tryz.func93, Tryz.ntmps93
  go_wp2_with fail
  refine (HO _).mono ?_
  rintro e w1 ⟨rfl, hb⟩
  have hs := hb.size
  unfold geo0
  go_wp2
  go_ret2
  exact ⟨rfl, hb.alloc hs _⟩
set_option maxRecDepth 100000 in
set_option maxHeartbeats 1000000 in
theorem super_good (n : Nat) (w : World) (h1 : 128 ≤ n) (h2 : n ≤ 16384) (hw : KVars w) : Calls Tryz.prog 93 #[.int .i64 n] w fun e w' => ∃ b, e = .returned (.tuple #[.slice (some ⟨b, 0, none⟩) 512 512, .int .i64 0]) ∧ Blk w' b (bytesC (superP n)) 5 ∧ w.heap.size ≤ b ∧ Below w.heap.size w w' := by
  go_enter Tryz.func93, Tryz.ntmps93
  go_wp2_with fail
  refine (of_good n _ (by omega) (by omega)).mono ?_
  rintro e w1 ⟨rfl, hb⟩
  have hs := hb.size
  unfold geo
  go_upto_region 5 with (refine wpList_make_run _ rfl 24 (.const (.int .i64 512)) (.const (.int .i64 512)) rfl _ _ (make512 _) ?_)
  obtain ⟨X, hX⟩ : ∃ X, X = (w1.alloc (.cells #[.int .i64 n, .int .i64 98, .int .i64 (98 + ((n : Int) + 4095) / 4096), .int .i64 (98 + ((n : Int) + 4095) / 4096 + (n : Int) / 64), .int .i64 ((n : Int) / 64 * 8)] 40)).alloc (.cells (bytesC zs512) 5) := ⟨_, rfl⟩
  rw [← hX]
  have hbX : Below w.heap.size w X := by rw [hX]; exact (hb.alloc hs _).alloc (by simp; omega) _
  have bX : Blk X (w1.heap.size + 1) (bytesC (zs 512)) 5 := by rw [hX]; exact Blk.newAt _ _ (by simp)
  clear hX
  obtain ⟨b, hbe⟩ : ∃ b, b = w1.heap.size + 1 := ⟨_, rfl⟩
  rw [← hbe]
  rw [← hbe] at bX
  have hwb : w.heap.size ≤ b := by omega
  clear hbe
  have hwX := hw.below hbX
  have HM := putMagic b 5 X bX
  clear bX
  go_wp2_with fail
  refine HM.mono ?_
  clear HM
  rintro e w2 ⟨rfl, b2, g2⟩
  have hb2 : Below w.heap.size w w2 := hbX.grown g2 hbX.size (fun k e => by cases e; exact hwb)
  obtain ⟨l2, hl2⟩ : ∃ l, l = magicS ++ zs 504 := ⟨_, rfl⟩
  rw [show lay (zs 512) 0 magicS = magicS ++ zs 504 from lay_app [] magicS 504, ← hl2] at b2
  have e2 : l2.length = 512 := by rw [hl2]; decide
  have HP := put_at l2 b 512 8 4 n 5 w2 (.inr (.inr rfl)) (by omega) (hw.below hb2) b2 (by omega) (by omega)
  rw [e2] at HP
  obtain ⟨l3, hl3⟩ : ∃ l, l = (magicS ++ low 4 n) ++ zs 500 := ⟨_, rfl⟩
  rw [show lay l2 8 (low 4 n) = l3 from by
    rw [hl2, hl3]
    have := lay_app magicS (low 4 n) 500
    rw [low_len] at this
    exact this] at HP
  have HP : Calls Tryz.prog 130 #[.slice (some ⟨b, 0, none⟩) 512 512, .int .i64 8, .int .i64 4, .int .u64 n] w2 fun e w' => e = .returned (.int .i64 0) ∧ Blk w' b (bytesC l3) 5 ∧ w2.grownBy w' (some b) := HP
  have e3 : l3.length = 512 := by rw [hl3, List.length_append, List.length_append, low_len]; rfl
  have hwn : IntKind.u64.wrap (n : Int) = n := by rw [IntKind.wrap_u64]; omega
  clear b2 hwX g2 e2
  go_wp2_with fail
  refine HP.mono ?_
  clear HP hwn
  rintro e w3 ⟨rfl, b3, g3⟩
  have hb3 : Below w.heap.size w w3 := hb2.grown g3 hb2.size (fun k e => by cases e; exact hwb)
  obtain ⟨h12, hh⟩ : ∃ h, h = magicS ++ low 4 n := ⟨_, rfl⟩
  have e12 : h12.length = 12 := by rw [hh, List.length_append, low_len]; rfl
  have S3 : SeenAt w3 b 0 h12 := fun j c hj => by
    have := SeenAt.of_blk b3 j c (by rw [hl3, ← hh, List.getElem?_append_left (by have := (List.getElem?_eq_some_iff.1 hj).1; exact this)]; exact hj)
    exact this
  have HO := of_at h12 b 0 512 w3 (by omega) S3 (hw.below hb3)
  rw [e12] at HO
  have hcl := crc_lt h12
  have HP := put_at l3 b 512 12 4 (crc h12) 5 w3 (.inr (.inr rfl)) (by omega) (hw.below hb3) b3 (by omega) (by omega)
  rw [e3] at HP
  rw [show lay l3 12 (low 4 (crc h12)) = superP n from by
    have := lay_app h12 (low 4 (crc h12)) 496
    rw [low_len, e12] at this
    rw [hl3, ← hh, this, hh]; rfl] at HP
  have HP : Calls Tryz.prog 130 #[.slice (some ⟨b, 0, none⟩) 512 512, .int .i64 12, .int .i64 4, .int .u64 (crc h12 : Nat)] w3 fun e w' => e = .returned (.int .i64 0) ∧ Blk w' b (bytesC (superP n)) 5 ∧ w3.grownBy w' (some b) := HP
  have hwn : IntKind.u64.wrap (crc h12 : Nat) = (crc h12 : Nat) := by rw [IntKind.wrap_u64]; omega
  clear b3 S3 e12 hh e3 hl3 hl2 g3
  generalize crc h12 = z at *
  generalize hSP : superP n = SP at *
  have hSP := Lib.hid hSP
  go_wp2_with (first | (go_at_call 131; refine HO.mono ?_; rintro e w4 ⟨rfl, rfl⟩) | (go_at_call 130; refine HP.mono ?_; rintro e w4 ⟨rfl, b4, g4⟩))
  go_ret2
  exact ⟨b, rfl, by rw [hSP.out]; exact b4, hwb, hb3.grown g4 hb3.size (fun k e => by cases e; exact hwb)⟩
end Ck
end Go.Proofs.YtegplehbcdeeoaaGreatDoor
/- The super block, read. -/
namespace Go.Proofs.YtegplehbcdeeoaaGreatDoor
open Go.RowKit

namespace Ck
open Pk Pw
def natsOf (l : B) : List Int := l.map fun c => (c.toNat : Int)
theorem bytes_nats (l : B) : Lib.bytesOf (natsOf l) = l := by
  unfold Lib.bytesOf natsOf
  rw [List.map_map]
  conv => rhs; rw [← List.map_id l]
  refine List.map_congr_left fun c _ => ?_
  show UInt8.ofNat ((c.toNat : Int)).toNat = c
  rw [Int.toNat_natCast, UInt8.ofNat_toNat]
theorem SeenAt.nats {w : World} {g o : Nat} {l : B} (h : SeenAt w g o l) : Lib.BytesIn w (some ⟨g, o, none⟩) l.length (natsOf l) := fun _ => ⟨g, o, rfl, fun i hi => by
  obtain ⟨c, hc⟩ : ∃ c, l[i]? = some c := ⟨_, List.getElem?_eq_getElem hi⟩
  rw [h i c hc]
  unfold natsOf
  rw [List.getD_eq_getElem?_getD, List.getElem?_map, hc]; rfl⟩
theorem equal_at (l l' : B) (g o c g' o' c' : Nat) (w : World) (h : SeenAt w g o l) (h' : SeenAt w g' o' l') :
    Calls Tryz.prog 94 #[.slice (some ⟨g, o, none⟩) l.length c, .slice (some ⟨g', o', none⟩) l'.length c'] w fun e w' => e = .returned (.bool (l == l')) ∧ w' = w := by
  have := Tryz.bytes_Equal_all (some ⟨g, o, none⟩) (some ⟨g', o', none⟩) l.length c l'.length c' (natsOf l) (natsOf l') w (by simp [natsOf]) (by simp [natsOf]) h.nats h'.nats
  rw [bytes_nats, bytes_nats] at this
  exact this
/-- A block that is a super block, and of how many blocks. -/
def isSuper (l : B) : Bool := decide (128 ≤ val (sub l 8 4) ∧ val (sub l 8 4) ≤ 16384) && (superP (val (sub l 8 4)) == l)
theorem val_low (wd : Nat) : ∀ n, n < 256 ^ wd → val (low wd n) = n := by
  induction wd with
  | zero => intro n hn; have : n = 0 := by simpa using hn
            subst this; rfl
  | succ k ih =>
    intro n hn
    rw [low_cons]
    show (UInt8.ofNat (n % 256)).toNat + 256 * val (low k (n / 256)) = n
    rw [ih (n / 256) (by rw [Nat.pow_succ] at hn; omega), UInt8.toNat_ofNat']
    omega
theorem super_val (n : Nat) (h : n ≤ 16384) : val (sub (superP n) 8 4) = n := by
  have e : sub (superP n) 8 4 = low 4 n := by
    unfold superP sub
    rw [List.append_assoc, List.append_assoc, List.drop_append]
    rw [show magicS.drop 8 = [] from rfl, List.nil_append, show 8 - magicS.length = 0 from rfl, List.drop_zero]
    have := low_len 4 n
    rw [List.take_append, List.take_of_length_le (by omega), this]
    simp
  rw [e, val_low 4 n (by omega)]
theorem isSuper_iff {l : B} {n : Nat} (h1 : 128 ≤ n) (h2 : n ≤ 16384) : (isSuper l = true ∧ val (sub l 8 4) = n) ↔ l = superP n := by
  constructor
  · rintro ⟨h, e⟩
    unfold isSuper at h
    rw [Bool.and_eq_true, beq_iff_eq, e] at h
    exact h.2.symm
  · rintro rfl
    have e := super_val n h2
    refine ⟨?_, e⟩
    unfold isSuper
    rw [e]
    simp [h1, h2]
set_option maxRecDepth 100000 in
set_option maxHeartbeats 1000000 in
theorem geoRead_any (l : B) (hl : l.length = 512) (g o cap : Nat) (w : World) (hg : g < w.heap.size) (hs : SeenAt w g o l) (hw : KVars w) :
    Calls Tryz.prog 53 #[.slice (some ⟨g, o, none⟩) 512 cap] w fun e w' => e = .returned (if isSuper l then .tuple #[.int .i64 (val (sub l 8 4)), .int .i64 0] else .tuple #[.int .i64 0, .int .i64 71]) ∧ Below w.heap.size w w' := by
  have HG := get_at l g o cap 8 4 w (.inr (.inr rfl)) hw hs (by omega) (by omega)
  rw [hl] at HG
  have HG : Calls Tryz.prog 92 #[.slice (some ⟨g, o, none⟩) 512 cap, .int .i64 8, .int .i64 4] w fun e w' => e = .returned (.tuple #[.int .u64 (val (sub l 8 4)), .int .i64 0]) ∧ w = w' := HG
  have hv : val (sub l 8 4) < 4294967296 := by
    have := val_lt (sub l 8 4)
    rw [sub_len (by omega)] at this
    exact this
  have hIS : isSuper l = (decide (128 ≤ val (sub l 8 4) ∧ val (sub l 8 4) ≤ 16384) && (superP (val (sub l 8 4)) == l)) := rfl
  generalize val (sub l 8 4) = n at *
  have hwn : IntKind.i64.wrap (n : Int) = n := by rw [IntKind.wrap_i64]; omega
  by_cases hn : 128 ≤ n ∧ n ≤ 16384
  · obtain ⟨h1, h2⟩ := hn
    have HS := super_good n w h1 h2 hw
    have HE := Lib.hid (fun (w2 : World) (b : Nat) (hb : Blk w2 b (bytesC (superP n)) 5) (hb2 : Below w.heap.size w w2) => by
      have := equal_at (superP n) l b 0 512 g o cap w2 (SeenAt.of_blk hb) (hs.below hg hb2)
      rw [super_len, hl] at this
      exact this)
    rw [decide_eq_true ⟨h1, h2⟩, Bool.true_and] at hIS
    rw [hIS]
    cases hq : (superP n == l) with
    | true =>
      rw [hq] at HE
      clear hIS hq
      go_enter Tryz.func53, Tryz.ntmps53
      go_wp2_with (first | (go_at_call 92; refine HG.mono ?_; rintro e w1 ⟨rfl, rfl⟩) | (go_at_call 93; refine HS.mono ?_; rintro e w2 ⟨b, rfl, hb, hlb, hb2⟩; have HE2 := (show _ from HE.out) w2 b hb hb2) | (go_at_call 94; refine HE2.mono ?_; rintro e w3 ⟨rfl, rfl⟩))
      go_ret2
      exact ⟨rfl, hb2⟩
    | false =>
      rw [hq] at HE
      clear hIS hq
      go_enter Tryz.func53, Tryz.ntmps53
      go_wp2_with (first | (go_at_call 92; refine HG.mono ?_; rintro e w1 ⟨rfl, rfl⟩) | (go_at_call 93; refine HS.mono ?_; rintro e w2 ⟨b, rfl, hb, hlb, hb2⟩; have HE2 := (show _ from HE.out) w2 b hb hb2) | (go_at_call 94; refine HE2.mono ?_; rintro e w3 ⟨rfl, rfl⟩))
      go_ret2
      exact ⟨rfl, hb2⟩
  · have HS := super_bad n w (by omega)
    rw [decide_eq_false hn, Bool.false_and] at hIS
    rw [hIS]
    clear hIS hn
    go_enter Tryz.func53, Tryz.ntmps53
    go_wp2_with (first | (go_at_call 92; refine HG.mono ?_; rintro e w1 ⟨rfl, rfl⟩) | (go_at_call 93; refine HS.mono ?_; rintro e w2 ⟨rfl, hb2⟩))
    go_ret2
    exact ⟨rfl, hb2⟩
end Ck
end Go.Proofs.YtegplehbcdeeoaaGreatDoor
/- A disk: opened, read. -/
namespace Go.Proofs.YtegplehbcdeeoaaGreatDoor
open Go.RowKit

namespace Ck
open Pk Pw
theorem addr_plain (g o j : Nat) : (⟨g, o, none⟩ : Addr).add j = ⟨g, o + j, none⟩ := by
  unfold Addr.add
  split
  · rename_i h; rw [h]; simp
  · rfl
theorem bytesV_get (l : B) (j : Nat) : (bytesV l)[j]? = (l[j]?).map fun c => Value.int .u8 c.toNat := by simp [bytesV]
/-- Bytes copied into a block. -/
theorem copy_bytes {w : World} {g o dLen dCap g' o' sLen sCap : Nat} {l x : B} {t : TypeId} (dT sT ty elem : TypeId) (hu : Tryz.prog.underlying dT = some (.slice elem)) (hs : (Tryz.prog.info? elem).map (·.size) = some 1)
    (hb : Blk w g (bytesC l) t) (hx : x.length = min sLen dLen) (hsrc : SeenAt w g' o' x) (hfit : o + x.length ≤ l.length) :
    (Builtin.copy_ #[dT, sT] ty #[.slice (some ⟨g, o, none⟩) dLen dCap, .slice (some ⟨g', o', none⟩) sLen sCap]).run Tryz.prog w = .ok (goInt x.length) (w.setRow g (bytesC (lay l o x))) := by
  have := run_copy_row (P := Tryz.prog) w dT sT ty elem g o dLen dCap ⟨g', o', none⟩ sLen sCap (bytesC l) t (bytesV x) hu hs hb (by rw [bytesV_len, hx])
    (fun j v hj => by
      rw [bytesV_get] at hj
      cases hc : x[j]? with
      | none => rw [hc] at hj; cases hj
      | some c =>
        rw [hc] at hj
        cases hj
        rw [addr_plain]
        exact hsrc j c hc) (by rw [bytesV_len, bytesC_size]; exact hfit) (bytesV_one x)
  have e : ((bytesC l).toList.take o ++ bytesV x ++ (bytesC l).toList.drop (o + x.length)).toArray = bytesC (lay l o x) := by
    unfold bytesC lay
    simp [bytesV, List.map_take, List.map_drop]
  rw [this, bytesV_len, e]
set_option maxRecDepth 100000 in
/-- Bytes out of the midst of a block, as a value. -/
theorem load_part {w : World} {g o n : Nat} {x : B} {ty e : TypeId} (hs : SeenAt w g o x) (hu : Tryz.prog.underlying ty = some (.array n e)) (hi : (Tryz.prog.info? ty).map (·.size) = some x.length) :
    (Instr.loadAt ty (.pointer (some ⟨g, o, none⟩))).run Tryz.prog w = .ok (.agg (bytesC x)) w := by
  have hl : (loadCells ⟨g, o, none⟩ (bytesV x).length).run Tryz.prog w = .ok (bytesV x).toArray w :=
    run_loadCells_list (P := Tryz.prog) w ⟨g, o, none⟩ (bytesV x) (fun j v hv => by
      rw [bytesV_get] at hv
      cases hc : x[j]? with
      | none => rw [hc] at hv; cases hv
      | some c =>
        rw [hc] at hv
        cases hv
        rw [addr_plain]
        exact hs j c hc)
  simp only [Instr.loadAt, Instr.sureAddr, Sem.run_bind, Sem.run_pure, Result.andThen]
  cases hq : Tryz.prog.info? ty with
  | none => simp [hq] at hi
  | some i =>
    have hsz : i.size = x.length := by simpa [hq] using hi
    have hagg : (isAgg ty).run Tryz.prog w = .ok true w := by
      unfold isAgg
      rw [Sem.run_bind, run_underlying hu w]
      simp
    rw [bytesV_len] at hl
    simp [loadVar, Sem.run_bind, hagg, Go.sizeOf, typeInfo, hq, hsz, hl, bytesC]
/-- A disk of n blocks, nothing pending. -/
structure DiskAt (w : World) (d g : Nat) (n : Nat) (l : B) : Prop where
  blk : Blk w d #[.slice (some ⟨g, 0, none⟩) n n, .slice none 0 0, .int .i64 0, .slice none 0 0, .bool false, .int .i64 0, .int .i64 0, .slice none 0 0] 154
  row : Blk w g (bytesC l) 156
  len : l.length = 512 * n
theorem DiskAt.below {w w' : World} {d g n : Nat} {l : B} (h : DiskAt w d g n l) (hb : Below w.heap.size w w') : DiskAt w' d g n l := ⟨h.blk.same (hb.block _ h.blk.lt), h.row.same (hb.block _ h.row.lt), h.len⟩
theorem info_sector : (Tryz.prog.info? 156).map (fun i => (i.zero.map (·.cells), i.size, i.bytes)) = some (some (bytesC (zs 512)), 512, 512) := by kernel_rfl
theorem made_rows {k : Nat} (hk : 0 < k) (n : Nat) : madeCells (bytesC (zs k)) n = bytesC (zs n) := by
  refine Array.ext_getElem? fun j => ?_
  rw [bytesC_get]
  unfold madeCells
  rw [Array.getElem?_map]
  have hsz : (bytesC (zs k)).size = k := by rw [bytesC_size]; exact List.length_replicate
  by_cases h : j < n
  · rw [Array.getElem?_eq_getElem (by simpa using h)]
    have hz : (zs n)[j]? = some 0 := by unfold zs; rw [List.getElem?_replicate, if_pos h]
    rw [hz]
    simp only [Array.getElem_range, Option.map_some]
    congr 1
    have hm : j % (bytesC (zs k)).size < (bytesC (zs k)).size := Nat.mod_lt _ (by omega)
    rw [getElem!_pos (bytesC (zs k)) _ hm]
    have := bytesC_get (zs k) (j % (bytesC (zs k)).size)
    rw [Array.getElem?_eq_getElem hm] at this
    have hz : (zs k)[j % (bytesC (zs k)).size]? = some 0 := by
      rw [hsz] at hm ⊢
      unfold zs; rw [List.getElem?_replicate, if_pos hm]
    rw [hz] at this
    exact Option.some.inj this
  · rw [Array.getElem?_eq_none (by simp; omega)]
    have hz : (zs n)[j]? = none := by unfold zs; rw [List.getElem?_replicate, if_neg h]
    rw [hz]; rfl
theorem make_sectors (n : Nat) (hn : n ≤ 16384) (W : World) : (Instr.makeSlice 151 (.int .i64 n) (.int .i64 n)).run Tryz.prog W = .ok (.slice (some ⟨W.heap.size, 0, none⟩) n n) (W.alloc (.cells (bytesC (zs (n * 512))) 156)) := by
  have h := info_sector
  cases hi : Tryz.prog.info? 156 with
  | none => rw [hi] at h; cases h
  | some i =>
    rw [hi] at h
    simp only [Option.map_some, Option.some.injEq, Prod.mk.injEq] at h
    obtain ⟨hz, hs, hb⟩ := h
    cases hzz : i.zero with
    | none => rw [hzz] at hz; cases hz
    | some z =>
      rw [hzz] at hz
      simp only [Option.map_some, Option.some.injEq] at hz
      have := run_make (P := Tryz.prog) W 151 156 i z Tryz.underlying151 hi hzz .i64 .i64 n n (by omega) (by omega) (by rw [hb]; omega) (by omega)
      rw [hs, hz, made_rows (by omega)] at this
      simp only [Int.toNat_natCast] at this
      exact this
/-- What New, or Open, comes to. -/
def NewD (n : Nat) (l : B) (w : World) (e : Ending) (w' : World) : Prop := ∃ d g, e = .returned (.tuple #[.pointer (some ⟨d, 0, none⟩), .int .i64 0]) ∧ DiskAt w' d g n l ∧ w.heap.size ≤ d ∧ w.heap.size ≤ g ∧ d ≠ g ∧ Below w.heap.size w w'
set_option maxRecDepth 100000 in
theorem diskNew_any (n : Nat) (h1 : 1 ≤ n) (h2 : n ≤ 16384) (w : World) : Calls Tryz.prog 95 #[.int .i64 n] w fun e w' => NewD n (zs (n * 512)) w e w' := by
  have HM := make_sectors n h2
  have hl : (zs (n * 512)).length = 512 * n := by unfold zs; rw [List.length_replicate]; omega
  have hl := Lib.hid hl
  generalize zs (n * 512) = z at *
  have a1 : ¬ (n : Int) < 1 := by omega
  have a2 : ¬ (16384 : Int) < (n : Int) := by omega
  go_enter Tryz.func95, Tryz.ntmps95
  go_wp2_with (refine wpList_make_run _ rfl 151 (.tmp 10) (.tmp 10) rfl _ _ (HM _) ?_)
  go_ret2
  refine ⟨_, _, rfl, ⟨Blk.newAt _ _ (by simp), (Blk.new _ _ _).alloc _, hl.out⟩, ?_, ?_, ?_, ?_⟩
  · simp
  · exact Nat.le_refl _
  · simp
  · exact ((Below.refl _ _).alloc (Nat.le_refl _) _).alloc (by simp) _
theorem len_sector : Tryz.prog.arrayLen 156 = 512 := by kernel_rfl
theorem elem_sector (W : World) : (Go.sizeOf (Tryz.prog.elem 156)).run Tryz.prog W = .ok 1 W := by kernel_rfl
theorem arr_sector : Tryz.prog.underlying 156 = some (.array (Tryz.prog.arrayLen 156) (Tryz.prog.elem 156)) := by kernel_rfl
theorem slice_sector (W : World) (a : Addr) : (Instr.sliceAt 156 (.pointer (some a)) none none none).run Tryz.prog W = .ok (.slice (some a) 512 512) W := by
  rw [run_sliceAt_array_all W _ _ arr_sector, elem_sector, len_sector]
  simp only [Result.andThen, slicedAt]
  rw [if_neg (by omega)]
  have : a.add (0 * 1) = a := by unfold Addr.add; rw [if_pos rfl]
  rw [this]
/-- A block of an image. -/
def blk (l : B) (i : Nat) : B := sub l (512 * i) 512
/-- An image, copied up to a block. -/
def upto (l : B) (n i : Nat) : B := l.take (512 * i) ++ zs (512 * (n - i))
theorem upto_len {l : B} {n i : Nat} (hl : l.length = 512 * n) (hi : i ≤ n) : (upto l n i).length = 512 * n := by
  unfold upto zs
  rw [List.length_append, List.length_take, List.length_replicate]
  omega
theorem upto_step {l : B} {n i : Nat} (hl : l.length = 512 * n) (hi : i < n) : lay (upto l n i) (512 * i) (blk l i) = upto l n (i + 1) := by
  have hb : (blk l i).length = 512 := sub_len (by omega)
  have ht : (l.take (512 * i)).length = 512 * i := by rw [List.length_take]; omega
  have := lay_app (l.take (512 * i)) (blk l i) (512 * (n - (i + 1)))
  rw [hb, ht] at this
  unfold upto
  rw [show 512 * (n - i) = 512 + 512 * (n - (i + 1)) by omega, this]
  congr 1
  unfold blk sub
  rw [show 512 * (i + 1) = 512 * i + 512 by omega, List.take_add]
theorem upto_all {l : B} {n : Nat} (hl : l.length = 512 * n) : upto l n n = l := by
  unfold upto zs
  rw [Nat.sub_self, List.take_of_length_le (by omega)]
  simp
set_option maxRecDepth 100000 in
set_option maxHeartbeats 1000000 in
theorem diskOpen_any (l : B) (n : Nat) (h1 : 1 ≤ n) (h2 : n ≤ 16384) (hl : l.length = 512 * n) (gi oi cap : Nat) (w : World) (hgi : gi < w.heap.size) (hs : SeenAt w gi oi l) (hcap : l.length ≤ cap ∧ cap ≤ 9223372036854775807) :
    Calls Tryz.prog 54 #[.slice (some ⟨gi, oi, none⟩) l.length cap] w fun e w' => NewD n l w e w' := by
  have HN := diskNew_any n h1 h2 w
  have hz0 : zs (n * 512) = upto l n 0 := by unfold upto; rw [Nat.mul_zero, List.take_zero, Nat.sub_zero, Nat.mul_comm]; rfl
  rw [hz0] at HN
  clear hz0
  obtain ⟨L, hL⟩ : ∃ L, L = l.length := ⟨_, rfl⟩
  rw [← hL] at hcap ⊢
  have d1 : (L : Int) / 512 = n := by omega
  have d2 : ((L : Int) % 512 != 0) = false := by rw [show (L : Int) % 512 = 0 by omega]; rfl
  have hLn := Lib.hid (hL.trans hl)
  have HL := Lib.hid (And.intro hl hs)
  clear hL hl hs
  go_enter Tryz.func54, Tryz.ntmps54
  go_wp2_with fail
  refine HN.mono ?_
  clear HN
  rintro e w1 ⟨d, g, rfl, hD, hd1, hg1, hdg, hb1⟩
  have q0 : w1.cell? ⟨d, 0, none⟩ = some (.slice (some ⟨g, 0, none⟩) n n) := hD.blk.cell 0
  have HD := Lib.hid hD
  clear hD
  go_wp2_with fail
  go_loopw [26] (fun iv wr => ∃ i : Nat, iv = .int .i64 i ∧ i ≤ n ∧ Hid (DiskAt wr d g n (upto l n i)) ∧ Below w.heap.size w wr) (fun iv _ => n - (intOf iv).toNat)
  case atStart => exact ⟨0, rfl, Nat.zero_le _, HD, hb1⟩
  case round =>
    obtain ⟨i, rfl, hi, hD, hbw⟩ := hrel
    by_cases c : i < n
    · obtain ⟨hl, hs⟩ := HL.out
      have hu := upto_len hl hi
      have hDo := hD.out
      have hpart := (hs.below hgi hbw).part (512 * i) 512
      have hbl : (blk l i).length = 512 := sub_len (by omega)
      have hcp := fun ty => copy_bytes (w := wr.drew) (g := g) (o := i * 512) (dLen := 512) (dCap := 512) (g' := gi) (o' := oi + i * 512) (sLen := L - i * 512) (sCap := cap - i * 512) (l := upto l n i) (x := blk l i) 24 24 ty 5 Tryz.underlying24 (by kernel_rfl) hDo.row (by have := hLn.out; omega) (by rw [Nat.mul_comm i]; exact hpart) (by omega)
      have hst := upto_step hl c
      rw [Nat.mul_comm] at hst
      rw [hst, hbl] at hcp
      have q1 : wr.drew.cell? ⟨d, 0, none⟩ = some (.slice (some ⟨g, 0, none⟩) n n) := hDo.blk.cell 0
      have hsl := fun a => slice_sector wr.drew a
      have hci : (i : Int) < (n : Int) := by omega
      have hwm : IntKind.i64.wrap ((i : Int) * 512) = (i : Int) * 512 := IntWalk.i64_in _ (by omega)
      have hil : (i : Int) * 512 ≤ (L : Int) := by have := hLn.out; omega
      have hin : ¬ (i : Int) * 512 < 0 := by omega
      have hto : ((i : Int) * 512).toNat = i * 512 := by omega
      have hlc : (L : Int) ≤ (cap : Int) := by omega
      have HE := Lib.hid (show DiskAt (wr.drew.setRow g (bytesC (upto l n (i + 1)))) d g n (upto l n (i + 1)) ∧ Below w.heap.size w (wr.drew.setRow g (bytesC (upto l n (i + 1)))) from
        ⟨⟨hDo.blk.same (setRow_heap _ _ _ _ hdg), (show Blk wr.drew g _ _ from hDo.row).setRow _, upto_len hl c⟩, below_setRow hbw.drew hg1 _⟩)
      clear hDo hpart hbl hu hst hl hs hD hbw
      go_wp2_with fail
      go_still_tail 11, (by kernel_rfl)
      change wpList _ _ _ _ _ wr.drew
      go_wp2_with fail
      refine ⟨⟨i + 1, rfl, by omega, Lib.hid HE.out.1, HE.out.2⟩, ?_⟩
      simp only [intOf]; omega
    · obtain rfl : i = n := by omega
      have hu := upto_all (l := l) (n := i) (by have := HL.out.1; exact this)
      rw [hu] at hD
      have hci : ¬ (i : Int) < (i : Int) := by omega
      go_wp2_with fail
      go_ret2
      exact ⟨d, g, rfl, hD.out, hd1, hg1, hdg, hbw⟩
end Ck
end Go.Proofs.YtegplehbcdeeoaaGreatDoor
