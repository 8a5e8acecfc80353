/- An inode's record: may it be? -/
import Derived.Test.YtegplehbcdeeoaaGreatDoorChkB10
import Derived.ChangeKeysEq
import Derived.Test.YtegplehbcdeeoaaGreatDoorChkB05
namespace Go.Proofs.YtegplehbcdeeoaaGreatDoor
open Go.RowKit

namespace Ck
open Pk Pw
/-- May it be? -/
def Rc.may (x : Rc) : Bool :=
  match x.kind with
  | 0 => x.all.all (· == 0)
  | 1 => decide (x.links ≤ 1000) && decide (x.size ≤ 8459264)
  | 2 => decide (2 ≤ x.links) && decide (x.links ≤ 65535) && decide (x.size ≤ 8459264) && decide (x.size % 512 = 0)
  | 3 => decide (1 ≤ x.links) && decide (x.links ≤ 1000) && decide (1 ≤ x.size) && decide (x.size ≤ 1024)
  | _ => false
theorem eq_rec (x : Rc) (hd : x.dir.length = 10) (W : World) : (binOp .eql 74 (.agg (recC x)) (.agg (Array.replicate 15 (.int .i64 0)))).run Tryz.prog W = .ok (.bool (x.all.all (· == 0))) W := by
  obtain ⟨k, l, s, d, o, t⟩ := x
  obtain ⟨d0, d1, d2, d3, d4, d5, d6, d7, d8, d9, rfl⟩ : ∃ d0 d1 d2 d3 d4 d5 d6 d7 d8 d9, d = [d0, d1, d2, d3, d4, d5, d6, d7, d8, d9] := by
    match d, hd with
    | [d0, d1, d2, d3, d4, d5, d6, d7, d8, d9], _ => exact ⟨_, _, _, _, _, _, _, _, _, _, rfl⟩
  simp only [recC, Rc.all, natC, List.map, List.cons_append, List.nil_append]
  obtain ⟨i0, hi, hz0, hz1, hz2⟩ := info_parts info_int
  have hce : Tryz.prog.cellsOf 3 = 1 := by kernel_rfl
  have hr : List.range 10 = [0, 1, 2, 3, 4, 5, 6, 7, 8, 9] := by rfl
  have hA := run_equalIn_array (P := Tryz.prog) W 9998 #[.int .i64 d0, .int .i64 d1, .int .i64 d2, .int .i64 d3, .int .i64 d4, .int .i64 d5, .int .i64 d6, .int .i64 d7, .int .i64 d8, .int .i64 d9] (Array.replicate 10 (.int .i64 0)) Tryz.underlying72 hi
  rw [hce, hr] at hA
  simp [go_sem]
  rw [hA]
  simp [Op.eqItems, go_sem]
  have ha : ∀ (p : Nat) (b : Bool), (if p = 0 then Result.ok (Value.bool b) W else Result.ok (Value.bool false) W : Result Value) = Result.ok (Value.bool (p == 0 && b)) W := by
    intro p b
    by_cases h : p = 0
    · rw [if_pos h, h]; rfl
    · rw [if_neg h, show (p == 0) = false by simpa using h]; rfl
  simp only [ha, Bool.and_true]
structure Rc.Ok (x : Rc) : Prop where
  dir : x.dir.length = 10
  lt : ∀ n ∈ x.all, n < 4294967296
/-- An operation on two values that is known. -/
theorem wpList_bin_run {P : Program} (w : World) {ops : Array Oper} {rest : List Oper} {o : Oper} {a : Act} {Q : Exit → Act → World → Prop}
    (hg : o.guard = none) (b : BinOp) (t t2 : TypeId) (x y : Operand) (hop : o.op = Op.binOp b t x y t2) (v : Value) (hq : (eqGuard b t x y (a.eval x) (a.eval y)).run P w = .ok () w) (hrun : (binOp b t (a.eval x) (a.eval y)).run P w = .ok v w) (hK : wpList P ops Q rest (a.put o.dst v) w) : wpList P ops Q (o :: rest) a w := by
  refine wpList_plain hg fun K' hK' => ?_
  unfold Oper.wp
  simp [execOp, hop, hq, hrun, Result.andThen]
  exact hK' _ _ hK
theorem index_12 (w : World) (nums : List Nat) (i v : Nat) (h : nums.length = 12) (hv : nums[i]? = some v) : (Instr.index 205 (.agg (natC nums)) (.int .i64 i)).run Tryz.prog w = .ok (.int .i64 v) w := by
  have hi := (List.getElem?_eq_some_iff.1 hv).1
  have hin : (0 : Int) ≤ i ∧ (i : Int) < 12 := by omega
  have hg : (natC nums)[i]? = some (.int .i64 v) := by rw [natC_get, hv]; rfl
  have hsz : (natC nums).size = 12 := by rw [natC_size, h]
  simp [Instr.index, run_underlying Tryz.underlying205, asIntOf, hin, go_sem, hg]
  intro hge
  omega
set_option maxRecDepth 100000 in
set_option maxHeartbeats 2000000 in
theorem mayI_any (x : Rc) (hx : x.Ok) (w : World) : Calls Tryz.prog 105 #[.agg (recC x)] w fun e w' => e = .returned (.bool x.may) ∧ Below w.heap.size w w' := by
  have HN := fun W => numbers_any x hx.dir W
  have hsz : (recC x).size = 15 := by unfold recC Rc.all; rw [natC_size]; simp [hx.dir]
  have hlen : (x.dir ++ [x.one, x.two]).length = 12 := by simp [hx.dir]
  have hlt : ∀ n ∈ x.dir ++ [x.one, x.two], n < 4294967296 := fun n hn => hx.lt n (by unfold Rc.all; simp only [List.mem_cons]; exact .inr (.inr (.inr hn)))
  have hK : (recC x)[0]? = some (.int .i64 x.kind) := by unfold recC; rw [natC_get]; rfl
  have hL : (recC x)[1]? = some (.int .i64 x.links) := by unfold recC; rw [natC_get]; rfl
  have hS : (recC x)[2]? = some (.int .i64 x.size) := by unfold recC; rw [natC_get]; rfl
  obtain ⟨m, hm⟩ : ∃ m, x.may = m := ⟨_, rfl⟩
  rw [hm]
  unfold Rc.may at hm
  have hE := fun W => eq_rec x hx.dir W
  have hl4 : x.links < 4294967296 := hx.lt _ (by simp [Rc.all])
  have hs4 : x.size < 4294967296 := hx.lt _ (by simp [Rc.all])
  have hall := Lib.hid (show x.all.all (· == 0) = x.all.all (· == 0) from rfl)
  generalize x.all.all (· == 0) = z at *
  generalize x.dir ++ [x.one, x.two] = nums at *
  generalize recC x = C at *
  obtain ⟨k, l, sz, d, o, t⟩ := x
  dsimp only at *
  have hm := Lib.hid hm
  clear hx hall
  have hb0 : Blk (w.alloc (.cells C 74)) w.heap.size C 74 := Blk.new _ _ _
  have hld := load_str (ty := 74) hb0 (by exact Tryz.underlying74) (by rw [hsz]; kernel_rfl)
  have hB0 : Below w.heap.size w (w.alloc (.cells C 74)) := (Below.refl _ _).alloc (Nat.le_refl _) _
  go_enter Tryz.func105, Tryz.ntmps105
  go_wp2_with (first | (refine wpList_load_run _ rfl (.tmp 1) 74 rfl _ hld ?_) | (go_at_call 140; refine (HN _).mono ?_; clear HN; rintro e w1 ⟨rfl, hb1⟩))
  have hb : Blk w1 w.heap.size C 74 := hb0.same (hb1.block _ hb0.lt)
  have hB1 : Below w.heap.size w w1 := hB0.trans (hb1.mono hB0.size)
  clear hld hb0 hB0 hb1
  go_loopw [7] (fun iv wr => ∃ i : Nat, iv = .int .i64 i ∧ i ≤ 12 ∧ wr = w1) (fun iv _ => 12 - (intOf iv).toNat)
  case atStart => exact ⟨0, rfl, Nat.zero_le _, rfl⟩
  case round =>
    obtain ⟨i, rfl, hi, rfl⟩ := hrel
    by_cases c : i < 12
    · obtain ⟨v, hv⟩ : ∃ v, nums[i]? = some v := ⟨_, List.getElem?_eq_getElem (by omega)⟩
      have hvl := hlt v (List.mem_of_getElem? hv)
      have hg : (natC nums)[i]? = some (.int .i64 v) := by rw [natC_get, hv]; rfl
      have hci : (i : Int) < 12 := by omega
      have hns : (natC nums).size = 12 := by rw [natC_size, hlen]
      have hix := index_12 wr nums i v hlen hv
      have hw := within_any v 0 4294967295 wr
      have hd : (decide ((0 : Int) ≤ v) && decide ((v : Int) ≤ 4294967295)) = true := by simp; omega
      rw [hd] at hw
      clear hlt
      go_wp2_with (go_at_call 141; refine hw.mono ?_; clear hw; rintro e w2 ⟨rfl, rfl⟩)
      refine ⟨⟨i + 1, rfl, by omega, trivial⟩, ?_⟩
      simp only [intOf]; omega
    · obtain rfl : i = 12 := by omega
      have hci : ¬ ((12 : Nat) : Int) < 12 := by omega
      have q0 := hb.cell 0
      have q1 := hb.cell 1
      have q2 := hb.cell 2
      rw [hK] at q0
      rw [hL] at q1
      rw [hS] at q2
      have hld := load_str (ty := 74) hb (by exact Tryz.underlying74) (by rw [hsz]; kernel_rfl)
      have hm2 := hm.out
      clear hK hL hS hlt hlen hb c hi
      have wn := fun a b c => within_any a b c wr
      clear hm hsz
      by_cases k0 : k = 0
      · subst k0
        replace hm2 : z = m := hm2
        subst hm2
        have hgd : ∀ W : World, (eqGuard .eql 74 (.tmp 18) (.tmp 19) (.agg C) (.agg (Array.replicate 15 (.int .i64 0)))).run Tryz.prog W = .ok () W := fun W => run_eqGuard_agg W _ _ _ _ _ _ (by kernel_rfl)
        go_wp2_with (first | (refine wpList_load_run _ rfl (.tmp 1) 74 rfl _ hld ?_) | (refine wpList_bin_run _ rfl .eql 74 74 (.tmp 18) (.tmp 19) rfl _ (hgd _) (hE _) ?_))
        go_ret
        exact ⟨rfl, hB1⟩
      have hl0 : (0 : Int) ≤ l := by omega
      have hs0 : (0 : Int) ≤ sz := by omega
      by_cases k1 : k = 1
      · subst k1
        replace hm2 : (decide (l ≤ 1000) && decide (sz ≤ 8459264)) = m := hm2
        subst hm2
        by_cases a1 : l ≤ 1000
        · have b1 : (l : Int) ≤ 1000 := by omega
          by_cases a2 : sz ≤ 8459264
          · have b2 : (sz : Int) ≤ 8459264 := by omega
            go_wp2_with (go_at_call 141; refine (wn _ _ _).mono ?_; rintro e w2 ⟨rfl, rfl⟩)
            go_ret
            refine ⟨?_, hB1⟩; first | (simp [*]; done) | (simp; intro h; omega) | (simp; omega) | exact congrArg (fun b => Ending.returned (.bool b)) (Bool.eq_iff_iff.2 (by simp only [Bool.and_eq_true, decide_eq_true_eq, beq_iff_eq, Bool.false_eq_true, true_and, and_true]; omega))
          · have b2 : ¬ (sz : Int) ≤ 8459264 := by omega
            go_wp2_with (go_at_call 141; refine (wn _ _ _).mono ?_; rintro e w2 ⟨rfl, rfl⟩)
            go_ret
            refine ⟨?_, hB1⟩; first | (simp [*]; done) | (simp; intro h; omega) | (simp; omega) | exact congrArg (fun b => Ending.returned (.bool b)) (Bool.eq_iff_iff.2 (by simp only [Bool.and_eq_true, decide_eq_true_eq, beq_iff_eq, Bool.false_eq_true, true_and, and_true]; omega))
        · have b1 : ¬ (l : Int) ≤ 1000 := by omega
          go_wp2_with (go_at_call 141; refine (wn _ _ _).mono ?_; rintro e w2 ⟨rfl, rfl⟩)
          go_ret
          refine ⟨?_, hB1⟩; first | (simp [*]; done) | (simp; intro h; omega) | (simp; omega) | exact congrArg (fun b => Ending.returned (.bool b)) (Bool.eq_iff_iff.2 (by simp only [Bool.and_eq_true, decide_eq_true_eq, beq_iff_eq, Bool.false_eq_true, true_and, and_true]; omega))
      by_cases k2 : k = 2
      · subst k2
        replace hm2 : (decide (2 ≤ l) && decide (l ≤ 65535) && decide (sz ≤ 8459264) && decide (sz % 512 = 0)) = m := hm2
        subst hm2
        by_cases a1 : 2 ≤ l
        · have b1 : (2 : Int) ≤ l := by omega
          by_cases a2 : l ≤ 65535
          · have b2 : (l : Int) ≤ 65535 := by omega
            by_cases a3 : sz ≤ 8459264
            · have b3 : (sz : Int) ≤ 8459264 := by omega
              by_cases a4 : sz % 512 = 0
              · have b4 : (sz : Int) % 512 = 0 := by omega
                go_wp2_with (go_at_call 141; refine (wn _ _ _).mono ?_; rintro e w2 ⟨rfl, rfl⟩)
                go_ret
                refine ⟨?_, hB1⟩; first | (simp [*]; done) | (simp; intro h; omega) | (simp; omega) | exact congrArg (fun b => Ending.returned (.bool b)) (Bool.eq_iff_iff.2 (by simp only [Bool.and_eq_true, decide_eq_true_eq, beq_iff_eq, Bool.false_eq_true, true_and, and_true]; omega))
              · have b4 : ¬ (sz : Int) % 512 = 0 := by omega
                go_wp2_with (go_at_call 141; refine (wn _ _ _).mono ?_; rintro e w2 ⟨rfl, rfl⟩)
                go_ret
                refine ⟨?_, hB1⟩; first | (simp [*]; done) | (simp; intro h; omega) | (simp; omega) | exact congrArg (fun b => Ending.returned (.bool b)) (Bool.eq_iff_iff.2 (by simp only [Bool.and_eq_true, decide_eq_true_eq, beq_iff_eq, Bool.false_eq_true, true_and, and_true]; omega))
            · have b3 : ¬ (sz : Int) ≤ 8459264 := by omega
              go_wp2_with (go_at_call 141; refine (wn _ _ _).mono ?_; rintro e w2 ⟨rfl, rfl⟩)
              go_ret
              refine ⟨?_, hB1⟩; first | (simp [*]; done) | (simp; intro h; omega) | (simp; omega) | exact congrArg (fun b => Ending.returned (.bool b)) (Bool.eq_iff_iff.2 (by simp only [Bool.and_eq_true, decide_eq_true_eq, beq_iff_eq, Bool.false_eq_true, true_and, and_true]; omega))
          · have b2 : ¬ (l : Int) ≤ 65535 := by omega
            go_wp2_with (go_at_call 141; refine (wn _ _ _).mono ?_; rintro e w2 ⟨rfl, rfl⟩)
            go_ret
            refine ⟨?_, hB1⟩; first | (simp [*]; done) | (simp; intro h; omega) | (simp; omega) | exact congrArg (fun b => Ending.returned (.bool b)) (Bool.eq_iff_iff.2 (by simp only [Bool.and_eq_true, decide_eq_true_eq, beq_iff_eq, Bool.false_eq_true, true_and, and_true]; omega))
        · have b1 : ¬ (2 : Int) ≤ l := by omega
          go_wp2_with (go_at_call 141; refine (wn _ _ _).mono ?_; rintro e w2 ⟨rfl, rfl⟩)
          go_ret
          refine ⟨?_, hB1⟩; first | (simp [*]; done) | (simp; intro h; omega) | (simp; omega) | exact congrArg (fun b => Ending.returned (.bool b)) (Bool.eq_iff_iff.2 (by simp only [Bool.and_eq_true, decide_eq_true_eq, beq_iff_eq, Bool.false_eq_true, true_and, and_true]; omega))
      by_cases k3 : k = 3
      · subst k3
        replace hm2 : (decide (1 ≤ l) && decide (l ≤ 1000) && decide (1 ≤ sz) && decide (sz ≤ 1024)) = m := hm2
        subst hm2
        by_cases a1 : 1 ≤ l
        · have b1 : (1 : Int) ≤ l := by omega
          by_cases a2 : l ≤ 1000
          · have b2 : (l : Int) ≤ 1000 := by omega
            by_cases a3 : 1 ≤ sz
            · have b3 : (1 : Int) ≤ sz := by omega
              by_cases a4 : sz ≤ 1024
              · have b4 : (sz : Int) ≤ 1024 := by omega
                go_wp2_with (go_at_call 141; refine (wn _ _ _).mono ?_; rintro e w2 ⟨rfl, rfl⟩)
                go_ret
                refine ⟨?_, hB1⟩; first | (simp [*]; done) | (simp; intro h; omega) | (simp; omega) | exact congrArg (fun b => Ending.returned (.bool b)) (Bool.eq_iff_iff.2 (by simp only [Bool.and_eq_true, decide_eq_true_eq, beq_iff_eq, Bool.false_eq_true, true_and, and_true]; omega))
              · have b4 : ¬ (sz : Int) ≤ 1024 := by omega
                go_wp2_with (go_at_call 141; refine (wn _ _ _).mono ?_; rintro e w2 ⟨rfl, rfl⟩)
                go_ret
                refine ⟨?_, hB1⟩; first | (simp [*]; done) | (simp; intro h; omega) | (simp; omega) | exact congrArg (fun b => Ending.returned (.bool b)) (Bool.eq_iff_iff.2 (by simp only [Bool.and_eq_true, decide_eq_true_eq, beq_iff_eq, Bool.false_eq_true, true_and, and_true]; omega))
            · have b3 : ¬ (1 : Int) ≤ sz := by omega
              go_wp2_with (go_at_call 141; refine (wn _ _ _).mono ?_; rintro e w2 ⟨rfl, rfl⟩)
              go_ret
              refine ⟨?_, hB1⟩; first | (simp [*]; done) | (simp; intro h; omega) | (simp; omega) | exact congrArg (fun b => Ending.returned (.bool b)) (Bool.eq_iff_iff.2 (by simp only [Bool.and_eq_true, decide_eq_true_eq]; omega))
          · have b2 : ¬ (l : Int) ≤ 1000 := by omega
            go_wp2_with (go_at_call 141; refine (wn _ _ _).mono ?_; rintro e w2 ⟨rfl, rfl⟩)
            go_ret
            refine ⟨?_, hB1⟩; first | (simp [*]; done) | (simp; intro h; omega) | (simp; omega) | exact congrArg (fun b => Ending.returned (.bool b)) (Bool.eq_iff_iff.2 (by simp only [Bool.and_eq_true, decide_eq_true_eq, beq_iff_eq, Bool.false_eq_true, true_and, and_true]; omega))
        · have b1 : ¬ (1 : Int) ≤ l := by omega
          go_wp2_with (go_at_call 141; refine (wn _ _ _).mono ?_; rintro e w2 ⟨rfl, rfl⟩)
          go_ret
          refine ⟨?_, hB1⟩; first | (simp [*]; done) | (simp; intro h; omega) | (simp; omega) | exact congrArg (fun b => Ending.returned (.bool b)) (Bool.eq_iff_iff.2 (by simp only [Bool.and_eq_true, decide_eq_true_eq, beq_iff_eq, Bool.false_eq_true, true_and, and_true]; omega))
      have hm3 : m = false := by
        rw [← hm2]
        match k, k0, k1, k2, k3 with
        | 0, h, _, _, _ => exact absurd rfl h
        | 1, _, h, _, _ => exact absurd rfl h
        | 2, _, _, h, _ => exact absurd rfl h
        | 3, _, _, _, h => exact absurd rfl h
        | n + 4, _, _, _, _ => rfl
      subst hm3
      have j0 : ((k : Int) == 0) = false := by simp; omega
      have j1 : ((k : Int) == 1) = false := by simp; omega
      have j2 : ((k : Int) == 2) = false := by simp; omega
      have j3 : ((k : Int) == 3) = false := by simp; omega
      clear hm2
      go_wp2_with fail
      go_ret
      exact ⟨rfl, hB1⟩
end Ck
end Go.Proofs.YtegplehbcdeeoaaGreatDoor
/- An inode's record out of its bytes. -/
namespace Go.Proofs.YtegplehbcdeeoaaGreatDoor
open Go.RowKit

namespace Ck
open Pk Pw
/-- The record that 64 bytes hold. -/
def recOf (l : B) : Rc := ⟨val (sub l 0 1), val (sub l 2 2), val (sub l 4 4), (List.range 10).map fun k => val (sub l (8 + 4 * k) 4), val (sub l 48 4), val (sub l 52 4)⟩
/-- The record, if it may be. -/
def decP (l : B) : Option Rc := if allZero (sub l 1 1) && allZero (sub l 56 8) && (recOf l).may then some (recOf l) else none
theorem recOf_ok (l : B) : (recOf l).Ok := by
  refine ⟨by simp [recOf], ?_⟩
  have h4 : ∀ i n, n ≤ 4 → val (sub l i n) < 4294967296 := by
    intro i n hn
    have := val_lt (sub l i n)
    have h2 : (sub l i n).length ≤ 4 := by unfold sub; rw [List.length_take]; omega
    exact Nat.lt_of_lt_of_le this (Nat.le_trans (Nat.pow_le_pow_right (by decide) h2) (by decide))
  intro n hn
  simp only [Rc.all, recOf, List.mem_cons, List.mem_append, List.mem_map, List.not_mem_nil, or_false] at hn
  rcases hn with rfl | rfl | rfl | ⟨k, _, rfl⟩ | rfl | rfl
  all_goals exact h4 _ _ (by decide)
set_option maxRecDepth 100000 in
theorem dec1_any (l : B) (hl : l.length = 64) (g o cap p at' n : Nat) (w : World) (hwd : isW n) (hn : at' + n ≤ 64) (hw : KVars w) (hs : SeenAt w g o l) (hp : w.cell? ⟨p, 0, none⟩ = some (.slice (some ⟨g, o, none⟩) 64 cap)) :
    Calls Tryz.prog 103 #[.int .i64 at', .int .i64 n, .pointer (some ⟨p, 0, none⟩)] w fun e w' => e = .returned (.int .i64 (val (sub l at' n))) ∧ w = w' := by
  have HG := get_at l g o cap at' n w hwd hw hs (by omega) (by omega)
  have hv : val (sub l at' n) < 4294967296 := by
    have := val_lt (sub l at' n)
    rw [sub_len (by omega)] at this
    rcases hwd with rfl | rfl | rfl <;> omega
  have hv0 : (0 : Int) ≤ val (sub l at' n) := by omega
  rw [hl] at HG
  generalize val (sub l at' n) = v at *
  have hwr : IntKind.i64.wrap (v : Int) = v := by simp [IntKind.wrap, IntKind.bits, IntKind.signed]; omega
  clear hwd hw hs hn
  go_enter Tryz.func103, Tryz.ntmps103
  go_wp2_with (go_at_call 92; refine HG.mono ?_; clear HG; rintro e w1 ⟨rfl, rfl⟩)
  go_ret
  simp
def decV (l : B) : Value := .agg (match decP l with | some x => recC x | none => Array.replicate 15 (.int .i64 0))
def decE (l : B) : Int := if (decP l).isSome then 0 else 111
theorem decV_some {l : B} (h : (allZero (sub l 1 1) && allZero (sub l 56 8) && (recOf l).may) = true) : decV l = .agg (recC (recOf l)) ∧ decE l = 0 := by
  unfold decV decE decP; rw [if_pos h]; exact ⟨rfl, rfl⟩
theorem decV_none {l : B} (h : ¬ (allZero (sub l 1 1) && allZero (sub l 56 8) && (recOf l).may) = true) : decV l = .agg (Array.replicate 15 (.int .i64 0)) ∧ decE l = 111 := by
  unfold decV decE decP; rw [if_neg h]; exact ⟨rfl, rfl⟩
/-- The record with its first i direct numbers. -/
def recTo (l : B) (i : Nat) : Rc := { recOf l with dir := ((recOf l).dir.take i) ++ List.replicate (10 - i) 0 }
theorem recTo_all (l : B) : recTo l 10 = recOf l := by
  have : (recOf l).dir.length = 10 := (recOf_ok l).dir
  unfold recTo
  rw [List.take_of_length_le (by omega)]
  simp
theorem recTo_size (l : B) (i : Nat) (hi : i ≤ 10) : (recC (recTo l i)).size = 15 := by
  have h : (recTo l i).dir.length = 10 := by
    simp only [recTo, List.length_append, List.length_take, List.length_replicate, (recOf_ok l).dir]; omega
  simp [recC, natC_size, Rc.all, h]
theorem recTo_step (l : B) (i : Nat) (hi : i < 10) : (recC (recTo l i)).setIfInBounds (3 + i) (.int .i64 (val (sub l (8 + 4 * i) 4))) = recC (recTo l (i + 1)) := by
  obtain rfl | rfl | rfl | rfl | rfl | rfl | rfl | rfl | rfl | rfl : i = 0 ∨ i = 1 ∨ i = 2 ∨ i = 3 ∨ i = 4 ∨ i = 5 ∨ i = 6 ∨ i = 7 ∨ i = 8 ∨ i = 9 := by omega
  all_goals rfl
/-- A guarded load that is known. -/
theorem wpList_load_when {P : Program} (w : World) {ops : Array Oper} {rest : List Oper} {o : Oper} {a : Act} {Q : Exit → Act → World → Prop}
    (hg : Region.wanted o (yielded ops a.tmps) = true) (p : Operand) (t : TypeId) (hop : o.op = Op.load t p) (v : Value) (hrun : (Instr.loadAt t (a.eval p)).run P w = .ok v w) (hK : wpList P ops Q rest (a.put o.dst v) w) : wpList P ops Q (o :: rest) a w := by
  refine wpList_step fun K' hK' => ?_
  rw [if_pos hg]
  unfold Oper.wp
  simp [execOp, hop, hrun, Result.andThen]
  exact hK' _ _ hK
/-- Two results: a cell's and a slot's. -/
theorem results_cell_tmp {P : Program} {fn : Func} {tmps : Array Value} {k i : Nat} {ty : TypeId} {w : World} {a : Addr} {v u : Value} (hr : fn.results = #[.cell k ty, .tmp i]) (h : tmps[k]? = some (.pointer (some a))) (hl : (loadVar ty a).run P w = .ok v w) (hu : tmps[i]? = some u) :
    (results fn tmps).run P w = .ok (.tuple #[v, u]) w := by
  unfold results
  rw [hr]
  have h2 : (asAddr (.pointer (some a))).run P w = .ok a w := rfl
  simp [h, hu, Result.andThen, hl, h2]
/-- The world, named, of a call. -/
theorem gen_calls {P : Program} {f : Nat} {args : Array Value} {Q : Ending → World → Prop} (w0 : World) (h : ∀ W, W = w0 → Calls P f args W Q) : Calls P f args w0 Q := h _ rfl
set_option maxRecDepth 100000 in
set_option maxHeartbeats 2000000 in
theorem decode_any (l : B) (hl : l.length = 64) (g o cap : Nat) (hcap : 64 ≤ cap ∧ cap ≤ 9223372036854775807) (w : World) (hg : g < w.heap.size) (hw : KVars w) (hs : SeenAt w g o l) :
    Calls Tryz.prog 61 #[.slice (some ⟨g, o, none⟩) 64 cap] w fun e w' => Below w.heap.size w w' ∧ e = .returned (.tuple #[decV l, .int .i64 (decE l)]) := by
  have hok := recOf_ok l
  obtain ⟨dv, hdv⟩ : ∃ dv, decV l = dv := ⟨_, rfl⟩
  obtain ⟨de, hde⟩ : ∃ de, decE l = de := ⟨_, rfl⟩
  rw [hdv, hde]
  have HD : ∀ (W : World), Below w.heap.size w W → ∀ at' n, isW n → at' + n ≤ 64 → W.cell? ⟨w.heap.size, 0, none⟩ = some (.slice (some ⟨g, o, none⟩) 64 cap) →
      Calls Tryz.prog 103 #[.int .i64 at', .int .i64 n, .pointer (some ⟨w.heap.size, 0, none⟩)] W fun e w' => e = .returned (.int .i64 (val (sub l at' n))) ∧ W = w' :=
    fun W hb at' n h1 h2 h3 => dec1_any l hl g o cap _ at' n W h1 h2 (hw.below hb) (hs.below hg hb) h3
  replace HD := Lib.hid HD
  have hS := Lib.hid hs
  have hK := Lib.hid hw
  clear hs hw
  go_enter Tryz.func61, Tryz.ntmps61
  go_wp2_with fail
  refine gen_calls _ ?_
  intro W2 hW2
  have hB2 : Below w.heap.size w W2 := by rw [hW2]; exact ((Below.refl _ _).alloc (Nat.le_refl _) _).alloc (by simp) _
  have hX2 : Blk W2 w.heap.size #[.slice (some ⟨g, o, none⟩) 64 cap] 24 := by rw [hW2]; exact (Blk.new w _ _).alloc _
  have hR2 : Blk W2 (w.heap.size + 1) (Array.replicate 15 (.int .i64 0)) 74 := by rw [hW2]; exact Blk.newAt (W := w.alloc _) _ _ (alloc_size _ _).symm
  have hZ2 : W2.heap.size = w.heap.size + 2 := by rw [hW2]; simp
  clear hW2
  have hbox := hX2.cell 0
  have h0 := HD.out W2 hB2 0 1 (.inl rfl) (by omega) hbox
  have h1 := HD.out W2 hB2 2 2 (.inr (.inl rfl)) (by omega) hbox
  have h2 := HD.out W2 hB2 4 4 (.inr (.inr rfl)) (by omega) hbox
  have h3 := HD.out W2 hB2 48 4 (.inr (.inr rfl)) (by omega) hbox
  have h4 := HD.out W2 hB2 52 4 (.inr (.inr rfl)) (by omega) hbox
  have hst := store_new W2 74 (Array.replicate 15 (.int .i64 0)) (recC (recTo l 0)) (by kernel_rfl) (by kernel_rfl) (natC_one _)
  have hX3 := hX2.alloc (.cells (recC (recTo l 0)) 74)
  have hR3 := hR2.alloc (.cells (recC (recTo l 0)) 74)
  have hB3 := hB2.alloc hB2.size (.cells (recC (recTo l 0)) 74)
  have hN3 := Blk.new W2 (recC (recTo l 0)) 74
  replace hZ2 := Lib.hid hZ2
  replace hB3 := Lib.hid hB3
  clear hR2 hB2 hX2
  refine h0.mono ?_
  clear h0
  rintro e w1 ⟨rfl, rfl⟩
  go_wp2_with (first | (go_at_call 103; refine h1.mono ?_; clear h1; rintro e w1 ⟨rfl, rfl⟩) | (go_at_call 103; refine h2.mono ?_; clear h2; rintro e w1 ⟨rfl, rfl⟩) | (go_at_call 103; refine h3.mono ?_; clear h3; rintro e w1 ⟨rfl, rfl⟩) | (go_at_call 103; refine h4.mono ?_; clear h4; rintro e w1 ⟨rfl, rfl⟩) | (refine wpList_store_run _ rfl (.tmp 5) (.tmp 26) 74 rfl _ hst ?_))
  go_loopw [27] (fun iv wr => ∃ i : Nat, iv = .int .i64 i ∧ i ≤ 10 ∧ Blk wr w.heap.size #[.slice (some ⟨g, o, none⟩) 64 cap] 24 ∧ Blk wr (w.heap.size + 1) (Array.replicate 15 (.int .i64 0)) 74 ∧ Blk wr W2.heap.size (recC (recTo l i)) 74 ∧ Below w.heap.size w wr) (fun iv _ => 10 - (intOf iv).toNat)
  case atStart => exact ⟨0, rfl, Nat.zero_le _, hX3, hR3, hN3, hB3.out⟩
  case round =>
    obtain ⟨i, rfl, hi, hX, hR, hN, hB⟩ := hrel
    have hszz := recTo_size l i hi
    have hbox := hX.cell 0
    by_cases c : i < 10
    · have hci : (i : Int) < 10 := by omega
      have hC := HD.out wr hB (8 + 4 * i) 4 (.inr (.inr rfl)) (by omega) hbox
      have hE := Lib.hid (recTo_step l i c)
      rw [show ((8 + 4 * i : Nat) : Int) = 8 + 4 * (i : Int) by omega] at hC
      obtain ⟨old, hold⟩ : ∃ old, (recC (recTo l i))[3 + i]? = some old := ⟨_, Array.getElem?_eq_getElem (by omega)⟩
      have q0 := hN.cell (3 + i)
      rw [hold] at q0
      have q1 := hN.free (3 + i)
      generalize val (sub l (8 + 4 * i) 4) = v at *
      have hX' := Lib.hid hX
      have hR' := Lib.hid hR
      have hN' := Lib.hid hN
      have hB' := Lib.hid hB
      clear hX hR hN hB hold hszz
      go_wp2_with (go_at_call 103; refine hC.mono ?_; clear hC; rintro e w1 ⟨rfl, rfl⟩)
      refine ⟨⟨i + 1, rfl, by omega, hX'.out.same (setCell_heap _ _ _ _ _ (by have := hX'.out.lt; have := hZ2.out; simp; omega)), hR'.out.same (setCell_heap _ _ _ _ _ (by have := hZ2.out; simp; omega)), ?_, hB'.out.setCell (by have := hZ2.out; simp; omega) _⟩, ?_⟩
      · rw [← hE.out]; exact hN'.out.setAt _ _
      · simp only [intOf]; omega
    · obtain rfl : i = 10 := by omega
      have hci : ¬ ((10 : Nat) : Int) < 10 := by omega
      rw [recTo_all] at hN
      have hZ1 := zero_at l g o cap 1 1 wr (hS.out.below hg hB) (by omega) (by omega) (by omega)
      have hZ8 := zero_at l g o cap 56 8 wr (hS.out.below hg hB) (by omega) (by omega) (by omega)
      rw [hl] at hZ1 hZ8
      have hM := mayI_any (recOf l) hok wr
      rw [recTo_all] at hszz
      have hld := load_str (ty := 74) hN (by exact Tryz.underlying74) (by rw [hszz]; kernel_rfl)
      have hN' := Lib.hid hN
      clear hX hN hi c hst hX3 hR3 hN3 hB3 HD hS hK
      have hs1 := fun e => decV_some (l := l) e
      have hs2 := fun e => decV_none (l := l) e
      rw [hdv, hde] at hs1 hs2
      generalize allZero (sub l 1 1) = z1 at *
      generalize allZero (sub l 56 8) = z2 at *
      generalize (recOf l).may = m at *
      by_cases hall : (z1 && z2 && m) = true
      · obtain ⟨rfl, rfl⟩ := hs1 hall
        obtain ⟨⟨rfl, rfl⟩, rfl⟩ : (z1 = true ∧ z2 = true) ∧ m = true := by simpa using hall
        clear hs1 hs2 hall hdv hde
        have hL : (recC (recOf l)).size = 15 := hszz
        go_wp2_with (first | (go_at_call 104; refine hZ1.mono ?_; clear hZ1; rintro e w1 ⟨rfl, rfl⟩) | (go_at_call 104; refine hZ8.mono ?_; clear hZ8; rintro e w1 ⟨rfl, rfl⟩) | (go_at_call 105; refine hM.mono ?_; clear hM; rintro e w1 ⟨rfl, hb1⟩; have hst := store_row (ty := 74) (ys := recC (recOf l)) (hR.same (hb1.block _ hR.lt)) (by rw [hL]; kernel_rfl) (by rw [hL]; rfl) (natC_one _); have hld1 := load_str (ty := 74) (hN'.out.same (hb1.block _ hN'.out.lt)) (by exact Tryz.underlying74) (by rw [hL]; kernel_rfl); have hE := Lib.hid (And.intro ((hR.same (hb1.block _ hR.lt)).setRow (recC (recOf l))) (below_setRow (hB.trans (hb1.mono hB.size)) (b := w.heap.size + 1) (by omega) (recC (recOf l)))); clear hb1) | (refine wpList_load_when _ rfl (.tmp 5) 74 rfl _ hld ?_; clear hld) | (refine wpList_load_run _ rfl (.tmp 5) 74 rfl _ hld1 ?_; clear hld1) | (refine wpList_store_run _ rfl (.tmp 2) (.tmp 61) 74 rfl _ hst ?_; clear hst))
        have hlr := load_str (ty := 74) hE.out.1 (by exact Tryz.underlying74) (by rw [hL]; kernel_rfl)
        simp only [Instr.loadAt, Instr.sureAddr, Sem.run_bind, Sem.run_pure, Result.andThen] at hlr
        exact bodyPost_ret (results_cell_tmp rfl rfl hlr rfl) rfl ⟨hE.out.2, rfl⟩
      · obtain ⟨rfl, rfl⟩ := hs2 hall
        clear hs1 hs2 hdv hde
        have hst := fun W (hb1 : Below wr.heap.size wr W) => store_row (w := W) (ty := 74) (ys := Array.replicate 15 (.int .i64 0)) (hR.same (hb1.block _ hR.lt)) (by kernel_rfl) (by rfl) (natC_one (List.replicate 15 0))
        have hE := fun W (hb1 : Below wr.heap.size wr W) => And.intro ((hR.same (hb1.block _ hR.lt)).setRow (Array.replicate 15 (.int .i64 0))) (below_setRow (hB.trans (hb1.mono hB.size)) (b := w.heap.size + 1) (by omega) (Array.replicate 15 (.int .i64 0)))
        have hend : ∀ W (hb1 : Below wr.heap.size wr W), (loadVar 74 ⟨w.heap.size + 1, 0, none⟩).run Tryz.prog (W.setRow (w.heap.size + 1) (Array.replicate 15 (.int .i64 0))) = .ok (.agg (Array.replicate 15 (.int .i64 0))) (W.setRow (w.heap.size + 1) (Array.replicate 15 (.int .i64 0))) := by
          intro W hb1
          have hlr := load_str (ty := 74) (hE W hb1).1 (by exact Tryz.underlying74) (by kernel_rfl)
          simp only [Instr.loadAt, Instr.sureAddr, Sem.run_bind, Sem.run_pure, Result.andThen] at hlr
          exact hlr
        replace hE := Lib.hid hE
        replace hend := Lib.hid hend
        replace hB := Lib.hid hB
        replace hR := Lib.hid hR
        cases z1
        · have hst1 := hst wr (Below.refl _ _)
          clear hst hM
          go_wp2_with (first | (go_at_call 104; refine hZ1.mono ?_; clear hZ1; rintro e w1 ⟨rfl, rfl⟩) | (go_at_call 104; refine hZ8.mono ?_; clear hZ8; rintro e w1 ⟨rfl, rfl⟩) | (refine wpList_store_run _ rfl (.tmp 2) (.tmp 60) 74 rfl _ hst1 ?_))
          exact bodyPost_ret (results_cell_tmp rfl rfl (hend.out _ (Below.refl _ _)) rfl) rfl ⟨(hE.out _ (Below.refl _ _)).2, rfl⟩
        · cases z2
          · have hst1 := hst wr (Below.refl _ _)
            clear hst hM
            go_wp2_with (first | (go_at_call 104; refine hZ1.mono ?_; clear hZ1; rintro e w1 ⟨rfl, rfl⟩) | (go_at_call 104; refine hZ8.mono ?_; clear hZ8; rintro e w1 ⟨rfl, rfl⟩) | (refine wpList_store_run _ rfl (.tmp 2) (.tmp 60) 74 rfl _ hst1 ?_))
            exact bodyPost_ret (results_cell_tmp rfl rfl (hend.out _ (Below.refl _ _)) rfl) rfl ⟨(hE.out _ (Below.refl _ _)).2, rfl⟩
          · cases m
            · go_wp2_with (first | (go_at_call 104; refine hZ1.mono ?_; clear hZ1; rintro e w1 ⟨rfl, rfl⟩) | (go_at_call 104; refine hZ8.mono ?_; clear hZ8; rintro e w1 ⟨rfl, rfl⟩) | (go_at_call 105; refine hM.mono ?_; clear hM; rintro e w1 ⟨rfl, hb1⟩; have hst1 := hst _ hb1; replace hb1 := Lib.hid hb1) | (refine wpList_load_when _ rfl (.tmp 5) 74 rfl _ hld ?_; clear hld) | (refine wpList_store_run _ rfl (.tmp 2) (.tmp 60) 74 rfl _ hst1 ?_; clear hst1))
              exact bodyPost_ret (results_cell_tmp rfl rfl (hend.out _ hb1.out) rfl) rfl ⟨(hE.out _ hb1.out).2, rfl⟩
            · exact absurd rfl hall
end Ck
end Go.Proofs.YtegplehbcdeeoaaGreatDoor
/- A directory's cells in a block, read. -/
namespace Go.Proofs.YtegplehbcdeeoaaGreatDoor
open Go.RowKit

namespace Ck
open Pk Pw
/-- What a cell has: its inode, its name, whether it may be. -/
def rdP (l : B) : Nat × B × Bool :=
  let ino := val (sub l 0 4)
  let n := val (sub l 4 1)
  if ino = 0 then (0, [], allZero l)
  else if n < 1 ∨ 27 < n then (0, [], false)
  else (ino, sub l 5 n, allZero (sub l (5 + n) (27 - n)) && goodName (sub l 5 n))
set_option maxRecDepth 100000 in
theorem cell_any (g o cap k : Nat) (hk : k < 16) (hcap : 512 ≤ cap ∧ cap ≤ 9223372036854775807) (w : World) :
    Calls Tryz.prog 143 #[.slice (some ⟨g, o, none⟩) 512 cap, .int .i64 k] w fun e w' => e = .returned (.slice (some ⟨g, o + 32 * k, none⟩) 32 32) ∧ w = w' := by
  have h1 : (0 : Int) ≤ 32 * (k : Int) := by omega
  have h2 : 32 * (k : Int) + 32 ≤ cap := by omega
  have h3 : 32 * (k : Int) ≤ 32 * (k : Int) + 32 := by omega
  have h4 : (32 * (k : Int)).toNat = 32 * k := by omega
  have h5 : (32 * (k : Int) + 32).toNat = 32 * k + 32 := by omega
  have h6 : ¬ cap = 32 * k := by omega
  go_enter Tryz.func143, Tryz.ntmps143
  go_wp2_with fail
  go_ret
  exact ⟨rfl, rfl⟩
set_option maxRecDepth 100000 in
set_option maxHeartbeats 2000000 in
theorem read_cell (l : B) (hl : l.length = 32) (g o : Nat) (w : World) (hw : KVars w) (hs : SeenAt w g o l) :
    Calls Tryz.prog 142 #[.slice (some ⟨g, o, none⟩) 32 32] w fun e w' => e = .returned (.tuple #[.int .i64 (rdP l).1, .string (mk (rdP l).2.1), .bool (rdP l).2.2]) ∧ Below w.heap.size w w' := by
  have HG1 := get_at l g o 32 0 4 w (.inr (.inr rfl)) hw hs (by omega) (by omega)
  have HG2 := get_at l g o 32 4 1 w (.inl rfl) hw hs (by omega) (by omega)
  have HZ0 := zero_at l g o 32 0 32 w hs (by omega) (by omega) (by omega)
  have hv1 : val (sub l 0 4) < 4294967296 := by have := val_lt (sub l 0 4); rw [sub_len (by omega)] at this; exact this
  have hv2 : val (sub l 4 1) < 256 := by have := val_lt (sub l 4 1); rw [sub_len (by omega)] at this; exact this
  rw [show sub l 0 32 = l by rw [← hl]; exact sub_all l] at HZ0
  obtain ⟨ino, hino⟩ : ∃ x, val (sub l 0 4) = x := ⟨_, rfl⟩
  obtain ⟨n, hn⟩ : ∃ x, val (sub l 4 1) = x := ⟨_, rfl⟩
  rw [hino] at HG1 hv1
  rw [hn] at HG2 hv2
  rw [hl] at HG1 HG2 HZ0
  by_cases c1 : ino = 0
  · subst c1
    have hr : rdP l = (0, [], allZero l) := by unfold rdP; simp only [hino, if_true]
    rw [hr]
    clear hr
    generalize allZero l = z at *
    clear hs hw hino hn
    go_enter Tryz.func142, Tryz.ntmps142
    go_wp2_with (first | (go_at_call 92; refine HG1.mono ?_; clear HG1; rintro e w1 ⟨rfl, rfl⟩) | (go_at_call 92; refine HG2.mono ?_; clear HG2; rintro e w1 ⟨rfl, rfl⟩) | (go_at_call 104; refine HZ0.mono ?_; clear HZ0; rintro e w1 ⟨rfl, rfl⟩))
    go_ret3
    exact ⟨rfl, Below.refl _ _⟩
  · have k1 : ¬ (ino : Int) = 0 := by omega
    by_cases c2 : n < 1 ∨ 27 < n
    · have hr : rdP l = (0, [], false) := by unfold rdP; simp only [hino, hn, if_neg c1, if_pos c2]
      rw [hr]
      clear hr
      clear hs hw hino hn c1
      by_cases c3 : n < 1
      · have c4 : (n : Int) < 1 := by omega
        go_enter Tryz.func142, Tryz.ntmps142
        go_wp2_with (first | (go_at_call 92; refine HG1.mono ?_; clear HG1; rintro e w1 ⟨rfl, rfl⟩) | (go_at_call 92; refine HG2.mono ?_; clear HG2; rintro e w1 ⟨rfl, rfl⟩))
        go_ret3
        exact ⟨rfl, Below.refl _ _⟩
      · have c4 : ¬ (n : Int) < 1 := by omega
        have c5 : (27 : Int) < n := by omega
        go_enter Tryz.func142, Tryz.ntmps142
        go_wp2_with (first | (go_at_call 92; refine HG1.mono ?_; clear HG1; rintro e w1 ⟨rfl, rfl⟩) | (go_at_call 92; refine HG2.mono ?_; clear HG2; rintro e w1 ⟨rfl, rfl⟩))
        go_ret3
        exact ⟨rfl, Below.refl _ _⟩
    · have hr : rdP l = (ino, sub l 5 n, allZero (sub l (5 + n) (27 - n)) && goodName (sub l 5 n)) := by unfold rdP; simp only [hino, hn, if_neg c1, if_neg c2]
      rw [hr]
      clear hr
      have c3 : ¬ (n : Int) < 1 := by omega
      have c4 : ¬ (27 : Int) < n := by omega
      have HZ := zero_at l g o 32 (5 + n) (27 - n) w hs (by omega) (by omega) (by omega)
      rw [hl, show ((5 + n : Nat) : Int) = 5 + (n : Int) by omega, show ((27 - n : Nat) : Int) = 27 - (n : Int) by omega] at HZ
      have hln : (sub l 5 n).length = n := sub_len (by omega)
      have hcv := string_at (cap := n) (hs.part 5 n)
      rw [hln] at hcv
      have HN := name_any (sub l 5 n) w (by omega)
      generalize allZero (sub l (5 + n) (27 - n)) = z at *
      generalize hgn : goodName (sub l 5 n) = gn at *
      generalize sub l 5 n = nm at *
      have q1 : (5 + (n : Int)).toNat = 5 + n := by omega
      have q2 : (5 : Int) ≤ 5 + (n : Int) := by omega
      have q3 : 5 + (n : Int) ≤ 32 := by omega
      clear hs hw hino hn hln hgn
      cases z
      · go_enter Tryz.func142, Tryz.ntmps142
        go_wp2_with (first | (go_at_call 92; refine HG1.mono ?_; clear HG1; rintro e w1 ⟨rfl, rfl⟩) | (go_at_call 92; refine HG2.mono ?_; clear HG2; rintro e w1 ⟨rfl, rfl⟩) | (go_at_call 104; refine HZ.mono ?_; clear HZ; rintro e w1 ⟨rfl, rfl⟩))
        go_ret3
        exact ⟨rfl, Below.refl _ _⟩
      · go_enter Tryz.func142, Tryz.ntmps142
        go_wp2_with (first | (go_at_call 92; refine HG1.mono ?_; clear HG1; rintro e w1 ⟨rfl, rfl⟩) | (go_at_call 92; refine HG2.mono ?_; clear HG2; rintro e w1 ⟨rfl, rfl⟩) | (go_at_call 104; refine HZ.mono ?_; clear HZ; rintro e w1 ⟨rfl, rfl⟩) | (go_at_call 166; refine HN.mono ?_; clear HN; rintro e w1 ⟨rfl, hb1⟩))
        go_ret3
        exact ⟨rfl, hb1⟩
end Ck
end Go.Proofs.YtegplehbcdeeoaaGreatDoor
