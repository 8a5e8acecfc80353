/- Findings as they lie; whether they are none but orphans: the checker's answer, and the reference's. -/
import Derived.Test.YtegplehbcdeeoaaGreatDoorChkB15
import Derived.Test.YtegplehbcdeeoaaGreatDoorChkB16
namespace Go.Proofs.YtegplehbcdeeoaaGreatDoor
open Go.RowKit

namespace Ck
open Pk Pw
/-- A finding, of whatever numbers. -/
structure Fi where
  kind : Int
  inode : Int
  block : Int
  name : B
deriving DecidableEq
/-- A slice shows findings. -/
def FAt (w : World) (ao : Option Addr) (l : List Fi) : Prop := ∀ i f, l[i]? = some f → ∃ g o, ao = some ⟨g, o, none⟩ ∧ w.cell? ⟨g, o + i * 4, none⟩ = some (.int .i64 f.kind) ∧ w.cell? ⟨g, o + i * 4 + 1, none⟩ = some (.int .i64 f.inode) ∧ w.cell? ⟨g, o + i * 4 + 2, none⟩ = some (.int .i64 f.block) ∧ w.cell? ⟨g, o + i * 4 + 3, none⟩ = some (.string (mk f.name))
theorem FAt.below {w w' : World} {ao : Option Addr} {l : List Fi} (h : FAt w ao l) (hlt : ∀ g o, ao = some ⟨g, o, none⟩ → g < w.heap.size) (hb : Below w.heap.size w w') : FAt w' ao l := fun i f hf => by
  obtain ⟨g, o, rfl, e0, e1, e2, e3⟩ := h i f hf
  have hg := hb.block g (hlt g o rfl)
  exact ⟨g, o, rfl, (World.cell?_of_block (a := ⟨g, _, none⟩) hg).trans e0, (World.cell?_of_block (a := ⟨g, _, none⟩) hg).trans e1, (World.cell?_of_block (a := ⟨g, _, none⟩) hg).trans e2, (World.cell?_of_block (a := ⟨g, _, none⟩) hg).trans e3⟩
def cleanP (l : List Fi) : Bool := l.all fun f => decide (f.kind = 18)
theorem clean_take {l : List Fi} {k : Nat} {f : Fi} (h : l[k]? = some f) : cleanP (l.take (k + 1)) = (cleanP (l.take k) && decide (f.kind = 18)) := by
  unfold cleanP
  rw [List.take_add_one, h, List.all_append]
  simp
theorem clean_part {l : List Fi} {k : Nat} {f : Fi} (h : l[k]? = some f) (hk : ¬ f.kind = 18) : cleanP l = false := by
  unfold cleanP
  rw [List.all_eq_false]
  exact ⟨f, List.mem_of_getElem? h, by simpa using hk⟩
set_option maxRecDepth 100000 in
theorem refClean_any (l : List Fi) (ao : Option Addr) (cap : Nat) (w : World) (hl : l.length ≤ 1000000000000000) (hs : FAt w ao l) : Calls Tryz.prog 14 #[.slice ao l.length cap] w fun e w' => e = .returned (.bool (cleanP l)) ∧ w = w' := by
  go_enter Tryz.func14, Tryz.ntmps14
  go_wp2
  go_loopw [3] (fun i wr => wr = w ∧ ∃ k : Nat, k ≤ l.length ∧ i = .int .i64 k ∧ cleanP (l.take k) = true) (fun i _ => l.length - (intOf i).toNat)
  case atStart => exact ⟨rfl, 0, Nat.zero_le _, rfl, rfl⟩
  case round =>
    obtain ⟨rfl, k, hk, rfl, hc⟩ := hrel
    by_cases hlt : k < l.length
    · have hki : (k : Int) < (l.length : Int) := by omega
      obtain ⟨f, hf⟩ : ∃ f, l[k]? = some f := ⟨_, List.getElem?_eq_getElem hlt⟩
      obtain ⟨g, o, rfl, e0, -, -, -⟩ := hs k f hf
      have hct := clean_take hf
      by_cases h18 : f.kind = 18
      · rw [h18] at e0
        have hct' := Lib.hid (show cleanP (l.take (k + 1)) = true by rw [hct, hc, h18]; rfl)
        clear hf hct hc h18 hs
        go_wp2_with fail
        go_roundw
        case rel => exact ⟨by first | rfl | trivial, k + 1, by omega, by go_num, hct'.out⟩
        case measure => simp only [intOf]; omega
      · have hci := Lib.hid (clean_part hf h18)
        have h18b : (f.kind == 18) = false := by rw [beq_eq_false_iff_ne]; exact h18
        generalize f.kind = kd at *
        clear hf hct hc hs
        go_wp2_with fail
        go_ret
        exact ⟨by rw [hci.out]; rfl, rfl⟩
    · have hki : ¬ (k : Int) < (l.length : Int) := by omega
      obtain rfl : k = l.length := by omega
      rw [List.take_length] at hc
      replace hc := Lib.hid hc
      clear hs
      go_wp2_with fail
      go_ret
      exact ⟨by rw [hc.out]; rfl, rfl⟩
theorem cell_in {w : World} {b j : Nat} {v : Value} (h : w.cell? ⟨b, j, none⟩ = some v) : b < w.heap.size := by
  apply Classical.byContradiction
  intro c
  simp [World.cell?, Array.getElem?_eq_none (Nat.le_of_not_lt c)] at h
theorem FAt.at' {w w' : World} {ao : Option Addr} {l : List Fi} (h : FAt w ao l) (hb : Below w.heap.size w w') {i : Nat} {f : Fi} (hf : l[i]? = some f) : ∃ g o, ao = some ⟨g, o, none⟩ ∧ w'.cell? ⟨g, o + i * 4, none⟩ = some (.int .i64 f.kind) ∧ w'.cell? ⟨g, o + i * 4 + 1, none⟩ = some (.int .i64 f.inode) ∧ w'.cell? ⟨g, o + i * 4 + 2, none⟩ = some (.int .i64 f.block) ∧ w'.cell? ⟨g, o + i * 4 + 3, none⟩ = some (.string (mk f.name)) := by
  obtain ⟨g, o, rfl, e0, e1, e2, e3⟩ := h i f hf
  have hg := hb.block g (cell_in e0)
  exact ⟨g, o, rfl, (World.cell?_of_block (a := ⟨g, _, none⟩) hg).trans e0, (World.cell?_of_block (a := ⟨g, _, none⟩) hg).trans e1, (World.cell?_of_block (a := ⟨g, _, none⟩) hg).trans e2, (World.cell?_of_block (a := ⟨g, _, none⟩) hg).trans e3⟩
set_option maxRecDepth 100000 in
set_option maxHeartbeats 1000000 in
theorem clean_any (l : List Fi) (ao : Option Addr) (cap : Nat) (w : World) (hl : l.length ≤ 1000000000000000) (hs : FAt w ao l) : Calls Tryz.prog 12 #[.slice ao l.length cap] w fun e w' => e = .returned (.bool (cleanP l)) ∧ Below w.heap.size w w' := by
  go_enter Tryz.func12, Tryz.ntmps12
  go_wp2
  go_loopw [7] (fun i wr => Hid (Below w.heap.size w wr) ∧ ∃ k : Nat, k ≤ l.length ∧ i = .int .i64 k ∧ cleanP (l.take k) = true) (fun i _ => l.length - (intOf i).toNat)
  case atStart => exact ⟨Lib.hid (Below.refl _ _), 0, Nat.zero_le _, rfl, rfl⟩
  case round =>
    obtain ⟨hb, k, hk, rfl, hc⟩ := hrel
    by_cases hlt : k < l.length
    · have hki : (k : Int) < (l.length : Int) := by omega
      obtain ⟨f, hf⟩ : ∃ f, l[k]? = some f := ⟨_, List.getElem?_eq_getElem hlt⟩
      obtain ⟨g, o, rfl, e0, e1, e2, e3⟩ := hs.at' hb.out hf
      have hct := clean_take hf
      have hst := store_new wr 34 #[.int .i64 0, .int .i64 0, .int .i64 0, .string (mk [])] #[.int .i64 f.kind, .int .i64 f.inode, .int .i64 f.block, .string (mk f.name)] (by kernel_rfl) rfl (by simp [Value.oneCell'])
      have hbn := Lib.hid (hb.out.alloc hb.out.size (.cells #[.int .i64 f.kind, .int .i64 f.inode, .int .i64 f.block, .string (mk f.name)] 34))
      have x0 := (Blk.new wr #[.int .i64 f.kind, .int .i64 f.inode, .int .i64 f.block, .string (mk f.name)] 34).cell 0
      by_cases h18 : f.kind = 18
      · have hct' := Lib.hid (show cleanP (l.take (k + 1)) = true by rw [hct, hc, h18]; rfl)
        generalize f.inode = f1 at *
        generalize f.block = f2 at *
        generalize f.name = f3 at *
        rw [h18] at e0 hst hbn x0
        clear hf hct hc h18 hs
        go_wp2_with (refine wpList_store_run _ rfl (.tmp 4) (.tmp 10) 34 rfl _ hst ?_)
        go_roundw
        case rel => exact ⟨hbn, k + 1, by omega, by go_num, hct'.out⟩
        case measure => simp only [intOf]; omega
      · have hci := Lib.hid (clean_part hf h18)
        have h18b : (f.kind == 18) = false := by rw [beq_eq_false_iff_ne]; exact h18
        generalize f.kind = kd at *
        generalize f.inode = f1 at *
        generalize f.block = f2 at *
        generalize f.name = f3 at *
        clear hf hct hc hs
        go_wp2_with (refine wpList_store_run _ rfl (.tmp 4) (.tmp 10) 34 rfl _ hst ?_)
        go_ret
        exact ⟨by rw [hci.out]; rfl, hbn.out⟩
    · have hki : ¬ (k : Int) < (l.length : Int) := by omega
      obtain rfl : k = l.length := by omega
      rw [List.take_length] at hc
      replace hc := Lib.hid hc
      clear hs
      go_wp2_with fail
      go_ret
      exact ⟨by rw [hc.out]; rfl, hb.out⟩
end Ck
end Go.Proofs.YtegplehbcdeeoaaGreatDoor
/- The same findings? -/
namespace Go.Proofs.YtegplehbcdeeoaaGreatDoor
open Go.RowKit

namespace Ck
open Pk Pw
theorem text_same (a b : B) : ((mk a).toList = (mk b).toList) = (a = b) := by rw [toList_bs, toList_bs]; rfl
theorem eql_fi (a b : Fi) (w : World) : (binOp .eql 34 (.agg #[.int .i64 a.kind, .int .i64 a.inode, .int .i64 a.block, .string (mk a.name)]) (.agg #[.int .i64 b.kind, .int .i64 b.inode, .int .i64 b.block, .string (mk b.name)])).run Tryz.prog w = .ok (.bool (decide (a = b))) w := by
  simp only [binOp]
  simp [Op.equal, Op.maxDepth, go_sem]
  simp only [text_same]
  obtain ⟨k, i, o, n⟩ := a
  obtain ⟨k', i', o', n'⟩ := b
  simp only [Fi.mk.injEq]
  repeat' split
  all_goals simp_all
theorem neq_fi (a b : Fi) (w : World) : (binOp .neq 34 (.agg #[.int .i64 a.kind, .int .i64 a.inode, .int .i64 a.block, .string (mk a.name)]) (.agg #[.int .i64 b.kind, .int .i64 b.inode, .int .i64 b.block, .string (mk b.name)])).run Tryz.prog w = .ok (.bool (!decide (a = b))) w := by
  have := eql_fi a b w
  simp only [binOp] at this ⊢
  rw [Sem.run_bind] at this ⊢
  cases hq : (Op.equal 34 (.agg #[.int .i64 a.kind, .int .i64 a.inode, .int .i64 a.block, .string (mk a.name)]) (.agg #[.int .i64 b.kind, .int .i64 b.inode, .int .i64 b.block, .string (mk b.name)])).run Tryz.prog w with
  | ok t w' =>
    rw [hq] at this
    simp only [Result.andThen, Sem.run_pure, Result.ok.injEq, Value.bool.injEq] at this ⊢
    exact ⟨by rw [this.1], this.2⟩
  | halt h w' =>
    rw [hq] at this
    simp [Result.andThen] at this
set_option maxRecDepth 100000 in
set_option maxHeartbeats 2000000 in
theorem sameF_any (l m : List Fi) (ao bo : Option Addr) (cap cap2 : Nat) (w : World) (hl : l.length ≤ 1000000000000000) (hs : FAt w ao l) (ht : FAt w bo m) : Calls Tryz.prog 15 #[.slice ao l.length cap, .slice bo m.length cap2] w fun e w' => e = .returned (.bool (decide (l = m))) ∧ Below w.heap.size w w' := by
  by_cases hlen : l.length = m.length
  · rw [← hlen]
    have hm := Lib.hid hlen
    clear hlen
    go_enter Tryz.func15, Tryz.ntmps15
    go_wp2_with fail
    go_loopw [5] (fun i wr => Hid (Below w.heap.size w wr) ∧ ∃ k : Nat, k ≤ l.length ∧ i = .int .i64 k ∧ l.take k = m.take k) (fun i _ => l.length - (intOf i).toNat)
    case atStart => exact ⟨Lib.hid (Below.refl _ _), 0, Nat.zero_le _, rfl, rfl⟩
    case round =>
      obtain ⟨hb, k, hk, rfl, hc⟩ := hrel
      by_cases hlt : k < l.length
      · have hki : (k : Int) < (l.length : Int) := by omega
        obtain ⟨f, hf⟩ : ∃ f, l[k]? = some f := ⟨_, List.getElem?_eq_getElem hlt⟩
        obtain ⟨f', hf'⟩ : ∃ f, m[k]? = some f := ⟨_, List.getElem?_eq_getElem (by have := hm.out; omega)⟩
        obtain ⟨g, o, rfl, e0, e1, e2, e3⟩ := hs.at' hb.out hf
        obtain ⟨g', o', rfl, e0', e1', e2', e3'⟩ := ht.at' hb.out hf'
        have hbd := Lib.hid (hb.out.drew)
        by_cases hff : f = f'
        · have hct := Lib.hid (show l.take (k + 1) = m.take (k + 1) by rw [List.take_add_one, List.take_add_one, hf, hf', hc, hff])
          subst hff
          clear hf hf' hc hs ht
          go_wp2_with fail
          go_region
          all_goals
            go_wp2_with fail
            go_roundw
            case rel => exact ⟨hbd, k + 1, by omega, by go_num, hct.out⟩
            case measure => simp only [intOf]; omega
        · have hne := Lib.hid (show decide (l = m) = false from decide_eq_false (fun e => hff (by rw [e, hf'] at hf; cases hf; rfl)))
          have hor : ¬ f.kind = f'.kind ∨ (f.kind = f'.kind ∧ ¬ f.inode = f'.inode) ∨ (f.kind = f'.kind ∧ f.inode = f'.inode ∧ ¬ f.block = f'.block) ∨ (f.kind = f'.kind ∧ f.inode = f'.inode ∧ f.block = f'.block ∧ ¬ (mk f.name).toList = (mk f'.name).toList) := by
            obtain ⟨a1, a2, a3, a4⟩ := f
            obtain ⟨b1, b2, b3, b4⟩ := f'
            simp only [Fi.mk.injEq] at hff
            simp only [text_same]
            by_cases c1 : a1 = b1
            · by_cases c2 : a2 = b2
              · by_cases c3 : a3 = b3
                · exact .inr (.inr (.inr ⟨c1, c2, c3, fun c4 => hff ⟨c1, c2, c3, c4⟩⟩))
                · exact .inr (.inr (.inl ⟨c1, c2, c3⟩))
              · exact .inr (.inl ⟨c1, c2⟩)
            · exact .inl c1
          clear hf hf' hc hs ht hff
          rcases hor with x1 | ⟨x1, x2⟩ | ⟨x1, x2, x3⟩ | ⟨x1, x2, x3, x4⟩
          all_goals
            go_wp2_with fail
            go_region
          all_goals
            go_wp2_with fail
            go_ret
            exact ⟨by rw [hne.out]; rfl, hbd.out⟩
      · have hki : ¬ (k : Int) < (l.length : Int) := by omega
        obtain rfl : k = l.length := by omega
        have he := Lib.hid (show decide (l = m) = true from decide_eq_true (by rw [List.take_length, hm.out, List.take_length] at hc; exact hc))
        clear hs ht hc
        go_wp2_with fail
        go_ret
        exact ⟨by rw [he.out]; rfl, hb.out⟩
  · have hli : ((l.length : Int) == (m.length : Int)) = false := by rw [beq_eq_false_iff_ne]; omega
    have hne := Lib.hid (show decide (l = m) = false from decide_eq_false (fun e => hlen (by rw [e])))
    clear hlen
    go_enter Tryz.func15, Tryz.ntmps15
    go_wp2_with fail
    go_ret
    exact ⟨by rw [hne.out]; rfl, Below.refl _ _⟩
end Ck
end Go.Proofs.YtegplehbcdeeoaaGreatDoor
/- The checker meets a number; what the bitmap says of what is no data. -/
namespace Go.Proofs.YtegplehbcdeeoaaGreatDoor
open Go.RowKit Go.Maps

namespace Ck
open Pk Pw
/-- A look-up that is known. -/
theorem wpList_lookup_run {P : Program} (w : World) {ops : Array Oper} {rest : List Oper} {o : Oper} {a : Act} {Q : Exit → Act → World → Prop}
    (hw : Region.wanted o (yielded ops a.tmps) = true) (t : TypeId) (m k : Operand) (c : Bool) (hop : o.op = Op.lookup t m k c) (v : Value) (hrun : (Instr.lookup t (a.eval m) (a.eval k) c).run P w = .ok v w) (hK : wpList P ops Q rest (a.put o.dst v) w) : wpList P ops Q (o :: rest) a w := by
  refine wpList_step fun K' hK' => ?_
  rw [if_pos hw]
  unfold Oper.wp
  simp [execOp, hop, hrun, Result.andThen]
  exact hK' _ _ hK
/-- A map's update that is known. -/
theorem wpList_update_run {P : Program} (w : World) {ops : Array Oper} {rest : List Oper} {o : Oper} {a : Act} {Q : Exit → Act → World → Prop}
    (hg : o.guard = none) (t : TypeId) (m k v : Operand) (hop : o.op = Op.mapUpdate t m k v) (w' : World) (hrun : (Instr.mapUpdate t (a.eval m) (a.eval k) (a.eval v)).run P w = .ok () w') (hK : wpList P ops Q rest (a.put o.dst undef) w') : wpList P ops Q (o :: rest) a w := by
  refine wpList_plain hg fun K' hK' => ?_
  unfold Oper.wp
  simp [execOp, hop, hrun, Result.andThen]
  exact hK' _ _ hK
section
variable {W : World} {A : Adr} {G : Gh} {s : St} {N : Nat}
theorem zvI (w : World) : (zeroValue 3).run Tryz.prog w = .ok (.int .i64 0) w := by kernel_rfl
def St.tell (s : St) (f : Fnd) : St := { s with found := s.found ++ [f] }
def fnd (kind inode block : Nat) : Fnd := ⟨kind, inode, block, []⟩
/-- A number is met: what is known then; whether the inode has the block. -/
def meetS (n : Nat) (s : St) (nd i : Nat) : St × Bool :=
  if i = 0 then (s, false)
  else if !isDataP n i then (s.tell (fnd 5 nd i), false)
  else if 0 < (s.had i).getD 0 then (s.tell (fnd 6 nd i), false)
  else ({ s with had := fun j => if j = i then some 1 else s.had j }, true)
set_option maxRecDepth 100000 in
set_option maxHeartbeats 1000000 in
theorem meet_any (h : Sim N W A G s) (hN : N ≤ 1000000000000) (nd i : Nat) (hi : i < 4294967296) : Calls Tryz.prog 106 #[.pointer (some ⟨A.c, 0, none⟩), .int .i64 nd, .int .i64 i] W
    fun e W' => e = .returned (.bool (meetS A.n s nd i).2) ∧ ∃ G', Sim (N + 1) W' A G' (meetS A.n s nd i).1 ∧ Stp W G W' G' := by
  by_cases c0 : i = 0
  · subst c0
    have hr : meetS A.n s nd 0 = (s, false) := by unfold meetS; rw [if_pos rfl]
    rw [hr]
    have h' := Lib.hid h
    clear h
    go_enter Tryz.func106, Tryz.ntmps106
    go_wp2_with fail
    go_ret
    exact ⟨rfl, _, h'.out.mono (Nat.le_succ N), Stp.refl _ _⟩
  · have ci : ¬ (i : Int) = 0 := by omega
    have HI := isData_any h i
    by_cases c1 : isDataP A.n i = true
    · rw [c1] at HI
      obtain ⟨q7, q8, q9, q10, q11, q12, q13⟩ := chk_maps h
      have hvI : vI i := by unfold vI; omega
      have hlk := (h.had (by decide)).look Fs.kI (t := 66) Tryz.underlying66 (zvI W) (x := i) hvI (kyI hvI)
      have hm : ((s.had i).map iv).getD (.int .i64 0) = iv ((s.had i).getD 0) := by cases s.had i <;> rfl
      rw [hm] at hlk
      by_cases c2 : 0 < (s.had i).getD 0
      · have hr : meetS A.n s nd i = (s.tell (fnd 6 nd i), false) := by unfold meetS; rw [if_neg c0, if_neg (by rw [c1]; decide), if_pos c2]
        rw [hr]
        have HT := tell_any h hN (fnd 6 nd i)
        have c3 : (0 : Int) < ((s.had i).getD 0 : Nat) := by omega
        generalize (s.had i).getD 0 = hv at *
        clear h hm hr q7 q9 q10 q11 q12 q13 c1 c0
        go_enter Tryz.func106, Tryz.ntmps106
        go_wp2_with (first | (go_at_call 58; refine HI.mono ?_; clear HI; rintro e w1 ⟨rfl, rfl⟩) | (refine wpList_lookup_run _ rfl 66 (.tmp 24) (.tmp 25) false rfl _ hlk ?_) | (go_at_call 60; refine HT.mono ?_; clear HT; rintro e w1 ⟨rfl, hG⟩))
        go_ret
        exact ⟨rfl, hG⟩
      · have hr : meetS A.n s nd i = ({ s with had := fun j => if j = i then some 1 else s.had j }, true) := by unfold meetS; rw [if_neg c0, if_neg (by rw [c1]; decide), if_neg c2]
        rw [hr]
        obtain ⟨W2, u1, u2, u3⟩ := (h.had (by decide)).update Fs.kI (t := 66) Tryz.underlying66 (by unfold maxLen; omega) (kyI hvI) (injI hvI) (v := 1) (val := .int .i64 1) rfl
        have hP := Lib.hid (h.putHad u2 u3)
        have c3 : ¬ (0 : Int) < ((s.had i).getD 0 : Nat) := by omega
        generalize (s.had i).getD 0 = hv at *
        clear h hm hr q7 q9 q10 q11 q12 q13 c1 c0 u2 u3
        go_enter Tryz.func106, Tryz.ntmps106
        go_wp2_with (first | (go_at_call 58; refine HI.mono ?_; clear HI; rintro e w1 ⟨rfl, rfl⟩) | (refine wpList_lookup_run _ rfl 66 (.tmp 24) (.tmp 25) false rfl _ hlk ?_) | (refine wpList_update_run _ rfl 66 (.tmp 36) (.tmp 37) (.const (.int .i64 1)) rfl _ u1 ?_))
        go_ret
        exact ⟨rfl, _, hP.out⟩
    · have c1' : isDataP A.n i = false := by simpa using c1
      rw [c1'] at HI
      have hr : meetS A.n s nd i = (s.tell (fnd 5 nd i), false) := by unfold meetS; rw [if_neg c0, if_pos (by rw [c1']; decide)]
      rw [hr]
      have HT := tell_any h hN (fnd 5 nd i)
      clear h hr c1 c1' c0
      go_enter Tryz.func106, Tryz.ntmps106
      go_wp2_with (first | (go_at_call 58; refine HI.mono ?_; clear HI; rintro e w1 ⟨rfl, rfl⟩) | (go_at_call 60; refine HT.mono ?_; clear HT; rintro e w1 ⟨rfl, hG⟩))
      go_ret
      exact ⟨rfl, hG⟩
set_option maxRecDepth 100000 in
theorem tail_any (h : Sim N W A G s) (hN : N ≤ 1000000000000) (nd i : Nat) : Calls Tryz.prog 107 #[.pointer (some ⟨A.c, 0, none⟩), .int .i64 nd, .int .i64 i] W
    fun e W' => e = .returned (.tuple #[]) ∧ ∃ G', Sim (N + 1) W' A G' (s.tell (fnd 9 nd i)) ∧ Stp W G W' G' := by
  have HT := tell_any h hN (fnd 9 nd i)
  clear h
  go_enter Tryz.func107, Tryz.ntmps107
  go_wp2_with (go_at_call 60; refine HT.mono ?_; clear HT; rintro e w1 ⟨rfl, hG⟩)
  go_end0
  exact ⟨rfl, hG⟩
/-- What the bits say of the first k blocks that are no data. -/
def metaS (n : Nat) (l : B) (s : St) (k : Nat) : St := (List.range k).foldl (fun s i => if !isDataP n i && !bitAt (mapB n l) i then s.tell (fnd 3 0 i) else s) s
theorem metaS_succ (n : Nat) (l : B) (s : St) (k : Nat) : metaS n l s (k + 1) = if !isDataP n k && !bitAt (mapB n l) k then (metaS n l s k).tell (fnd 3 0 k) else metaS n l s k := by
  unfold metaS
  rw [List.range_succ, List.foldl_append]
  rfl
set_option maxRecDepth 100000 in
set_option maxHeartbeats 1000000 in
theorem meta_any (h : Sim N W A G s) (hN : N ≤ 900000000000) : Calls Tryz.prog 28 #[.pointer (some ⟨A.c, 0, none⟩)] W
    fun e W' => e = .returned (.tuple #[]) ∧ ∃ G', Sim (N + 20480) W' A G' (metaS A.n A.bytes s (4096 * ((A.n + 4095) / 4096))) ∧ Stp W G W' G' := by
  have HB := bitmap_at h
  have hn := h.n2
  obtain ⟨m, hm⟩ : ∃ m, (A.n + 4095) / 4096 = m := ⟨_, rfl⟩
  rw [hm] at HB ⊢
  have hm5 : m ≤ 5 := by omega
  have hm := Lib.hid hm
  have h' := Lib.hid h
  clear h
  go_enter Tryz.func28, Tryz.ntmps28
  go_wp2_with fail
  refine HB.mono ?_
  clear HB
  rintro e w1 ⟨⟨cap, rfl⟩, hb1⟩
  have hS1 := Lib.hid (h'.out.below hb1)
  have hT1 := Lib.hid (Stp.of_below (G := G) hb1)
  clear hb1
  go_wp2_with fail
  go_loopw [7] (fun iv wr => ∃ i : Nat, iv = .int .i64 i ∧ i ≤ 4096 * m ∧ Hid (∃ G', Sim (N + i) wr A G' (metaS A.n A.bytes s i) ∧ Stp W G wr G')) (fun iv _ => 4096 * m - (intOf iv).toNat)
  case atStart => exact ⟨0, rfl, Nat.zero_le _, Lib.hid ⟨_, hS1.out, hT1.out⟩⟩
  case round =>
    obtain ⟨i, rfl, hi, hG⟩ := hrel
    by_cases c : i < 4096 * m
    · have hci : (i : Int) < 8 * (512 * (m : Int)) := by omega
      obtain ⟨G1, hS, hT⟩ := hG.out
      have HI := isData_any hS i
      have HO := on_any hS i (by rw [hm.out]; exact c)
      have hsu := Lib.hid (metaS_succ A.n A.bytes s i)
      generalize isDataP A.n i = d at *
      cases d
      · generalize bitAt (mapB A.n A.bytes) i = b at *
        cases b
        · have HT := fun w2 (hb : Below wr.heap.size wr w2) => tell_any (hS.below hb) (by omega) (fnd 3 0 i)
          replace hsu := Lib.hid (show metaS A.n A.bytes s (i + 1) = (metaS A.n A.bytes s i).tell (fnd 3 0 i) from hsu.out)
          replace hT := Lib.hid hT
          replace HT := Lib.hid HT
          clear hS
          go_wp2_with (first | (go_at_call 58; refine HI.mono ?_; clear HI; rintro e w1 ⟨rfl, rfl⟩) | (go_at_call 59; refine HO.mono ?_; clear HO; rintro e w2 ⟨rfl, hb2⟩; replace hb2 := Lib.hid hb2) | (go_at_call 60; refine (HT.out _ hb2.out).mono ?_; clear HT; rintro e w3 ⟨rfl, hG3⟩))
          go_roundw
          case rel =>
            obtain ⟨G2, k1, k2⟩ := hG3
            exact ⟨i + 1, rfl, by omega, Lib.hid ⟨G2, by rw [hsu.out]; exact k1, hT.out.trans ((Stp.of_below hb2.out).trans k2)⟩⟩
          case measure => simp only [intOf]; omega
        · replace hsu := Lib.hid (show metaS A.n A.bytes s (i + 1) = metaS A.n A.bytes s i from hsu.out)
          replace hT := Lib.hid hT
          replace hS := Lib.hid hS
          go_wp2_with (first | (go_at_call 58; refine HI.mono ?_; clear HI; rintro e w1 ⟨rfl, rfl⟩) | (go_at_call 59; refine HO.mono ?_; clear HO; rintro e w2 ⟨rfl, hb2⟩; replace hb2 := Lib.hid hb2))
          go_roundw
          case rel => exact ⟨i + 1, rfl, by omega, Lib.hid ⟨G1, by rw [hsu.out]; exact (hS.out.below hb2.out).mono (Nat.le_succ _), hT.out.trans (Stp.of_below hb2.out)⟩⟩
          case measure => simp only [intOf]; omega
      · replace hsu := Lib.hid (show metaS A.n A.bytes s (i + 1) = metaS A.n A.bytes s i from hsu.out)
        replace hT := Lib.hid hT
        replace hS := Lib.hid hS
        clear HO
        go_wp2_with (first | (go_at_call 58; refine HI.mono ?_; clear HI; rintro e w1 ⟨rfl, rfl⟩))
        go_roundw
        case rel => exact ⟨i + 1, rfl, by omega, Lib.hid ⟨G1, by rw [hsu.out]; exact hS.out.mono (Nat.le_succ _), hT.out⟩⟩
        case measure => simp only [intOf]; omega
    · obtain rfl : i = 4096 * m := by omega
      have hci : ¬ ((4096 * m : Nat) : Int) < 8 * (512 * (m : Int)) := by omega
      go_wp2_with fail
      go_end0
      obtain ⟨G1, hS, hT⟩ := hG.out
      exact ⟨rfl, G1, hS.mono (by omega), hT⟩
end
end Ck
end Go.Proofs.YtegplehbcdeeoaaGreatDoor
/- The checker reads the inode table. -/
namespace Go.Proofs.YtegplehbcdeeoaaGreatDoor
open Go.RowKit Go.Maps

namespace Ck
open Pk Pw
section
variable {W : World} {A : Adr} {G : Gh} {s : St} {N : Nat}
/-- A record's bytes. -/
def recB (n : Nat) (l : B) (j : Nat) : B := sub l (512 * inodesN n + 64 * j) 64
/-- A record is read. -/
def recordS (n : Nat) (l : B) (s : St) (j : Nat) : St :=
  match decP (recB n l j) with
  | none => s.tell (fnd 4 j 0)
  | some x => if j = 0 ∧ ¬ x.all.all (· == 0) = true then s.tell (fnd 4 j 0) else if x.kind ≠ 0 then { s with nodes := fun i => if i = j then some x else s.nodes i } else s
def recordsS (n : Nat) (l : B) (s : St) (k : Nat) : St := (List.range k).foldl (recordS n l) s
theorem recordsS_succ (n : Nat) (l : B) (s : St) (k : Nat) : recordsS n l s (k + 1) = recordS n l (recordsS n l s k) k := by
  unfold recordsS
  rw [List.range_succ, List.foldl_append]
  rfl
theorem neq_rec (x : Rc) (hd : x.dir.length = 10) (W : World) : (binOp .neq 74 (.agg (recC x)) (.agg (Array.replicate 15 (.int .i64 0)))).run Tryz.prog W = .ok (.bool (!x.all.all (· == 0))) W := by
  have := eq_rec x hd W
  simp only [binOp] at this ⊢
  rw [Sem.run_bind] at this ⊢
  cases hq : (Op.equal 74 (.agg (recC x)) (.agg (Array.replicate 15 (.int .i64 0)))).run Tryz.prog W with
  | ok b w' =>
    rw [hq] at this
    simp only [Result.andThen, Sem.run_pure, Result.ok.injEq, Value.bool.injEq] at this ⊢
    exact ⟨by rw [this.1], this.2⟩
  | halt h w' =>
    rw [hq] at this
    simp [Result.andThen] at this
theorem rec_cells (x : Rc) (hd : x.dir.length = 10) : ∃ c0 c1 c2 c3 c4 c5 c6 c7 c8 c9 c10 c11 c12 c13 c14 : Value, recC x = #[c0, c1, c2, c3, c4, c5, c6, c7, c8, c9, c10, c11, c12, c13, c14] := by
  obtain ⟨k, l, s, d, o, t⟩ := x
  match d, hd with
  | [d0, d1, d2, d3, d4, d5, d6, d7, d8, d9], _ => exact ⟨_, _, _, _, _, _, _, _, _, _, _, _, _, _, _, rfl⟩
/-- A guarded operation on two values that is known. -/
theorem wpList_bin_when {P : Program} (w : World) {ops : Array Oper} {rest : List Oper} {o : Oper} {a : Act} {Q : Exit → Act → World → Prop}
    (hg : Region.wanted o (yielded ops a.tmps) = true) (b : BinOp) (t t2 : TypeId) (x y : Operand) (hop : o.op = Op.binOp b t x y t2) (v : Value) (hq : (eqGuard b t x y (a.eval x) (a.eval y)).run P w = .ok () w) (hrun : (binOp b t (a.eval x) (a.eval y)).run P w = .ok v w) (hK : wpList P ops Q rest (a.put o.dst v) w) : wpList P ops Q (o :: rest) a w := by
  refine wpList_step fun K' hK' => ?_
  rw [if_pos hg]
  unfold Oper.wp
  simp [execOp, hop, hq, hrun, Result.andThen]
  exact hK' _ _ hK
set_option maxRecDepth 100000 in
set_option maxHeartbeats 1000000 in
theorem records_any (h : Sim N W A G s) (hN : N ≤ 900000000000) : Calls Tryz.prog 29 #[.pointer (some ⟨A.c, 0, none⟩)] W
    fun e W' => e = .returned (.tuple #[]) ∧ ∃ G', Sim (N + countN A.n) W' A G' (recordsS A.n A.bytes s (countN A.n)) ∧ Stp W G W' G' := by
  have hn := h.n2
  have hn1 := h.n1
  have hlen := h.len
  have hcap := h.cap
  obtain ⟨q0, q1, q2, q3, q4, q5, q6⟩ := chk_cells h
  have hcn : countN A.n ≤ 2048 := by unfold countN; omega
  have hfit : 512 * inodesN A.n + 64 * countN A.n ≤ 512 * A.n := by unfold inodesN countN; omega
  have h' := Lib.hid h
  generalize countN A.n = c at *
  clear h
  go_enter Tryz.func29, Tryz.ntmps29
  go_wp2_with fail
  go_loopw [11] (fun iv wr => ∃ i : Nat, iv = .int .i64 i ∧ i ≤ c ∧ Hid (∃ G', Sim (N + i) wr A G' (recordsS A.n A.bytes s i) ∧ Stp W G wr G')) (fun iv _ => c - (intOf iv).toNat)
  case atStart => exact ⟨0, rfl, Nat.zero_le _, Lib.hid ⟨_, h'.out, Stp.refl _ _⟩⟩
  case round =>
    obtain ⟨i, rfl, hi, hG⟩ := hrel
    by_cases cc : i < c
    · have hci : (i : Int) < (c : Int) := by omega
      obtain ⟨G1, hS, hT⟩ := hG.out
      obtain ⟨p0, p1, p2, p3, p4, p5, p6⟩ := chk_cells hS
      have o1 : (0 : Int) ≤ (inodesN A.n : Int) * 512 + (i : Int) * 64 := by omega
      have o2 : (inodesN A.n : Int) * 512 + (i : Int) * 64 ≤ ((512 * A.n : Nat) : Int) := by omega
      have o3 : (64 : Int) ≤ (A.cap : Int) - ((inodesN A.n : Int) * 512 + (i : Int) * 64) := by omega
      have o4 : ((inodesN A.n : Int) * 512 + (i : Int) * 64).toNat = 512 * inodesN A.n + 64 * i := by omega
      have o5 : ¬ A.cap = 512 * inodesN A.n + 64 * i := by omega
      have hrl : (recB A.n A.bytes i).length = 64 := by unfold recB; exact sub_len (by omega)
      have hD := fun cap (hcp : 64 ≤ cap ∧ cap ≤ 9223372036854775807) => decode_any (recB A.n A.bytes i) hrl A.img (512 * inodesN A.n + 64 * i) cap hcp wr.drew (hS.low _ (by rw [hS.wImg]; decide)).2 hS.kv.drew (by have := hS.img.part (512 * inodesN A.n + 64 * i) 64; rw [Nat.zero_add] at this; exact this)
      have hsu := Lib.hid (recordsS_succ A.n A.bytes s i)
      generalize hst : recordsS A.n A.bytes s i = si at *
      have hrc : recordS A.n A.bytes si i = recordS A.n A.bytes si i := rfl
      conv at hrc => rhs; unfold recordS
      have hSd := Lib.hid hS.drew
      have hTd := Lib.hid (show Stp W G wr.drew G1 from hT.trans (Stp.of_below (Below.refl _ _).drew))
      have hD1 := hD (A.cap - (512 * inodesN A.n + 64 * i)) ⟨by omega, by omega⟩
      clear hD hS hT hst hG
      go_wp2_with fail
      go_region
      generalize wr.drew = wd at *
      go_wp2_with fail
      refine hD1.mono ?_
      clear hD1
      rintro e w2 ⟨hb2, rfl⟩
      have hS2 := hSd.out.below hb2
      have hT2 := hTd.out.trans (Stp.of_below (G := G1) hb2)
      clear hb2
      cases hdp : decP (recB A.n A.bytes i) with
      | none =>
        rw [hdp] at hrc
        replace hrc := Lib.hid hrc
        have e1 : decV (recB A.n A.bytes i) = .agg (Array.replicate 15 (.int .i64 0)) := by unfold decV; rw [hdp]
        have e2 : decE (recB A.n A.bytes i) = 111 := by unfold decE; rw [hdp]; rfl
        rw [e1, e2]
        have hS3 := hS2.alloc (.cells (Array.replicate 15 (.int .i64 0)) 74)
        have hT3 := Lib.hid (hT2.trans (Stp.of_below (G := G1) ((Below.refl _ w2).alloc (Nat.le_refl _) (.cells (Array.replicate 15 (.int .i64 0)) 74))))
        have hstn := store_new w2 74 (Array.replicate 15 (.int .i64 0)) (Array.replicate 15 (.int .i64 0)) (by kernel_rfl) rfl (natC_one (List.replicate 15 0))
        have HT := tell_any hS3 (by omega) (fnd 4 i 0)
        clear hS2 hT2 hS3 e1 e2 hdp
        go_wp2_with (first | (refine wpList_store_run _ rfl (.tmp 4) (.tmp 32) 74 rfl _ hstn ?_) | (go_at_call 60; refine HT.mono ?_; clear HT; rintro e w3 ⟨rfl, hG3⟩))
        go_roundw
        case rel =>
          obtain ⟨G2, k1, k2⟩ := hG3
          exact ⟨i + 1, rfl, by omega, Lib.hid ⟨G2, by rw [hsu.out, hrc.out]; exact k1, hT3.out.trans k2⟩⟩
        case measure => simp only [intOf]; omega
      | some x =>
        rw [hdp] at hrc
        replace hrc := Lib.hid hrc
        have e1 : decV (recB A.n A.bytes i) = .agg (recC x) := by unfold decV; rw [hdp]
        have e2 : decE (recB A.n A.bytes i) = 0 := by unfold decE; rw [hdp]; rfl
        have hxr : x = recOf (recB A.n A.bytes i) := by
          unfold decP at hdp
          split at hdp
          · cases hdp; rfl
          · cases hdp
        have hxd : x.dir.length = 10 := by rw [hxr]; exact (recOf_ok _).dir
        have hxs : (recC x).size = 15 := by rw [hxr, ← recTo_all]; exact recTo_size _ 10 (by omega)
        rw [e1, e2]
        have hS3 := hS2.alloc (.cells (recC x) 74)
        have hT3 := Lib.hid (hT2.trans (Stp.of_below (G := G1) ((Below.refl _ w2).alloc (Nat.le_refl _) (.cells (recC x) 74))))
        have hstn := store_new w2 74 (Array.replicate 15 (.int .i64 0)) (recC x) (by rw [hxs]; kernel_rfl) (by rw [hxs]; rfl) (natC_one _)
        have hX := Blk.new w2 (recC x) 74
        have hld := load_str (ty := 74) hX (by exact Tryz.underlying74) (by rw [hxs]; kernel_rfl)
        have hne := neq_rec x hxd (w2.alloc (.cells (recC x) 74))
        have hk0 := hX.cell 0
        have hk0' : (recC x)[0]? = some (.int .i64 x.kind) := by unfold recC; rw [natC_get]; rfl
        rw [hk0'] at hk0
        have hb3 := hX.lt
        clear hS2 hT2 e1 e2 hdp
        by_cases ci0 : i = 0
        · subst ci0
          have hgd : ∀ W : World, (eqGuard .neq 74 (.tmp 40) (.tmp 41) (.agg (recC x)) (.agg (Array.replicate 15 (.int .i64 0)))).run Tryz.prog W = .ok () W := fun W => run_eqGuard_agg W _ _ _ _ _ _ (by kernel_rfl)
          by_cases hz : x.all.all (· == 0) = true
          · have hk : x.kind = 0 := by
              rw [List.all_eq_true] at hz
              have := hz x.kind (by simp [Rc.all])
              simpa using this
            rw [hz] at hne
            rw [hk] at hk0
            replace hrc := Lib.hid (show recordS A.n A.bytes si 0 = si by rw [hrc.out]; simp only [hz, hk]; simp)
            generalize recC x = C at *
            clear hxd hxr hk hk0' hxs
            replace hS3 := Lib.hid hS3
            go_wp2_with (first | (refine wpList_store_run _ rfl (.tmp 4) (.tmp 32) 74 rfl _ hstn ?_) | (refine wpList_load_when _ rfl (.tmp 4) 74 rfl _ hld ?_) | (refine wpList_bin_when _ rfl .neq 74 74 (.tmp 40) (.tmp 41) rfl _ (hgd _) hne ?_))
            go_roundw
            case rel => exact ⟨1, rfl, by omega, Lib.hid ⟨G1, by rw [hsu.out, hrc.out]; exact hS3.out.mono (by omega), hT3.out⟩⟩
            case measure => simp only [intOf]; omega
          · have hz' : x.all.all (· == 0) = false := by simpa using hz
            rw [hz'] at hne
            replace hrc := Lib.hid (show recordS A.n A.bytes si 0 = si.tell (fnd 4 0 0) by rw [hrc.out]; simp only [hz']; simp)
            have HT := tell_any hS3 (by omega) (fnd 4 0 0)
            generalize recC x = C at *
            clear hxd hxr hk0' hxs hz hz' hS3
            go_wp2_with (first | (refine wpList_store_run _ rfl (.tmp 4) (.tmp 32) 74 rfl _ hstn ?_) | (refine wpList_load_when _ rfl (.tmp 4) 74 rfl _ hld ?_) | (refine wpList_bin_when _ rfl .neq 74 74 (.tmp 40) (.tmp 41) rfl _ (hgd _) hne ?_) | (go_at_call 60; refine HT.mono ?_; clear HT; rintro e w3 ⟨rfl, hG3⟩))
            go_roundw
            case rel =>
              obtain ⟨G2, k1, k2⟩ := hG3
              exact ⟨1, rfl, by omega, Lib.hid ⟨G2, by rw [hsu.out, hrc.out]; exact k1, hT3.out.trans k2⟩⟩
            case measure => simp only [intOf]; omega
        · have ci1 : ¬ (i : Int) = 0 := by omega
          clear hne
          by_cases hk : x.kind = 0
          · rw [hk] at hk0
            replace hrc := Lib.hid (show recordS A.n A.bytes si i = si by rw [hrc.out]; simp [ci0, hk])
            generalize recC x = C at *
            clear hxd hxr hk hk0' hxs ci0
            replace hS3 := Lib.hid hS3
            go_wp2_with (first | (refine wpList_store_run _ rfl (.tmp 4) (.tmp 32) 74 rfl _ hstn ?_) | (refine wpList_load_when _ rfl (.tmp 4) 74 rfl _ hld ?_))
            go_roundw
            case rel => exact ⟨i + 1, rfl, by omega, Lib.hid ⟨G1, by rw [hsu.out, hrc.out]; exact hS3.out.mono (by omega), hT3.out⟩⟩
            case measure => simp only [intOf]; omega
          · have ck : ¬ (x.kind : Int) = 0 := by omega
            replace hrc := Lib.hid (show recordS A.n A.bytes si i = { si with nodes := fun j => if j = i then some x else si.nodes j } by rw [hrc.out]; simp [ci0, hk])
            have hvI : vI i := by unfold vI; omega
            obtain ⟨W4, u1, u2, u3⟩ := ((hS3.drew).nodes (by decide)).update Fs.kI (t := 65) Tryz.underlying65 (by unfold maxLen; omega) (kyI hvI) (injI hvI) (v := x) (val := .agg (recC x)) rfl
            have hP := Lib.hid ((hS3.drew).putNodes u2 u3)
            obtain ⟨m7, _⟩ := chk_maps hS3
            have hX0 := hX.cell 0
            have hXs := fun j => hX.cell j
            obtain ⟨c0, c1, c2, c3, c4, c5, c6, c7, c8, c9, c10, c11, c12, c13, c14, hC⟩ := rec_cells x hxd
            rw [hC] at u1 hXs hstn hld hk0' ⊢
            rw [hC] at hk0 hT3 m7 hb3 hX0 hP
            obtain rfl : c0 = .int .i64 x.kind := by simpa using hk0'
            have y0 := hXs 0
            have y1 := hXs 1
            have y2 := hXs 2
            have y3 := hXs 3
            have y4 := hXs 4
            have y5 := hXs 5
            have y6 := hXs 6
            have y7 := hXs 7
            have y8 := hXs 8
            have y9 := hXs 9
            have y10 := hXs 10
            have y11 := hXs 11
            have y12 := hXs 12
            have y13 := hXs 13
            have y14 := hXs 14
            replace hb3 := Lib.hid hb3
            clear hxd hxr hk0' hxs ci0 hS3 hC hX hXs u2 u3 hX0 hld
            go_wp2_with (first | (refine wpList_store_run _ rfl (.tmp 4) (.tmp 32) 74 rfl _ hstn ?_))
            go_region
            go_wp2_with fail
            go_roundw
            case rel => exact ⟨i + 1, rfl, by omega, Lib.hid ⟨G1, by rw [hsu.out, hrc.out]; exact hP.out.1, hT3.out.trans ((Stp.of_below (G := G1) (Below.refl _ _).drew).trans hP.out.2)⟩⟩
            case measure => simp only [intOf]; omega
    · obtain rfl : i = c := by omega
      have hci : ¬ (i : Int) < (i : Int) := by omega
      go_wp2_with fail
      go_end0
      exact ⟨rfl, hG.out⟩
end
end Ck
end Go.Proofs.YtegplehbcdeeoaaGreatDoor
