/- The walk of the program's Decode. -/
import Derived.Test.YtnmgdlmicgbapaaDoorDAns
import Derived.Test.YtnmgdlmicgbapaaDoorDWDoor
import Derived.Test.YtnmgdlmicgbapaaDoorPWEnc
namespace Go.Proofs.YtnmgdlmicgbapaaDoor
open Go.RowKit Go.Maps

namespace Pw
open Pk
theorem readB_n0 {b t r1 : B} (h : takeB 8 b = some (t, r1)) : readB b = (numB 4 r1).bind fun p => (items p.1 p.2).bind fun q => some q.1 := by unfold readB; rw [h]; rfl
theorem items_none {b r0 : B} {l : List PItem} {k n0 : Nat} (h : k < n0) (hq : readB b = (items (n0 - k) r0).bind fun p => some (l ++ p.1)) (hi : item r0 = none) : readB b = none := by
  rw [hq, show n0 - k = (n0 - (k + 1)) + 1 by omega, items, hi]; rfl
theorem items_next {b r0 r9 : B} {l : List PItem} {x : PItem} {k n0 : Nat} (h : k < n0) (hq : readB b = (items (n0 - k) r0).bind fun p => some (l ++ p.1)) (hi : item r0 = some (x, r9)) : readB b = (items (n0 - (k + 1)) r9).bind fun p => some ((l ++ [x]) ++ p.1) := by
  rw [hq, show n0 - k = (n0 - (k + 1)) + 1 by omega, items, hi, Option.bind_some]
  rcases hx : items (n0 - (k + 1)) r9 with _ | ⟨a, c⟩ <;> simp [hx]
theorem items_stop {b r0 : B} {l : List PItem} {k n0 : Nat} (h : n0 ≤ k) (hq : readB b = (items (n0 - k) r0).bind fun p => some (l ++ p.1)) : readB b = some l := by
  rw [hq, show n0 - k = 0 by omega, items]; simp
theorem nums_none {r6 r : B} {ps : List Int} {j vm : Nat} (h : j < vm) (hq : nums vm r6 = (nums (vm - j) r).bind fun p => some (ps ++ p.1, p.2)) (hi : numB 4 r = none) : nums vm r6 = none := by
  rw [hq, show vm - j = (vm - (j + 1)) + 1 by omega, nums, hi]; rfl
theorem nums_next {r6 r r' : B} {ps : List Int} {j vm v : Nat} (h : j < vm) (hq : nums vm r6 = (nums (vm - j) r).bind fun p => some (ps ++ p.1, p.2)) (hi : numB 4 r = some (v, r')) : nums vm r6 = (nums (vm - (j + 1)) r').bind fun p => some ((ps ++ [(v : Int)]) ++ p.1, p.2) := by
  rw [hq, show vm - j = (vm - (j + 1)) + 1 by omega, nums, hi, Option.bind_some]
  rcases hx : nums (vm - (j + 1)) r' with _ | ⟨a, c⟩ <;> simp [hx]
theorem nums_stop {r6 r : B} {ps : List Int} {j vm : Nat} (h : vm ≤ j) (hq : nums vm r6 = (nums (vm - j) r).bind fun p => some (ps ++ p.1, p.2)) : nums vm r6 = some (ps, r) := by
  rw [hq, show vm - j = 0 by omega, nums]; simp
theorem ans_magic {b : B} (h : b.take 8 ≠ magic) : ansL b = [] ∧ ansE b = 240 := by
  cases hr : readB b with
  | none => exact ans_bad hr
  | some l =>
    refine ans_no hr (fun h2 => h ?_)
    rw [← h2.2]
    rfl
/-- The two variables that the closures hold. -/
structure Pr (w W : World) (v : Value) (n : Int) : Prop where
  pl : W.cell? ⟨w.heap.size, 0, none⟩ = some v
  pe : W.cell? ⟨w.heap.size + 1, 0, none⟩ = some (.int .i64 n)
  bl : Blk W w.heap.size 22
  be : Blk W (w.heap.size + 1) 24
  below : Below w.heap.size w W
theorem Pr.kept {w W W' : World} {v : Value} {n : Int} {row : Option Nat} (h : Pr w W v n) (hg : W.grownBy W' row) (h1 : some w.heap.size ≠ row) (h2 : some (w.heap.size + 1) ≠ row) (hr : ∀ j, row = some j → w.heap.size ≤ j) : Pr w W' v n :=
  ⟨(World.cell?_of_block (a := ⟨_, 0, none⟩) (hg.block _ h.bl.lt h1)).trans h.pl, (World.cell?_of_block (a := ⟨_, 0, none⟩) (hg.block _ h.be.lt h2)).trans h.pe, h.bl.kept hg h1, h.be.kept hg h2, h.below.grown hg h.below.size hr⟩
theorem Pr.setl {w W : World} {v : Value} {n : Int} (h : Pr w W v n) (v' : Value) : Pr w (W.setCell ⟨w.heap.size, 0, none⟩ v') v' n :=
  ⟨World.cell?_setCell_same _ _ _ h.pl, (World.cell?_setCell_other _ _ _ _ (by simp)).trans h.pe, h.bl.set _ _ _, h.be.set _ _ _, h.below.setCell (p := ⟨w.heap.size, 0, none⟩) (Nat.le_refl _) _⟩
theorem Pr.sete {w W : World} {v : Value} {n : Int} (h : Pr w W v n) (n' : Int) : Pr w (W.setCell ⟨w.heap.size + 1, 0, none⟩ (.int .i64 n')) v n' :=
  ⟨(World.cell?_setCell_other _ _ _ _ (by simp)).trans h.pl, World.cell?_setCell_same _ _ _ h.pe, h.bl.set _ _ _, h.be.set _ _ _, h.below.setCell (p := ⟨w.heap.size + 1, 0, none⟩) (by show w.heap.size ≤ w.heap.size + 1; omega) _⟩
theorem Pr.drew {w W : World} {v : Value} {n : Int} (h : Pr w W v n) : Pr w W.drew v n := ⟨h.pl, h.pe, h.bl, h.be, h.below.drew⟩
theorem ne_lr (w : World) : (⟨w.heap.size, 0, none⟩ : Addr) ≠ ⟨w.heap.size + 1, 0, none⟩ := by simp
theorem dans_none {w W : World} {t : TypeId} {b : List UInt8} (h : Below w.heap.size w W) (ha : ansL b = [] ∧ ansE b = 240) : DAns w W t b (.returned (.tuple #[.slice none 0 0, .int .i64 240])) :=
  ⟨.slice none 0 0, [], by rw [ha.2], by rw [ha.1]; exact noItems t h, Apart.nil⟩
theorem shut_gave {w W : World} {v : Value} {n : Int} {b : List UInt8} {tmps : Array Value} (h : Pr w W v n) (ha : ansL b = [] ∧ ansE b = 240) (h2 : tmps[2]? = some (.pointer (some ⟨w.heap.size, 0, none⟩))) (h3 : tmps[3]? = some (.pointer (some ⟨w.heap.size + 1, 0, none⟩))) :
    bodyPostD Tryd.prog Tryd.f5 (fun e w' => DAns w w' 29 b e) (Exit.panic gaveUp) { tmps := tmps, defers := defs ⟨w.heap.size + 1, 0, none⟩ ⟨w.heap.size, 0, none⟩ } W :=
  door_gave (ne_lr w) h2 h3 h.pl h.pe (h.bl.fro 0) (h.be.fro 0) (dans_none ((h.sete 240).drew.setl _).below ha)
theorem shut_no {w W : World} {v : Value} {b : List UInt8} {tmps : Array Value} (h : Pr w W v 240) (ha : ansL b = [] ∧ ansE b = 240) (h2 : tmps[2]? = some (.pointer (some ⟨w.heap.size, 0, none⟩))) (h3 : tmps[3]? = some (.pointer (some ⟨w.heap.size + 1, 0, none⟩))) :
    bodyPostD Tryd.prog Tryd.f5 (fun e w' => DAns w w' 29 b e) Exit.ret { tmps := tmps, defers := defs ⟨w.heap.size + 1, 0, none⟩ ⟨w.heap.size, 0, none⟩ } W :=
  door_no (ne_lr w) h2 h3 h.pl h.pe (h.bl.fro 0) (h.be.fro 0) (dans_none ((h.sete 240).drew.setl _).below ha)
theorem grown_drew (W : World) (row : Option Nat) : W.grownBy W.drew row := ⟨rfl, rfl, rfl, Nat.le_refl _, fun _ _ _ => rfl⟩
theorem Rd.drew {w0 W : World} {rb : Nat} {l : List UInt8} (h : Rd w0 W rb l) : Rd w0 W.drew rb l := h.kept (grown_drew W none) (by simp) (fun j e => by cases e)
theorem Bx.drew {w0 W : World} {tI : TypeId} {bx : Nat} {x : PItem} {sl v : Value} {l : List PItem} {sls : List Value} (h : Bx w0 W tI bx x sl v l sls) : Bx w0 W.drew tI bx x sl v l sls := h.kept (grown_drew W none)
theorem cell_new1 (w : World) (v : Value) (t : TypeId) : (w.alloc (.cells #[v] t)).cell? ⟨w.heap.size, 0, none⟩ = some v := by
  simp only [World.cell?]; rw [heap_alloc_new]; rfl
theorem step_append_int {w : World} {base n : Nat} {sl : Value} {xs : List Value} {p : Int} {g : Nat} {i0 : TypeInfo} (hi0 : Tryd.prog.info? 3 = some i0) (hz0 : i0.zero = some (.int .i64 0)) (hz1 : i0.size = 1) (hz2 : i0.bytes = 8)
    {ops : Array Oper} {o : Oper} {a : Act} {K : Act → World → Prop} {Q : Exit → Act → World → Prop} {E : Prop} (hgd : o.guard = none) (s x : Operand)
    (ho : o.op = .call { callee := .builtin .append, args := #[s, x], argTypes := #[27, 27] }) (hown : w.ownsRow base 3 1 sl n xs) (hs : a.eval s = sl) (hx : a.eval x = .slice (some ⟨g, 0, none⟩) 1 1) (hc : w.cell? ⟨g, 0, none⟩ = some (.int .i64 p)) (hn : n ≤ 100000001) (hb : base ≤ w.heap.size)
    (h : ∀ v' w', w'.ownsRow base 3 1 v' (n + 1) (xs ++ [.int .i64 p]) → w.grownBy w' sl.ownBlock → K (a.put o.dst v') w') : if Region.wanted o (yielded ops a.tmps) = true then Oper.wp Tryd.prog o a w K Q else E := by
  rw [if_pos (by simp [Region.wanted, hgd])]
  refine wp_append_own w s x 27 ho base 3 i0 (.int .i64 0) 1 8 Tryd.underlying27 hi0 hz0 hz1 hz2 rfl (by decide) sl n xs hs hown ⟨g, 0, none⟩ 1 1 [.int .i64 p] hx rfl (fun j u hu => ?_) (intV_one [p]) (by unfold maxLen; omega) (by omega) hb (fun v' w' h1 h2 _ => h v' w' h1 h2)
  cases j with
  | zero => cases hu; exact hc
  | succ j => cases hu
theorem grown_below {W W' : World} (h : Below W.heap.size W W') : W.grownBy W' none := ⟨h.os, h.tape, h.output, h.size, fun k hk _ => h.block k hk⟩
theorem shut_yes {w W : World} {v : Value} {l : List PItem} {sls : List Value} {b : List UInt8} {tmps : Array Value} (h : Pr w W v 0) (hI : ItemsOwn w W 29 [] v l sls) (hA : Apart sls) (ha : ansL b = l ∧ ansE b = 0) (h2 : tmps[2]? = some (.pointer (some ⟨w.heap.size, 0, none⟩))) (h3 : tmps[3]? = some (.pointer (some ⟨w.heap.size + 1, 0, none⟩))) :
    bodyPostD Tryd.prog Tryd.f5 (fun e w' => DAns w w' 29 b e) Exit.ret { tmps := tmps, defers := defs ⟨w.heap.size + 1, 0, none⟩ ⟨w.heap.size, 0, none⟩ } ((W.setCell ⟨w.heap.size, 0, none⟩ v).setCell ⟨w.heap.size + 1, 0, none⟩ (.int .i64 0)) := by
  have hP2 := (h.setl v).sete 0
  have hI1 := hI.touch h.bl (by decide) (h.bl.ne hI.own (by decide)) (grown_set W w.heap.size 0 v) (Nat.le_refl _)
  have hI2 := hI1.touch (h.setl v).be (by decide) ((h.setl v).be.ne hI1.own (by decide)) (grown_set _ (w.heap.size + 1) 0 (.int .i64 0)) (Nat.le_succ _)
  have hI3 := hI2.touch hP2.be (by decide) (hP2.be.ne hI2.own (by decide)) (grown_set _ (w.heap.size + 1) 0 (.int .i64 0)) (Nat.le_succ _)
  refine door_yes (ne_lr w) h2 h3 hP2.pl hP2.pe (hP2.be.fro 0) ⟨v, sls, by rw [ha.2], ?_, hA⟩
  rw [ha.1]
  exact hI3.keep (row := none) (grown_drew _ none) (by cases v.ownBlock <;> simp) (fun s _ => by cases s.ownBlock <;> simp) (fun j e => by cases e)
theorem num_no {w0 W : World} {rb : Nat} {l : List UInt8} (h : Rd w0 W rb l) (n : Nat) (hn : numB n l = none) :
    Calls Tryd.prog 14 #[.pointer (some ⟨rb, 0, none⟩), .int .i64 n] W fun e w' => e = .panicked gaveUp ∧ w' = W :=
  num_less h n (by unfold numB at hn; split at hn; · cases hn
                   · omega)
theorem take_no {w0 W : World} {rb : Nat} {l : List UInt8} (h : Rd w0 W rb l) (n : Nat) (hn : takeB n l = none) :
    Calls Tryd.prog 13 #[.pointer (some ⟨rb, 0, none⟩), .int .i64 n] W fun e w' => e = .panicked gaveUp ∧ w' = W :=
  rd_less h n (by unfold takeB at hn; split at hn; · cases hn
                  · omega)
theorem num_yes {w0 W : World} {rb : Nat} {l r : List UInt8} {v : Nat} (h : Rd w0 W rb l) (n : Nat) (hwd : isW n) (hn : numB n l = some (v, r)) (hw : w0.cell? ⟨1, n, none⟩ = some (.bool true)) (hw0 : 1 < w0.heap.size) :
    Calls Tryd.prog 14 #[.pointer (some ⟨rb, 0, none⟩), .int .i64 n] W fun e w' => e = .returned (.int .i64 v) ∧ Rd w0 w' rb r ∧ W.grownBy w' (some rb) := by
  unfold numB at hn
  split at hn
  · rename_i hl
    cases hn
    exact num_there h n hwd hl hw hw0
  · cases hn
theorem take_yes {w0 W : World} {rb : Nat} {l r t : List UInt8} (h : Rd w0 W rb l) (n : Nat) (hn : takeB n l = some (t, r)) :
    Calls Tryd.prog 13 #[.pointer (some ⟨rb, 0, none⟩), .int .i64 n] W fun e w' => e = .returned (.string (mk t)) ∧ Rd w0 w' rb r ∧ W.grownBy w' (some rb) := by
  unfold takeB at hn
  split at hn
  · rename_i hl
    cases hn
    exact rd_bytes h n hl
  · cases hn
theorem rd_new (w W : World) (b : List UInt8) (ao : Option Addr) (ca : Nat) (hs : BytesSeen w ao b) (hnil : ao = none → b.length = 0 ∧ ca = 0) (hca : b.length ≤ ca ∧ ca ≤ 9223372036854775807) (hb : Below w.heap.size w W) :
    Rd w (W.alloc (.cells #[.slice ao b.length ca] 41)) W.heap.size b := by
  have hB := Blk.new W #[.slice ao b.length ca] 41
  exact ⟨⟨ao, ca, by simp only [World.cell?]; rw [heap_alloc_new]; rfl, hs, hnil, hca⟩, hB.fro 0, hB, hB.lt, hb.size, hb.alloc hb.size _⟩
theorem pr_new (w : World) : Pr w ((w.alloc (.cells #[.slice none 0 0] 22)).alloc (.cells #[.int .i64 0] 24)) (.slice none 0 0) 0 := by
  have b1 := (Blk.new w #[.slice none 0 0] 22).alloc (.cells #[.int .i64 0] 24)
  have b2 := Blk.new (w.alloc (.cells #[.slice none 0 0] 22)) #[.int .i64 0] 24
  have hz : (w.alloc (.cells #[.slice none 0 0] 22)).heap.size = w.heap.size + 1 := by simp
  rw [hz] at b2
  have hbl : Below w.heap.size w (w.alloc (.cells #[.slice none 0 0] 22)) := (Below.refl _ _).alloc (Nat.le_refl _) _
  refine ⟨?_, ?_, b1, b2, hbl.alloc hbl.size _⟩
  · have := World.cell?_of_block (a := ⟨w.heap.size, 0, none⟩) ((grown_alloc (w.alloc (.cells #[.slice none 0 0] 22)) (.cells #[.int .i64 0] 24)).block w.heap.size (by rw [hz]; omega) (by simp))
    rw [this]
    simp only [World.cell?]; rw [heap_alloc_new]; rfl
  · rw [← hz]
    simp only [World.cell?]; rw [heap_alloc_new]; rfl
set_option maxRecDepth 100000 in
set_option maxHeartbeats 8000000 in
theorem pdecode_any (b : List UInt8) (ao : Option Addr) (ca : Nat) (w : World) (hs : BytesSeen w ao b) (hnil : ao = none → b.length = 0 ∧ ca = 0) (hca : b.length ≤ ca ∧ ca ≤ 9223372036854775807) (hbl : b.length ≤ 100000000) (ht : Tabs w) :
    Calls Tryd.prog 5 #[.slice ao b.length ca] w fun e w' => DAns w w' 29 b e := by
  obtain ⟨i0, hi0, hz0, hz1, hz2⟩ := intInfo
  obtain ⟨j0, hj0, hy0, hy1, hy2⟩ := itemInfo
  have hmf : ∀ (fn : Fn) (first cap : Array Value) (w : World), (Instr.makeFunc fn first cap).run Tryd.prog w = .ok (.func fn first cap) w := fun _ _ _ _ => rfl
  have hP00 := pr_new w
  have hR00 := rd_new w _ b ao ca hs hnil hca hP00.below
  have hP0 := hP00.kept (grown_alloc _ (.cells #[.slice ao b.length ca] 41)) (by simp) (by simp) (fun j e => by cases e)
  have hz : ((w.alloc (.cells #[.slice none 0 0] 22)).alloc (.cells #[.int .i64 0] 24)).heap.size = w.heap.size + 1 + 1 := by simp
  rw [hz] at hR00
  clear hz hP00
  go_enter_defers Tryd.func5, Tryd.ntmps5
  go_wp2_with fail
  have hrb : some w.heap.size ≠ some (w.heap.size + 1 + 1) ∧ some (w.heap.size + 1) ≠ some (w.heap.size + 1 + 1) := ⟨by simp; omega, by simp⟩
  generalize ((w.alloc (.cells #[.slice none 0 0] 22)).alloc (.cells #[.int .i64 0] 24)).alloc (.cells #[.slice ao b.length ca] 41) = y0 at *
  rcases hE : takeB 8 b with _ | ⟨tm, r1⟩
  · have ha := Lib.hid (ans_bad (show readB b = none by unfold readB; rw [hE]; rfl))
    refine (take_no hR00 8 hE).mono ?_
    rintro e y ⟨rfl, rfl⟩
    clear hE
    go_wp2_with fail
    exact shut_gave hP0 ha.out rfl rfl
  have H1 := take_yes hR00 8 hE
  refine H1.mono ?_
  rintro e y1 ⟨rfl, hR1, hg1⟩
  have hP1 := hP0.kept hg1 hrb.1 hrb.2 (fun j e => by cases e; exact hR00.ge)
  have htm : tm = b.take 8 := by
    unfold takeB at hE
    split at hE
    · cases hE; rfl
    · cases hE
  have hle1 := (takeB_some hE).2
  by_cases hmg : b.take 8 = magic
  rotate_left
  · have ha := Lib.hid (ans_magic hmg)
    have k8 : ((mk tm).toList == [66, 79, 76, 69, 80, 65, 75, 49]) = false := by rw [htm, mk_toList]; exact beq_eq_false_iff_ne.2 hmg
    have q1 := hP1.pl
    have q2 := hP1.pe
    have g1 := hP1.bl.fro 0
    have g2 := hP1.be.fro 0
    clear hE H1 hg1 hP0 hR00 htm hmg
    go_wp2_with fail
    exact shut_no ((hP1.setl _).sete 240) ha.out rfl rfl
  have k8 : ((mk tm).toList == [66, 79, 76, 69, 80, 65, 75, 49]) = true := by rw [htm, hmg, mk_toList]; rfl
  have E1 := Lib.hid hE
  clear hE H1 hg1 hP0 hR00 htm hmg
  go_wp2_with fail
  rcases hE : numB 4 r1 with _ | ⟨n0, r2⟩
  · have ha := Lib.hid (ans_bad (show readB b = none by rw [readB_n0 E1.out, hE]; rfl))
    refine (num_no hR1 4 hE).mono ?_
    rintro e y ⟨rfl, rfl⟩
    clear hE
    go_wp2_with fail
    exact shut_gave hP1 ha.out rfl rfl
  obtain ⟨_, hn0, le2⟩ := numB_some hE
  replace hn0 : n0 < 4294967296 := hn0
  have hn0i : (n0 : Int) < 4294967296 := by omega
  have H2 := num_yes hR1 4 isW4 hE (ht.widths 4 isW4) ht.widthsLt
  have HQ0 : Hid (readB b = (items (n0 - 0) r2).bind fun p => some ([] ++ p.1)) := by show readB b = _; rw [readB_n0 E1.out, hE]; rfl
  clear hE
  refine H2.mono ?_
  rintro e y2 ⟨rfl, hR2, hg2⟩
  have hP2 := hP1.kept hg2 hrb.1 hrb.2 (fun j e => by cases e; exact hR1.ge)
  clear H2 hg2 hP1 hR1
  go_wp2_with fail
  go_loopw [18] (fun iv wr => ∃ (k : Nat) (r0 : B) (v : Value) (l : List PItem) (sls : List Value), k ≤ n0 ∧ iv = .int .i64 k ∧ Rd w wr (w.heap.size + 1 + 1) r0 ∧ Pr w wr v 0 ∧ ItemsOwn w wr 29 [] v l sls ∧ Apart sls ∧ Hid (readB b = (items (n0 - k) r0).bind fun p => some (l ++ p.1)) ∧ Hid (l.length = k) ∧ 19 * k + r0.length ≤ b.length) (fun i _ => n0 - (intOf i).toNat)
  case atStart => exact ⟨0, r2, _, [], [], Nat.zero_le _, rfl, hR2, hP2, noItems _ hP2.below, Apart.nil, HQ0.out, rfl, by omega⟩
  case round =>
    obtain ⟨k, r0, v, l, sls, hk, rfl, hR, hP, hI, hA, HQ, HL, hkb⟩ := hrel
    by_cases hlt : k < n0
    · have hki : (k : Int) < (n0 : Int) := by omega
        -- ROUND
      have hX0 : Bx w (wr.alloc (.cells #[.string ⟨#[]⟩, .int .i64 0, .int .i64 0, .string ⟨#[]⟩, .slice none 0 0, .int .i64 0] 29)) 29 wr.heap.size noItem (.slice none 0 0) v l sls := bx_new hI
      have hR0 := hR.kept (grown_alloc wr (.cells #[.string ⟨#[]⟩, .int .i64 0, .int .i64 0, .string ⟨#[]⟩, .slice none 0 0, .int .i64 0] 29)) (by simp) (fun j e => by cases e)
      have hP0 := hP.kept (grown_alloc wr (.cells #[.string ⟨#[]⟩, .int .i64 0, .int .i64 0, .string ⟨#[]⟩, .slice none 0 0, .int .i64 0] 29)) (by simp) (by simp) (fun j e => by cases e)
      have hrl := hR.lt
      clear hR hP hI
      go_wp2_with fail
      generalize (wr.alloc (.cells #[.string ⟨#[]⟩, .int .i64 0, .int .i64 0, .string ⟨#[]⟩, .slice none 0 0, .int .i64 0] 29)) = y0 at *
      generalize wr.heap.size = bx at *
      rcases hE : numB 1 r0 with _ | ⟨vk, r1⟩
      · have hi : item r0 = none := by unfold item; simp only [hE, Option.bind_none]
        have ha := Lib.hid (ans_bad (items_none hlt HQ.out hi))
        refine (num_no hR0 1 hE).mono ?_
        rintro e y ⟨rfl, rfl⟩
        clear hi hE HQ
        go_wp2_with fail
        exact shut_gave hP0 ha.out rfl rfl
      obtain ⟨_, b1, le1⟩ := numB_some hE
      replace b1 : vk < 256 := b1
      have bi1 : (vk : Int) < 256 := by omega
      have H1 := num_yes hR0 1 isW1 hE (ht.widths 1 isW1) ht.widthsLt
      have E1 := Lib.hid hE
      clear hE
      refine H1.mono ?_
      rintro e y1 ⟨rfl, hR1, hg1⟩
      have hX1 := hX0.read hR0.blk (by decide) (by decide) hR0.ge hg1
      have hP1 := hP0.kept hg1 hrb.1 hrb.2 (fun j e => by cases e; exact hR0.ge)
      clear H1 hg1 hX0 hR0 hP0
      have q := hX1.box 1 _ rfl
      have g := hX1.blk.fro 1
      go_wp2_with fail
      have hX2 := hX1.store (i := 1) (c := (.int .i64 vk)) (x' := (⟨[], vk, 0, [], [], 0⟩ : PItem)) (sl' := (.slice none 0 0)) (by decide) (by decide) rfl hX1.ints
      have hR2 := hR1.kept (grown_set y1 bx 1 (.int .i64 vk)) (by simp; omega) (fun j e => by cases e; omega)
      have hP2 := hP1.kept (grown_set y1 bx 1 (.int .i64 vk)) (by simp; omega) (by simp; omega) (fun j e => by cases e; omega)
      generalize y1.setCell ⟨bx, 1, none⟩ (.int .i64 vk) = y2 at *
      clear q g hX1 hR1 hP1 
      rcases hE : numB 2 r1 with _ | ⟨vn, r3⟩
      · have hi : item r0 = none := by unfold item; simp only [E1.out, hE, Option.bind_some, Option.bind_none]
        have ha := Lib.hid (ans_bad (items_none hlt HQ.out hi))
        refine (num_no hR2 2 hE).mono ?_
        rintro e y ⟨rfl, rfl⟩
        clear hi hE HQ
        go_wp2_with fail
        exact shut_gave hP2 ha.out rfl rfl
      obtain ⟨_, b3, le3⟩ := numB_some hE
      replace b3 : vn < 65536 := b3
      have bi3 : (vn : Int) < 65536 := by omega
      have H3 := num_yes hR2 2 isW2 hE (ht.widths 2 isW2) ht.widthsLt
      have E3 := Lib.hid hE
      clear hE
      refine H3.mono ?_
      rintro e y3 ⟨rfl, hR3, hg3⟩
      have hX3 := hX2.read hR2.blk (by decide) (by decide) hR2.ge hg3
      have hP3 := hP2.kept hg3 hrb.1 hrb.2 (fun j e => by cases e; exact hR2.ge)
      clear H3 hg3 hX2 hR2 hP2
      go_wp2_with fail
      rcases hE : takeB vn r3 with _ | ⟨tp, r4⟩
      · have hi : item r0 = none := by unfold item; simp only [E1.out, E3.out, hE, Option.bind_some, Option.bind_none]
        have ha := Lib.hid (ans_bad (items_none hlt HQ.out hi))
        refine (take_no hR3 vn hE).mono ?_
        rintro e y ⟨rfl, rfl⟩
        clear hi hE HQ
        go_wp2_with fail
        exact shut_gave hP3 ha.out rfl rfl
      obtain ⟨_, le4⟩ := takeB_some hE
      have H4 := take_yes hR3 vn hE
      have E4 := Lib.hid hE
      clear hE
      refine H4.mono ?_
      rintro e y4 ⟨rfl, hR4, hg4⟩
      have hX4 := hX3.read hR3.blk (by decide) (by decide) hR3.ge hg4
      have hP4 := hP3.kept hg4 hrb.1 hrb.2 (fun j e => by cases e; exact hR3.ge)
      clear H4 hg4 hX3 hR3 hP3
      have q := hX4.box 0 _ rfl
      have g := hX4.blk.fro 0
      go_wp2_with fail
      have hX5 := hX4.store (i := 0) (c := (.string (mk tp))) (x' := (⟨tp, vk, 0, [], [], 0⟩ : PItem)) (sl' := (.slice none 0 0)) (by decide) (by decide) rfl hX4.ints
      have hR5 := hR4.kept (grown_set y4 bx 0 (.string (mk tp))) (by simp; omega) (fun j e => by cases e; omega)
      have hP5 := hP4.kept (grown_set y4 bx 0 (.string (mk tp))) (by simp; omega) (by simp; omega) (fun j e => by cases e; omega)
      generalize y4.setCell ⟨bx, 0, none⟩ (.string (mk tp)) = y5 at *
      clear q g hX4 hR4 hP4 
      rcases hE : numB 4 r4 with _ | ⟨vs, r6⟩
      · have hi : item r0 = none := by unfold item; simp only [E1.out, E3.out, E4.out, hE, Option.bind_some, Option.bind_none]
        have ha := Lib.hid (ans_bad (items_none hlt HQ.out hi))
        refine (num_no hR5 4 hE).mono ?_
        rintro e y ⟨rfl, rfl⟩
        clear hi hE HQ
        go_wp2_with fail
        exact shut_gave hP5 ha.out rfl rfl
      obtain ⟨_, b6, le6⟩ := numB_some hE
      replace b6 : vs < 4294967296 := b6
      have bi6 : (vs : Int) < 4294967296 := by omega
      have H6 := num_yes hR5 4 isW4 hE (ht.widths 4 isW4) ht.widthsLt
      have E6 := Lib.hid hE
      clear hE
      refine H6.mono ?_
      rintro e y6 ⟨rfl, hR6, hg6⟩
      have hX6 := hX5.read hR5.blk (by decide) (by decide) hR5.ge hg6
      have hP6 := hP5.kept hg6 hrb.1 hrb.2 (fun j e => by cases e; exact hR5.ge)
      clear H6 hg6 hX5 hR5 hP5
      have q := hX6.box 5 _ rfl
      have g := hX6.blk.fro 5
      go_wp2_with fail
      have hX7 := hX6.store (i := 5) (c := (.int .i64 ((vs : Int) - 1))) (x' := (⟨tp, vk, 0, [], [], (vs : Int) - 1⟩ : PItem)) (sl' := (.slice none 0 0)) (by decide) (by decide) rfl hX6.ints
      have hR7 := hR6.kept (grown_set y6 bx 5 (.int .i64 ((vs : Int) - 1))) (by simp; omega) (fun j e => by cases e; omega)
      have hP7 := hP6.kept (grown_set y6 bx 5 (.int .i64 ((vs : Int) - 1))) (by simp; omega) (by simp; omega) (fun j e => by cases e; omega)
      generalize y6.setCell ⟨bx, 5, none⟩ (.int .i64 ((vs : Int) - 1)) = y7 at *
      clear q g hX6 hR6 hP6 
      rcases hE : numB 4 r6 with _ | ⟨vz, r8⟩
      · have hi : item r0 = none := by unfold item; simp only [E1.out, E3.out, E4.out, E6.out, hE, Option.bind_some, Option.bind_none]
        have ha := Lib.hid (ans_bad (items_none hlt HQ.out hi))
        refine (num_no hR7 4 hE).mono ?_
        rintro e y ⟨rfl, rfl⟩
        clear hi hE HQ
        go_wp2_with fail
        exact shut_gave hP7 ha.out rfl rfl
      obtain ⟨_, b8, le8⟩ := numB_some hE
      replace b8 : vz < 4294967296 := b8
      have bi8 : (vz : Int) < 4294967296 := by omega
      have H8 := num_yes hR7 4 isW4 hE (ht.widths 4 isW4) ht.widthsLt
      have E8 := Lib.hid hE
      clear hE
      refine H8.mono ?_
      rintro e y8 ⟨rfl, hR8, hg8⟩
      have hX8 := hX7.read hR7.blk (by decide) (by decide) hR7.ge hg8
      have hP8 := hP7.kept hg8 hrb.1 hrb.2 (fun j e => by cases e; exact hR7.ge)
      clear H8 hg8 hX7 hR7 hP7
      have q := hX8.box 2 _ rfl
      have g := hX8.blk.fro 2
      go_wp2_with fail
      have hX9 := hX8.store (i := 2) (c := (.int .i64 vz)) (x' := (⟨tp, vk, vz, [], [], (vs : Int) - 1⟩ : PItem)) (sl' := (.slice none 0 0)) (by decide) (by decide) rfl hX8.ints
      have hR9 := hR8.kept (grown_set y8 bx 2 (.int .i64 vz)) (by simp; omega) (fun j e => by cases e; omega)
      have hP9 := hP8.kept (grown_set y8 bx 2 (.int .i64 vz)) (by simp; omega) (by simp; omega) (fun j e => by cases e; omega)
      generalize y8.setCell ⟨bx, 2, none⟩ (.int .i64 vz) = y9 at *
      clear q g hX8 hR8 hP8 
      rcases hE : numB 4 r8 with _ | ⟨vm, r10⟩
      · have hi : item r0 = none := by unfold item; simp only [E1.out, E3.out, E4.out, E6.out, E8.out, hE, Option.bind_some, Option.bind_none]
        have ha := Lib.hid (ans_bad (items_none hlt HQ.out hi))
        refine (num_no hR9 4 hE).mono ?_
        rintro e y ⟨rfl, rfl⟩
        clear hi hE HQ
        go_wp2_with fail
        exact shut_gave hP9 ha.out rfl rfl
      obtain ⟨_, b10, le10⟩ := numB_some hE
      replace b10 : vm < 4294967296 := b10
      have bi10 : (vm : Int) < 4294967296 := by omega
      have H10 := num_yes hR9 4 isW4 hE (ht.widths 4 isW4) ht.widthsLt
      have E10 := Lib.hid hE
      clear hE
      refine H10.mono ?_
      rintro e y10 ⟨rfl, hR10, hg10⟩
      have hX10 := hX9.read hR9.blk (by decide) (by decide) hR9.ge hg10
      have hP10 := hP9.kept hg10 hrb.1 hrb.2 (fun j e => by cases e; exact hR9.ge)
      clear H10 hg10 hX9 hR9 hP9
      go_wp2_with fail
      go_loopw [37] (fun iv wy => ∃ (j : Nat) (r : B) (ps : List Int) (sl : Value), j ≤ vm ∧ iv = .int .i64 j ∧ Rd w wy (w.heap.size + 1 + 1) r ∧ Pr w wy v 0 ∧ Bx w wy 29 bx ⟨tp, vk, vz, [], ps, (vs : Int) - 1⟩ sl v l sls ∧ Hid (nums vm r10 = (nums (vm - j) r).bind fun p => some (ps ++ p.1, p.2)) ∧ Hid (ps.length = j) ∧ 4 * j + r.length ≤ r10.length) (fun i _ => vm - (intOf i).toNat)
      case atStart => exact ⟨0, r10, [], _, Nat.zero_le _, rfl, hR10, hP10, hX10, (by show nums vm r10 = (nums vm r10).bind _; rcases nums vm r10 with _ | ⟨a, c⟩ <;> rfl), rfl, by omega⟩
      case round =>
        obtain ⟨j, r, ps, sl, hj, rfl, hRj, hPj, hXj, HQj, HLj, hjb⟩ := hrel
        clear hR10 hP10 hX10
        by_cases hjl : j < vm
        · have hji : (j : Int) < (vm : Int) := by omega
          have hRd := hRj.drew
          have hPd := hPj.drew
          have hXd := hXj.drew
          have q := hXj.box 4 _ rfl
          have hpl : ps.length ≤ 100000001 := by rw [HLj.out]; omega
          rcases hE : numB 4 r with _ | ⟨vp, r'⟩
          · have hi : item r0 = none := by unfold item; simp only [E1.out, E3.out, E4.out, E6.out, E8.out, E10.out, nums_none hjl HQj.out hE, Option.bind_some, Option.bind_none]
            have ha := Lib.hid (ans_bad (items_none hlt HQ.out hi))
            have HN := num_no hRd 4 hE
            clear hi hE HQ HQj HLj
            go_wp2_with fail
            refine Dr.wp_region_orders (by kernel_rfl) [[0, 1, 2, 3, 4, 5, 6, 7], [0, 2, 1, 3, 4, 5, 6, 7], [0, 2, 3, 1, 4, 5, 6, 7], [0, 2, 3, 4, 1, 5, 6, 7], [2, 0, 1, 3, 4, 5, 6, 7], [2, 0, 3, 1, 4, 5, 6, 7], [2, 0, 3, 4, 1, 5, 6, 7], [2, 3, 0, 1, 4, 5, 6, 7], [2, 3, 0, 4, 1, 5, 6, 7], [2, 3, 4, 0, 1, 5, 6, 7]] (by kernel_rfl) (by kernel_rfl) ?_
            intro o ho
            simp only [List.mem_cons, List.not_mem_nil, or_false] at ho
            rcases ho with rfl | rfl | rfl | rfl | rfl | rfl | rfl | rfl | rfl | rfl
            all_goals
              simp only [Dr.pick, List.drop_succ_cons, List.drop_zero, List.take_succ_cons, List.take_zero, List.cons_append, List.nil_append]
              go_wp2_with fail
              refine HN.mono ?_
              rintro e y ⟨rfl, rfl⟩
              go_wp2_with fail
              exact shut_gave hPd ha.out rfl rfl
          obtain ⟨_, bp, lep⟩ := numB_some hE
          replace bp : vp < 4294967296 := bp
          have bpi : (vp : Int) < 4294967296 := by omega
          have HY := num_yes hRd 4 isW4 hE (ht.widths 4 isW4) ht.widthsLt
          have HQn : Hid (nums vm r10 = (nums (vm - (j + 1)) r').bind fun p => some ((ps ++ [(vp : Int)]) ++ p.1, p.2)) := nums_next hjl HQj.out hE
          have hrk := hRj.blk
          have hrkd := hRd.blk
          have hrg := hRj.ge
          clear hE HQj
          go_wp2_with fail
          refine Dr.wp_region_orders (by kernel_rfl) [[0, 1, 2, 3, 4, 5, 6, 7], [0, 2, 1, 3, 4, 5, 6, 7], [0, 2, 3, 1, 4, 5, 6, 7], [0, 2, 3, 4, 1, 5, 6, 7], [2, 0, 1, 3, 4, 5, 6, 7], [2, 0, 3, 1, 4, 5, 6, 7], [2, 0, 3, 4, 1, 5, 6, 7], [2, 3, 0, 1, 4, 5, 6, 7], [2, 3, 0, 4, 1, 5, 6, 7], [2, 3, 4, 0, 1, 5, 6, 7]] (by kernel_rfl) (by kernel_rfl) ?_
          intro o ho
          simp only [List.mem_cons, List.not_mem_nil, or_false] at ho
          rcases ho with rfl | rfl | rfl | rfl | rfl | rfl | rfl | rfl | rfl | rfl
          all_goals
            simp only [Dr.pick, List.drop_succ_cons, List.drop_zero, List.take_succ_cons, List.take_zero, List.cons_append, List.nil_append]
            go_wp2_with fail
            refine HY.mono ?_
            rintro e z1 ⟨rfl, hRp, hgp⟩
            have hXp := hXd.read hrkd (by decide) (by decide) hrg hgp
            have q' := hXp.box 4 _ rfl
            have hXa := hXp.kept (grown_alloc z1 (.cells #[.int .i64 vp] 3))
            have hbxl := hXa.blk.lt
            have q'' := hXa.box 4 _ rfl
            go_wp2_with (at_builtin; refine wpList_append_own_at _ rfl (.tmp 40) (.tmp 43) 27 rfl bx 3 i0 (.int .i64 0) 1 8 Tryd.underlying27 hi0 hz0 hz1 hz2 rfl (by decide) sl ps.length _ rfl hXa.ints.own ⟨z1.heap.size, 0, none⟩ 1 1 [.int .i64 (vp : Int)] rfl rfl (news_new _ _ _) (intV_one [(vp : Int)]) (by unfold maxLen; omega) (by omega) (by omega) ?_; intro v2 z2 ho2 hg2 _ _; obtain ⟨va, vc, rfl⟩ := own_form ho2; have q4 := (World.cell?_of_block (a := ⟨bx, 4, none⟩) (hg2.block bx hXa.blk.lt (fun e => hXa.blk.ne hXa.ints.own (by decide) e.symm))).trans (hXa.box 4 _ rfl); have g4 := (hXa.blk.kept hg2 (fun e => hXa.blk.ne hXa.ints.own (by decide) e.symm)).fro 4)
            have hRa := hRp.kept (grown_alloc z1 (.cells #[.int .i64 vp] 3)) (by simp) (fun j e => by cases e)
            have hX9 := hXa.grow (by decide) hg2 ho2
            have hlow := fun j e => (hXa.ints.own.lt j e).1
            have hG9 := fun V => grown_set z2 bx 4 V
            have hR9 := (hRa.kept hg2 (fun e => by have := hlow _ e.symm; omega) (fun j e => by have := hlow j e; omega)).kept (hG9 (.slice va (ps.length + 1) vc)) (by simp; omega) (fun j e => by cases e; omega)
            have hPp := ((hPd.kept hgp hrb.1 hrb.2 (fun j e => by cases e; exact hrg)).kept (grown_alloc z1 (.cells #[.int .i64 vp] 3)) (by simp) (by simp) (fun j e => by cases e)).kept hg2 (fun e => by have := hlow _ e.symm; omega) (fun e => by have := hlow _ e.symm; omega) (fun j e => by have := hlow j e; omega)
            have hP9 := hPp.kept (hG9 (.slice va (ps.length + 1) vc)) (by simp; omega) (by simp; omega) (fun j e => by cases e; omega)
            clear hlow hG9
            go_roundw
            case rel => exact ⟨j + 1, r', ps ++ [(vp : Int)], _, by omega, by go_num, hR9, hP9, hX9, HQn.out, (by rw [List.length_append, HLj.out]; rfl), by omega⟩
            case measure => simp [intOf]; omega
        · have hji : ¬ (j : Int) < (vm : Int) := by omega
          have hjd : decide ((j : Int) < (vm : Int)) = false := decide_eq_false hji
          have E30 := Lib.hid (nums_stop (by omega) HQj.out)
          have hpl : ps.length ≤ 100000001 := by rw [HLj.out]; omega
          clear HQj HLj
          have hR30 := hRj
          have hP30 := hPj
          have hX30 := hXj
          clear hRj hPj hXj
          go_wp2_with fail
          rcases hE : numB 4 r with _ | ⟨vd, r31⟩
          · have hi : item r0 = none := by unfold item; simp only [E1.out, E3.out, E4.out, E6.out, E8.out, E10.out, E30.out, hE, Option.bind_some, Option.bind_none]
            have ha := Lib.hid (ans_bad (items_none hlt HQ.out hi))
            refine (num_no hR30 4 hE).mono ?_
            rintro e y ⟨rfl, rfl⟩
            clear hi hE HQ
            go_wp2_with fail
            exact shut_gave hP30 ha.out rfl rfl
          obtain ⟨_, b31, le31⟩ := numB_some hE
          replace b31 : vd < 4294967296 := b31
          have bi31 : (vd : Int) < 4294967296 := by omega
          have H31 := num_yes hR30 4 isW4 hE (ht.widths 4 isW4) ht.widthsLt
          have E31 := Lib.hid hE
          clear hE
          refine H31.mono ?_
          rintro e y31 ⟨rfl, hR31, hg31⟩
          have hX31 := hX30.read hR30.blk (by decide) (by decide) hR30.ge hg31
          have hP31 := hP30.kept hg31 hrb.1 hrb.2 (fun j e => by cases e; exact hR30.ge)
          clear H31 hg31 hX30 hR30 hP30
          go_wp2_with fail
          rcases hE : takeB vd r31 with _ | ⟨td, r32⟩
          · have hi : item r0 = none := by unfold item; simp only [E1.out, E3.out, E4.out, E6.out, E8.out, E10.out, E30.out, E31.out, hE, Option.bind_some, Option.bind_none]
            have ha := Lib.hid (ans_bad (items_none hlt HQ.out hi))
            refine (take_no hR31 vd hE).mono ?_
            rintro e y ⟨rfl, rfl⟩
            clear hi hE HQ
            go_wp2_with fail
            exact shut_gave hP31 ha.out rfl rfl
          obtain ⟨_, le32⟩ := takeB_some hE
          have H32 := take_yes hR31 vd hE
          have E32 := Lib.hid hE
          clear hE
          refine H32.mono ?_
          rintro e y32 ⟨rfl, hR32, hg32⟩
          have hX32 := hX31.read hR31.blk (by decide) (by decide) hR31.ge hg32
          have hP32 := hP31.kept hg32 hrb.1 hrb.2 (fun j e => by cases e; exact hR31.ge)
          clear H32 hg32 hX31 hR31 hP31
          have q := hX32.box 3 _ rfl
          have g := hX32.blk.fro 3
          go_upto_region 18 with fail
          have hX33 := hX32.store (i := 3) (c := (.string (mk td))) (x' := (⟨tp, vk, vz, td, ps, (vs : Int) - 1⟩ : PItem)) (sl' := sl) (by decide) (by decide) rfl hX32.ints
          have hR33 := hR32.kept (grown_set y32 bx 3 (.string (mk td))) (by simp; omega) (fun j e => by cases e; omega)
          have hP33 := hP32.kept (grown_set y32 bx 3 (.string (mk td))) (by simp; omega) (by simp; omega) (fun j e => by cases e; omega)
          generalize y32.setCell ⟨bx, 3, none⟩ (.string (mk td)) = y33 at *
          clear q g hX32 hR32 hP32 
          have hit : item r0 = some (⟨tp, vk, vz, td, ps, (vs : Int) - 1⟩, r32) := by unfold item; simp only [E1.out, E3.out, E4.out, E6.out, E8.out, E10.out, E30.out, E31.out, E32.out, Option.bind_some]
          have HQ2 := Lib.hid (items_next hlt HQ.out hit)
          have hll : l.length ≤ 100000001 := by rw [HL.out]; omega
          clear hit HQ E1 E3 E4 E6 E8 E10 E30 E31 E32
          have x0 := hX33.box 0 _ rfl
          have x1 := hX33.box 1 _ rfl
          have x2 := hX33.box 2 _ rfl
          have x3 := hX33.box 3 _ rfl
          have x4 := hX33.box 4 _ rfl
          have x5 := hX33.box 5 _ rfl
          obtain ⟨sa, sc, rfl⟩ := own_form hX33.ints.own
          obtain ⟨la, lc, rfl⟩ := own_form hX33.its.own
          have p1 := hP33.pl
          have p2 := hP33.bl.fro 0
          have hXf := hX33.kept (grown_alloc y33 (.cells #[.string (mk tp), .int .i64 vk, .int .i64 vz, .string (mk td), .slice sa ps.length sc, .int .i64 ((vs : Int) - 1)] 29))
          have hRf := hR33.kept (grown_alloc y33 (.cells #[.string (mk tp), .int .i64 vk, .int .i64 vz, .string (mk td), .slice sa ps.length sc, .int .i64 ((vs : Int) - 1)] 29)) (by simp) (fun j e => by cases e)
          have hPf := hP33.kept (grown_alloc y33 (.cells #[.string (mk tp), .int .i64 vk, .int .i64 vz, .string (mk td), .slice sa ps.length sc, .int .i64 ((vs : Int) - 1)] 29)) (by simp) (by simp) (fun j e => by cases e)
          have hbs := hXf.its.below.size
          go_wp2_with (first | (refine wpList_slice_item rfl 53 rfl rfl ?_) | (at_builtin; refine wpList_append_own_at _ rfl (.tmp 52) (.tmp 54) 22 rfl w.heap.size 29 j0 zItem 6 80 Tryd.underlying22 hj0 hy0 hy1 hy2 rfl (by decide) _ l.length _ rfl hXf.its.own ⟨y33.heap.size, 0, none⟩ 1 1 (itemC ⟨tp, vk, vz, td, ps, (vs : Int) - 1⟩ (.slice sa ps.length sc)) rfl (by rfl) (news_new _ (itemC ⟨tp, vk, vz, td, ps, (vs : Int) - 1⟩ (.slice sa ps.length sc)) _) (itemC_one _ _ _ _) (by unfold maxLen; omega) (by omega) hbs ?_; intro v3 z3 ho3 hg3 _ _; obtain ⟨va, vc, rfl⟩ := own_form ho3; have q6 := (hPf.kept hg3 (fun e => hPf.bl.ne hXf.its.own (by decide) e.symm) (fun e => hPf.be.ne hXf.its.own (by decide) e.symm) (fun j e => (hXf.its.own.lt j e).1)).pl; have g6 := (hPf.kept hg3 (fun e => hPf.bl.ne hXf.its.own (by decide) e.symm) (fun e => hPf.be.ne hXf.its.own (by decide) e.symm) (fun j e => (hXf.its.own.lt j e).1)).bl.fro 0))
          have hPz := hPf.kept hg3 (fun e => hPf.bl.ne hXf.its.own (by decide) e.symm) (fun e => hPf.be.ne hXf.its.own (by decide) e.symm) (fun j e => (hXf.its.own.lt j e).1)
          have hRz := hRf.kept hg3 (fun e => hRf.blk.ne hXf.its.own (by decide) e.symm) (fun j e => (hXf.its.own.lt j e).1)
          have hA3 := hXf.apart hA
          have hI3 := (hXf.done (by decide) ho3 hg3).touch hPz.bl (by decide) (hPz.bl.ne ho3 (by decide)) (grown_set z3 w.heap.size 0 (.slice va (l.length + 1) vc)) (Nat.le_refl _)
          have hR3 := hRz.kept (grown_set z3 w.heap.size 0 (.slice va (l.length + 1) vc)) (by simp; omega) (fun j e => by cases e; exact Nat.le_refl _)
          have hP3 := hPz.setl (.slice va (l.length + 1) vc)
          go_roundw
          case rel => exact ⟨k + 1, r32, _, _, _, by omega, by go_num, hR3, hP3, hI3, hA3, HQ2.out, (by rw [List.length_append, HL.out]; rfl), by omega⟩
          case measure => simp [intOf]; omega
      -- END
    · have hki : ¬ (k : Int) < (n0 : Int) := by omega
      have hkd : decide ((k : Int) < (n0 : Int)) = false := decide_eq_false hki
      have hrd : readB b = some l := items_stop (by omega) HQ.out
      obtain ⟨hsn, hll⟩ := readB_some hrd hbl
      obtain ⟨ro, rc, rfl, hRI⟩ := hI.at_
      have hby := readB_bytes hrd
      have HEn := encode_any l ro rc wr hRI hsn (by omega) (fun _ => by omega) (ht.all hP.below)
      clear hby
      have hb2 := hP.below
      have kb := fun W (h : Below wr.heap.size wr W) => run_string_seen byT Tryd.underlying9 W ao b ca (hs.below (hb2.trans (h.mono hb2.size))) hnil
      have p1 := hP.pl
      clear HQ HL
      cases hr : right lt l with
      | false =>
        have ha := Lib.hid (ans_no hrd (fun h => by rw [hr] at h; cases h.1))
        have HR := Lib.hid hr
        clear hr hrd
        go_wp2_with fail
        refine HEn.mono ?_
        rintro e w5 ⟨hb5, h5, _⟩
        obtain rfl := h5 HR.out
        have hP5 := hP.kept (grown_below hb5) (by simp) (by simp) (fun j e => by cases e)
        have q1 := hP5.pl
        have q2 := hP5.pe
        have g1 := hP5.bl.fro 0
        have g2 := hP5.be.fro 0
        clear h5 kb p1
        go_wp2_with fail
        exact shut_no ((hP5.setl _).sete 240) ha.out rfl rfl
      | true =>
        have HR := Lib.hid hr
        clear hr
        by_cases he : enc l = b
        · have ha := Lib.hid (ans_yes hrd HR.out he)
          have HE2 := Lib.hid he
          clear hrd he
          go_wp2_with fail
          refine HEn.mono ?_
          rintro e w5 ⟨hb5, _, h5⟩
          obtain ⟨ev, rfl, hO⟩ := h5 HR.out
          obtain ⟨ea, ec, rfl⟩ := own_form hO.own
          have k1 := (run_own_string byT Tryd.underlying9 w5 _ _ (enc l) hO.own).trans (show _ = Result.ok (Value.string (mk b)) w5 by rw [HE2.out])
          have k2 := kb w5 hb5
          have hP5 := hP.kept (grown_below hb5) (by simp) (by simp) (fun j e => by cases e)
          have hI5 := hI.grown hb5
          have q1 := hP5.pl
          have q2 := hP5.pe
          have g1 := hP5.bl.fro 0
          have g2 := hP5.be.fro 0
          clear h5 kb p1
          go_wp2_with fail
          exact shut_yes hP5 hI5 hA ha.out rfl rfl
        · have ha := Lib.hid (ans_no hrd (fun h => he h.2))
          have k3 : ((mk (enc l)).toList == (mk b).toList) = false := by rw [mk_toList, mk_toList]; exact beq_eq_false_iff_ne.2 he
          clear hrd he
          go_wp2_with fail
          refine HEn.mono ?_
          rintro e w5 ⟨hb5, _, h5⟩
          obtain ⟨ev, rfl, hO⟩ := h5 HR.out
          obtain ⟨ea, ec, rfl⟩ := own_form hO.own
          have k1 := run_own_string byT Tryd.underlying9 w5 _ _ (enc l) hO.own
          have k2 := kb w5 hb5
          have hP5 := hP.kept (grown_below hb5) (by simp) (by simp) (fun j e => by cases e)
          have q1 := hP5.pl
          have q2 := hP5.pe
          have g1 := hP5.bl.fro 0
          have g2 := hP5.be.fro 0
          clear h5 kb p1
          go_wp2_with fail
          exact shut_no ((hP5.setl _).sete 240) ha.out rfl rfl
end Pw
end Go.Proofs.YtnmgdlmicgbapaaDoor
