/- The walks: right, isRight: the program's test of a list. -/
import Derived.Test.YtnmgdlmicgbapaaDoorPWFollow
import Derived.Test.YtnmgdlmicgbapaaDoorPWText
import Derived.Test.YtnmgdlmicgbapaaDoorPWItem2
namespace Go.Proofs.YtnmgdlmicgbapaaDoor
open Go.RowKit Go.Maps

namespace Pw
open Pk
theorem ki (k : Int) : WideAt.IsKeyLit (Lit.int .i64 k) := trivial
theorem zeroFn (w : World) : (zeroValue 48).run Tryd.prog w = .ok .nilFunc w := by kernel_rfl
/-- The map of the kinds. -/
abbrev kindsD : DataW Value := (((DataW.map []).put (.int .i64 1) (.held (.func (.func 22) #[] #[]))).put (.int .i64 2) (.held (.func (.func 18) #[] #[]))).put (.int .i64 3) (.held (.func (.func 23) #[] #[]))
def kindV (k : Int) : Value := if k = 3 then .func (.func 23) #[] #[] else if k = 2 then .func (.func 18) #[] #[] else if k = 1 then .func (.func 22) #[] #[] else .nilFunc
def kindB (k : Int) : Bool := decide (1 ≤ k ∧ k ≤ 3)
theorem kindsD_at (k : Int) : kindsD.atKey (.int .i64 k) (.held .nilFunc) = .held (kindV k) ∧ Maps.has kindsD (.int .i64 k) = kindB k := by
  have i0 : IsMap (DataW.map (H := Value) []) := isMap_empty
  have i1 := i0.put (.int .i64 1) (.held (.func (.func 22) #[] #[]))
  have i2 := i1.put (.int .i64 2) (.held (.func (.func 18) #[] #[]))
  by_cases h3 : k = 3
  · subst h3
    exact ⟨atKey_put_same i2 (ki _) _ _, has_put_same i2 (ki _) _⟩
  · have n3 : (Lit.int .i64 k) ≠ Lit.int .i64 3 := fun e => h3 (by injection e)
    by_cases h2 : k = 2
    · subst h2
      exact ⟨(atKey_put_other n3 _ _).trans (atKey_put_same i1 (ki _) _ _), (has_put_other n3 _).trans (has_put_same i1 (ki _) _)⟩
    · have n2 : (Lit.int .i64 k) ≠ Lit.int .i64 2 := fun e => h2 (by injection e)
      by_cases h1 : k = 1
      · subst h1
        exact ⟨(atKey_put_other n3 _ _).trans ((atKey_put_other n2 _ _).trans (atKey_put_same i0 (ki _) _ _)), (has_put_other n3 _).trans ((has_put_other n2 _).trans (has_put_same i0 (ki _) _))⟩
      · have n1 : (Lit.int .i64 k) ≠ Lit.int .i64 1 := fun e => h1 (by injection e)
        refine ⟨(atKey_put_other n3 _ _).trans ((atKey_put_other n2 _ _).trans ((atKey_put_other n1 _ _).trans ?_)), (has_put_other n3 _).trans ((has_put_other n2 _).trans ((has_put_other n1 _).trans ?_))⟩
        · unfold kindV; rw [if_neg h3, if_neg h2, if_neg h1]; rfl
        · unfold kindB; rw [decide_eq_false (by omega)]; rfl
theorem keyI (k : Int) (h : -9223372036854775808 ≤ k ∧ k ≤ 9223372036854775807) : keyOf Tryd.prog 3 (.int .i64 k) = some (.int .i64 k) := keyOf_int_mk Tryd.underlying3 (WalkArith.wf_i64 h)
set_option maxRecDepth 100000 in
theorem right_any (w : World) : Calls Tryd.prog 16 #[] w fun e w' => e = .returned (.map (some w.heap.size)) ∧ w'.ownsMap Tryd.prog 3 rawElem w.heap.size 3 kindsD ∧ Below w.heap.size w w' := by
  go_enter Tryd.func16, Tryd.ntmps16
  go_wp2_with (first
    | (refine wpList_makeMap_to _ rfl 46 rfl (fun W => W.ownsMap Tryd.prog 3 rawElem w.heap.size 0 (.map []) ∧ Below w.heap.size w W) ⟨ownsMap_last _ _ _ _ _ rfl, (Below.refl _ _).alloc (Nat.le_refl _) _⟩ ?_; rintro w0 ⟨hm0, hb0⟩)
    | (refine wpList_insert_own _ rfl _ _ _ 46 rfl 3 48 (int_keyed Tryd.underlying3) Tryd.underlying46 rawElem w.heap.size 2 _ rfl hm2 (by decide) _ _ (.int .i64 3) rfl rfl (keyI 3 (by decide)) (.held (.func (.func 23) #[] #[])) [] rfl ?_; intro w3 hm3 hg3; have hb3 := hb2.grown hg3 hb2.size (fun k e => by cases e; exact Nat.le_refl _))
    | (refine wpList_insert_own _ rfl _ _ _ 46 rfl 3 48 (int_keyed Tryd.underlying3) Tryd.underlying46 rawElem w.heap.size 1 _ rfl hm1 (by decide) _ _ (.int .i64 2) rfl rfl (keyI 2 (by decide)) (.held (.func (.func 18) #[] #[])) [] rfl ?_; intro w2 hm2 hg2; have hb2 := hb1.grown hg2 hb1.size (fun k e => by cases e; exact Nat.le_refl _))
    | (refine wpList_insert_own _ rfl _ _ _ 46 rfl 3 48 (int_keyed Tryd.underlying3) Tryd.underlying46 rawElem w.heap.size 0 _ rfl hm0 (by decide) _ _ (.int .i64 1) rfl rfl (keyI 1 (by decide)) (.held (.func (.func 22) #[] #[])) [] rfl ?_; intro w1 hm1 hg1; have hb1 := hb0.grown hg1 hb0.size (fun k e => by cases e; exact Nat.le_refl _)))
  go_ret
  exact ⟨rfl, hm3, hb3⟩
theorem kind_call (x : PItem) {kv : Value} (h : kindB x.kind = true) (hv : kindV x.kind = kv) : ∃ fid, kv = .func (.func fid) #[] #[] ∧ (fid = 22 ∨ fid = 18 ∨ fid = 23) ∧ ∀ (sl : Value) (W : World), Sane x → IntsAt W sl x.pieces → Calls Tryd.prog fid #[itemV x sl] W fun e w' => e = .returned (.bool (may x)) ∧ Below W.heap.size W w' := by
  subst hv
  unfold kindB at h
  rw [decide_eq_true_iff] at h
  rcases (show x.kind = 1 ∨ x.kind = 2 ∨ x.kind = 3 by omega) with e | e | e
  · refine ⟨22, by rw [e]; rfl, by decide, fun sl W hs hp => ?_⟩
    unfold may; rw [if_pos e]
    exact isFile_any x sl W hs hp
  · refine ⟨18, by rw [e]; rfl, by decide, fun sl W hs hp => ?_⟩
    unfold may; rw [if_neg (by omega), if_pos e]
    exact isEmpty_any x sl W hs hp
  · refine ⟨23, by rw [e]; rfl, by decide, fun sl W hs hp => ?_⟩
    unfold may; rw [if_neg (by omega), if_neg (by omega)]
    exact isLink_any x sl W hs hp
theorem sameOk_take (l : List PItem) (k : Nat) (x : PItem) (hk : k ≤ l.length) : sameOk (l.take k) x = (decide (0 ≤ x.same ∧ x.kind ≠ 2) && (if x.same.toNat < k then (match l[x.same.toNat]? with | some y => decide (y.kind = x.kind ∧ y.same = -1) | none => false) else false) && isEmpty x) := by
  unfold sameOk
  by_cases h : x.same.toNat < k
  · rw [if_pos h, List.getElem?_take_of_lt h]; rfl
  · rw [if_neg h, List.getElem?_eq_none (by rw [List.length_take]; omega)]
theorem take_snoc {α : Type} (l : List α) (k : Nat) (x : α) (h : l[k]? = some x) : l.take (k + 1) = l.take k ++ [x] := by
  rw [List.take_add_one, h]; rfl
theorem rightFrom_step (l : List PItem) (k : Nat) (x : PItem) (h : l[k]? = some x) : rightFrom lt (l.take k) (l.drop k) = (stands lt (l.take k) x && rightFrom lt (l.take (k + 1)) (l.drop (k + 1))) := by
  rw [drop_get l k x h, rightFrom, take_snoc l k x h]
theorem last_take (l : List PItem) (k : Nat) (y : PItem) (h : l[k]? = some y) : (l.take (k + 1)).getLast? = some y := by
  rw [take_snoc l k y h]; simp
theorem dirs_snoc (met : List PItem) (x : PItem) (D : DataW Value) (hi : IsMap D) (h : DirsOf met D) : DirsOf (met ++ [x]) (if x.kind = 2 then D.put (.string x.path) (.held (.bool true)) else D) := by
  intro l
  rw [List.any_append]
  by_cases h2 : x.kind = 2
  · rw [if_pos h2]
    by_cases hp : x.path = l
    · subst hp
      rw [atKey_put_same hi (kl _)]
      simp [h2]
    · rw [atKey_put_other (fun e => hp (by injection e with e; exact e.symm)), h l]
      simp [hp]
  · rw [if_neg h2, h l]
    simp [h2]
theorem stands_first (x : PItem) (hx : x.path = []) : stands lt [] x = (decide (1 ≤ x.kind ∧ x.kind ≤ 3) && (if x.same = -1 then may x else sameOk [] x)) := by
  unfold stands; rw [hx]; simp
theorem stands_later (l : List PItem) (k : Nat) (y x : PItem) (hy : l[k]? = some y) : stands lt (l.take (k + 1)) x = (Pk.follows lt (l.take (k + 1)) y.path x.path && decide (1 ≤ x.kind ∧ x.kind ≤ 3) && (if x.same = -1 then may x else sameOk (l.take (k + 1)) x)) := by
  unfold stands; rw [last_take l k y hy]
set_option maxRecDepth 100000 in
set_option maxHeartbeats 4000000 in
theorem isRight_any (l : List PItem) (ao : Option Addr) (cap : Nat) (w : World) (hI : ItemsAt w ao l) (hs : ∀ x ∈ l, Sane x) (hl : l.length ≤ 100000000) (hm : ∃ m, w.cell? ⟨2, 0, none⟩ = some (.int .i64 m)) (hml : 2 < w.heap.size) :
    Calls Tryd.prog 7 #[.slice ao l.length cap] w fun e w' => e = .returned (.bool (right lt l)) ∧ Below w.heap.size w w' := by
  by_cases h0 : l.length = 0
  · have HR := Lib.hid (show right lt l = false by rw [List.length_eq_zero_iff.1 h0]; rfl)
    clear hI
    go_enter Tryd.func7, Tryd.ntmps7
    go_wp2
    go_ret
    exact ⟨ret_bool HR.out.symm, Below.refl _ _⟩
  · have h00 : ((l.length : Int) == 0) = false := by rw [beq_eq_false_iff_ne]; omega
    have hi0 : (0 : Int) < (l.length : Int) := by omega
    obtain ⟨x0, hx0⟩ : ∃ x, l[0]? = some x := ⟨_, List.getElem?_eq_getElem (by omega)⟩
    obtain ⟨g, o, sl0, rfl, hg, hp0, hc0⟩ := hI 0 x0 hx0
    have c0 := hc0 0 _ rfl
    simp only [Nat.zero_mul, Nat.add_zero] at c0
    have e0 := mk_toList x0.path
    by_cases hp : x0.path = []
    · have h1 : (!x0.path.isEmpty) = false := by rw [hp]; rfl
      have HR := Lib.hid (show right lt l = rightFrom lt (l.take 0) (l.drop 0) by unfold right; rw [List.isEmpty_eq_false_iff.2 (by rintro rfl; exact h0 rfl)]; simp)
      have HP := Lib.hid hp
      clear hp hc0
      go_enter Tryd.func7, Tryd.ntmps7
      go_wp2_with (first
        | (refine wpList_makeMap_to _ rfl 45 rfl (fun W => W.ownsMap Tryd.prog 9 rawElem w.heap.size 0 (.map []) ∧ Below w.heap.size w W ∧ W.heap.size = w.heap.size + 1) ⟨ownsMap_last _ _ _ _ _ rfl, (Below.refl _ _).alloc (Nat.le_refl _) _, by simp⟩ ?_; rintro w0 ⟨hd0, hb0, hz0⟩)
        | (go_at_call 16; refine (right_any w0).mono ?_; rintro e w1 ⟨rfl, hk1, hb1⟩))
      have hw1 : Below w.heap.size w w1 := hb0.trans (hb1.mono hb0.size)
      have hd1 := ownsMap_below hd0 hb1 hd0.lt
      rw [hz0] at hk1
      have hz1 := hk1.lt
      have hb1 := hz0
      clear hd0 hb0 hb1 hz0
      go_loopw [23] (fun i wr => ∃ k : Nat, k ≤ l.length ∧ i = .int .i64 k ∧ ∃ (D : DataW Value) (n : Nat), n ≤ k ∧ wr.ownsMap Tryd.prog 9 rawElem w.heap.size n D ∧ DirsOf (l.take k) D ∧ wr.ownsMap Tryd.prog 3 rawElem (w.heap.size + 1) 3 kindsD ∧ Hid (right lt l = rightFrom lt (l.take k) (l.drop k)) ∧ Below w.heap.size w wr) (fun i _ => l.length - (intOf i).toNat)
      case atStart => exact ⟨0, Nat.zero_le _, rfl, _, 0, Nat.le_refl _, hd1, fun _ => rfl, hk1, HR.out, hw1⟩
      case round =>
        obtain ⟨k, hk, rfl, D, n, hn, hdr, hDr, hkr, hR, hwr⟩ := hrel
        have hIr := hI.below hwr
        clear hd1 hk1 hw1 HR hI
        by_cases hlt : k < l.length
        · obtain ⟨x, hx⟩ : ∃ x, l[k]? = some x := ⟨_, List.getElem?_eq_getElem hlt⟩
          have hsx := hs x (List.mem_of_getElem? hx)
          obtain ⟨sm, hsm⟩ : ∃ sm, x.same = sm := ⟨_, rfl⟩
          have HSM := Lib.hid hsm
          have hsmr := hsx.same
          rw [hsm] at hsmr
          have HS := Lib.hid (rightFrom_step l k x hx)
          have HT := Lib.hid (take_snoc l k x hx)
          have hki : (k : Int) < (l.length : Int) := by omega
          obtain ⟨g', o', sl, e1, _, hpx, hcx⟩ := hIr k x hx
          cases e1
          have d0 : wr.cell? ⟨g, o + k * 6, none⟩ = some (.string (mk x.path)) := hcx 0 _ rfl
          have d1 : wr.cell? ⟨g, o + k * 6 + 1, none⟩ = some (.int .i64 x.kind) := hcx 1 _ rfl
          have d2 : wr.cell? ⟨g, o + k * 6 + 2, none⟩ = some (.int .i64 x.size) := hcx 2 _ rfl
          have d3 : wr.cell? ⟨g, o + k * 6 + 3, none⟩ = some (.string (mk x.data)) := hcx 3 _ rfl
          have d4 : wr.cell? ⟨g, o + k * 6 + 4, none⟩ = some sl := hcx 4 _ rfl
          have d5 : wr.cell? ⟨g, o + k * 6 + 5, none⟩ = some (.int .i64 sm) := by rw [← hsm]; exact hcx 5 _ rfl
          have hp2 := hpx
          obtain ⟨sa, sc, rfl, _⟩ := hp2
          have hB8 := BoxAt.new wr x (.slice sa x.pieces.length sc) 29
          rw [hsm] at hB8
          clear hsm
          have hpW := hpx.alloc (.cells #[.string (mk x.path), .int .i64 x.kind, .int .i64 x.size, .string (mk x.data), .slice sa x.pieces.length sc, .int .i64 sm] 29)
          have hIW : ItemsAt (wr.alloc (.cells #[.string (mk x.path), .int .i64 x.kind, .int .i64 x.size, .string (mk x.data), .slice sa x.pieces.length sc, .int .i64 sm] 29)) _ l := hIr.below ((Below.refl _ _).alloc (Nat.le_refl _) _)
          have hdW := hdr.alloc (.cells #[.string (mk x.path), .int .i64 x.kind, .int .i64 x.size, .string (mk x.data), .slice sa x.pieces.length sc, .int .i64 sm] 29)
          have hkW := hkr.alloc (.cells #[.string (mk x.path), .int .i64 x.kind, .int .i64 x.size, .string (mk x.data), .slice sa x.pieces.length sc, .int .i64 sm] 29)
          have hwW : Below w.heap.size w (wr.alloc (.cells #[.string (mk x.path), .int .i64 x.kind, .int .i64 x.size, .string (mk x.data), .slice sa x.pieces.length sc, .int .i64 sm] 29)) := hwr.alloc hwr.size _
          have hzW : (wr.alloc (.cells #[.string (mk x.path), .int .i64 x.kind, .int .i64 x.size, .string (mk x.data), .slice sa x.pieces.length sc, .int .i64 sm] 29)).heap.size = wr.heap.size + 1 := by simp
          have HZW := Lib.hid hzW
          have hat := kindsD_at x.kind
          obtain ⟨kv, hkv⟩ : ∃ kv, kindV x.kind = kv := ⟨_, rfl⟩
          have HAT := Lib.hid hat.1
          rw [hkv] at HAT
          have HKV := Lib.hid hkv
          clear hkv
          obtain ⟨kb, hkb⟩ : ∃ kb, kindB x.kind = kb := ⟨_, rfl⟩
          have HHAS := Lib.hid (hat.2.trans hkb)
          have HKB := Lib.hid hkb
          have f1 := hB8 1 _ rfl
          clear hcx hpx hIr hdr hkr hzW hat hkb
          go_upto_region 8 with (refine wpList_lookup_raw_ok _ rfl _ _ 46 rfl 3 48 (int_keyed Tryd.underlying3) Tryd.underlying46 .nilFunc (zeroFn _) (w.heap.size + 1) 3 kindsD rfl hkW _ (.int .i64 x.kind) rfl (keyI x.kind hsx.kind) _ HAT.out _ HHAS.out ?_)
          generalize hW : (wr.alloc (.cells #[.string (mk x.path), .int .i64 x.kind, .int .i64 x.size, .string (mk x.data), .slice sa x.pieces.length sc, .int .i64 sm] 29)) = W at *
          clear hW
          have hzz := hwr.size
          have hgW : g < wr.heap.size := by omega
          have hmW : ∃ m, W.drew.cell? ⟨2, 0, none⟩ = some (.int .i64 m) := by
            obtain ⟨m, hm⟩ := hm
            exact ⟨m, (hwW.cell (p := ⟨_, 0, none⟩) hml).trans hm⟩
          obtain ⟨F, hF, hF0, hF1⟩ : ∃ F : Bool, stands lt (l.take k) x = (F && kindB x.kind && (if x.same = -1 then may x else sameOk (l.take k) x)) ∧ (k = 0 → F = true) ∧ (∀ j y, k = j + 1 → l[j]? = some y → F = Pk.follows lt (l.take k) y.path x.path) := by
            cases k with
            | zero =>
              have : x.path = [] := by rw [hx] at hx0; cases hx0; exact HP.out
              exact ⟨true, (stands_first x this).trans (by simp [kindB]), fun _ => rfl, fun j y h => by omega⟩
            | succ j =>
              obtain ⟨y, hy⟩ : ∃ y, l[j]? = some y := ⟨_, List.getElem?_eq_getElem (by omega)⟩
              refine ⟨_, stands_later l j y x hy, fun h => by omega, fun j' y' h h' => ?_⟩
              cases h
              rw [hy] at h'
              cases h'
              rfl
          have HF := Lib.hid hF
          have HF0 := Lib.hid hF0
          have HF1 := Lib.hid hF1
          clear hF hF0 hF1
          go_cut [53] from 35 to 53 (fun v wx => v = .bool (!(F && kb)) ∧ Below W.heap.size W wx)
          case first =>
            cases kb with
            | false =>
              go_quiet (fail)
              go_wp2
              go_meet
              exact ⟨by simp, below_drewN (Below.refl _ _) _⟩
            | true =>
              by_cases hk0 : k = 0
              · have hFt := HF0.out hk0
                subst hFt
                have h0k : decide ((0 : Int) < (k : Int)) = false := decide_eq_false (by omega)
                have h0k2 : decide (0 < k) = false := decide_eq_false (by omega)
                clear hk0
                go_quiet (fail)
                go_wp2
                go_meet
                exact ⟨rfl, below_drewN (Below.refl _ _) _⟩
              · obtain ⟨j, hj⟩ : ∃ j, k = j + 1 := ⟨k - 1, by omega⟩
                obtain ⟨y, hy⟩ : ∃ y, l[j]? = some y := ⟨_, List.getElem?_eq_getElem (by omega)⟩
                have HFE := HF1.out j y hj hy
                subst HFE
                have h0k : (0 : Int) < (k : Int) := by omega
                have h0k2 : decide ((0 : Int) < (k : Int)) = true := decide_eq_true h0k
                have h0k3 : decide (0 < k) = true := decide_eq_true (by omega)
                have h0k4 : 0 < k := by omega
                clear hk0
                have hw1 : IntKind.i64.wrap ((k : Int) - 1) = (j : Int) := by rw [IntKind.wrap_i64]; omega
                have hji : (j : Int) < (l.length : Int) := by omega
                obtain ⟨g2, o2, sl2, e2, _, _, hcy⟩ := hIW j y hy
                cases e2
                have y0 : W.cell? ⟨g, o + j * 6, none⟩ = some (.string (mk y.path)) := hcy 0 _ rfl
                have x0' : W.cell? ⟨wr.heap.size, 0, none⟩ = some (.string (mk x.path)) := hB8 0 _ rfl
                have hsy := hs y (List.mem_of_getElem? hy)
                have HFo := follows_any (l.take k) D w.heap.size n (mk y.path) (mk x.path) W.drew hsy.path hsx.path hmW (Nat.lt_of_lt_of_le hml hwW.size) hdW.drew hDr
                have hgd : g < W.drew.heap.size := by show g < W.heap.size; rw [HZW.out]; omega
                have hbd : wr.heap.size < W.drew.heap.size := by show _ < W.heap.size; rw [HZW.out]; omega
                clear hcy HF HF0 HF1 hj
                go_region_held3 (fun w' => w'.cell? ⟨g, o + j * 6, none⟩ = some (.string (mk y.path)) ∧ w'.cell? ⟨wr.heap.size, 0, none⟩ = some (.string (mk x.path))) (go_keep) ((go_at_call 17; refine HFo.mono ?_; rintro e w' ⟨rfl, hb⟩; have q1 := (hb.cell (p := ⟨g, o + j * 6, none⟩) hgd).trans y0; have q2 := (hb.cell (p := ⟨wr.heap.size, 0, none⟩) hbd).trans x0'))
                go_wp2
                go_meet
                exact ⟨by simp; rfl, (Below.refl W.heap.size W).drew.trans hb⟩
          case rest =>
            obtain ⟨rfl, hb8⟩ := hcut
            have hwc : Below w.heap.size w wc := hwW.trans (hb8.mono hwW.size)
            by_cases hFk : (F && kb) = true
            · obtain ⟨rfl, rfl⟩ : F = true ∧ kb = true := by simpa using hFk
              obtain ⟨fid, rfl, hfid, HC⟩ := kind_call x HKB.out HKV.out
              have hBc := hB8.below hb8 (by rw [HZW.out]; omega)
              have hpc := hpW.below hb8
              have hIc := hIW.below hb8
              have hdc := ownsMap_below hdW hb8 (by have := hdW.lt; omega)
              have hkc := ownsMap_below hkW hb8 (by have := hkW.lt; omega)
              have b0 := hBc 0 _ rfl
              have b1 := hBc 1 _ rfl
              have b2 := hBc 2 _ rfl
              have b3 := hBc 3 _ rfl
              have b4 := hBc 4 _ rfl
              have b5 : wc.cell? ⟨wr.heap.size, 5, none⟩ = some (.int .i64 sm) := by rw [← HSM.out]; exact hBc 5 _ rfl
              have HM := Lib.hid (show right lt l = ((if sm = -1 then may x else sameOk (l.take k) x) && rightFrom lt (l.take (k + 1)) (l.drop (k + 1))) by rw [hR.out, HS.out, HF.out, HKB.out, HSM.out]; simp)
              have hltc : wr.heap.size < wc.heap.size := by have := hb8.size; rw [HZW.out] at this; omega
              clear hIW hpW hdW hkW hB8 hb8 hFk HF HF0 HF1 HKV
              by_cases hsame : sm = -1
              · have hs1 : (sm == -1) = true := by rw [hsame]; rfl
                cases hmay : may x with
                | false =>
                  have HX := Lib.hid (show right lt l = false by rw [HM.out, if_pos hsame, hmay]; rfl)
                  have HC' := HC _ wc hsx hpc
                  clear hsame HC
                  rw [hmay] at HC'
                  clear hmay
                  unfold itemV at HC'
                  rw [HSM.out] at HC'
                  rcases hfid with rfl | rfl | rfl
                  all_goals
                    go_wp2_with fail
                    refine HC'.mono ?_
                    rintro e w9 ⟨rfl, hb9⟩
                    go_wp2
                    go_ret
                    exact ⟨ret_bool HX.out.symm, hwc.trans (hb9.mono hwc.size)⟩
                | true =>
                  have HN := Lib.hid (show right lt l = rightFrom lt (l.take (k + 1)) (l.drop (k + 1)) by rw [HM.out, if_pos hsame, hmay]; rfl)
                  have HC' := HC _ wc hsx hpc
                  clear hsame HC
                  rw [hmay] at HC'
                  clear hmay
                  unfold itemV at HC'
                  rw [HSM.out] at HC'
                  have hDn := dirs_snoc (l.take k) x D hdc.isMap hDr
                  rw [← HT.out] at hDn
                  rcases hfid with rfl | rfl | rfl
                  all_goals
                    go_wp2_with fail
                    refine HC'.mono ?_
                    rintro e w9 ⟨rfl, hb9⟩
                    have hw9 : Below w.heap.size w w9 := hwc.trans (hb9.mono hwc.size)
                    have hd9 := ownsMap_below hdc hb9 hdc.lt
                    have hk9 := ownsMap_below hkc hb9 hkc.lt
                    have r0 : w9.cell? ⟨wr.heap.size, 0, none⟩ = _ := (hb9.cell (p := ⟨wr.heap.size, 0, none⟩) hltc).trans b0
                    have r1 : w9.cell? ⟨wr.heap.size, 1, none⟩ = _ := (hb9.cell (p := ⟨wr.heap.size, 1, none⟩) hltc).trans b1
                    by_cases hk2 : x.kind = 2
                    · have e2 : (x.kind == 2) = true := by rw [hk2]; rfl
                      rw [if_pos hk2] at hDn
                      clear hk2
                      go_wp2_with (at_mapUpdate; refine wpList_mapUpdate_own _ rfl _ _ _ 45 rfl 9 4 (string_keyed Tryd.underlying9) Tryd.underlying45 rawElem w.heap.size n D rfl hd9 (by unfold maxLen; omega) _ _ (.string x.path) rfl rfl (keyOf_text Tryd.underlying9 x.path (by have := hsx.path; unfold maxLen; omega)) (.held (.bool true)) [] rfl ?_; intro wm hdm hgm)
                      go_roundw
                      case rel => exact ⟨k + 1, by omega, by go_num, _, n + 1, by omega, hdm, hDn, hk9.kept hgm (by simp), HN.out, hw9.grown hgm hw9.size (fun _ e => by cases e; exact Nat.le_refl _)⟩
                      case measure => simp [intOf]; omega
                    · have e2 : (x.kind == 2) = false := by rw [beq_eq_false_iff_ne]; exact hk2
                      rw [if_neg hk2] at hDn
                      clear hk2
                      go_wp2
                      go_roundw
                      case rel => exact ⟨k + 1, by omega, by go_num, D, n, by omega, hd9, hDn, hk9, HN.out, hw9⟩
                      case measure => simp [intOf]; omega
              · have hs1 : (sm == -1) = false := by rw [beq_eq_false_iff_ne]; exact hsame
                have HM2 := Lib.hid (show right lt l = (sameOk (l.take k) x && rightFrom lt (l.take (k + 1)) (l.drop (k + 1))) by rw [HM.out, if_neg hsame])
                have HO := Lib.hid (sameOk_take l k x hk)
                rw [HSM.out] at HO
                clear hsame HC HM hfid
                by_cases hneg : sm < 0
                · have HX := Lib.hid (show right lt l = false by rw [HM2.out, HO.out, decide_eq_false (by omega)]; simp)
                  have e1 : decide (sm < 0) = true := decide_eq_true hneg
                  clear hneg
                  go_wp2_with fail
                  go_quiet (fail)
                  go_wp2
                  go_ret
                  exact ⟨ret_bool HX.out.symm, below_drewN hwc _⟩
                · obtain ⟨n, rfl⟩ : ∃ n : Nat, sm = n := ⟨sm.toNat, by omega⟩
                  have e1 : decide ((n : Int) < 0) = false := decide_eq_false hneg
                  by_cases hnk : k ≤ n
                  · have e2 : decide ((k : Int) ≤ (n : Int)) = true := decide_eq_true (by omega)
                    have e3 : decide (k ≤ n) = true := decide_eq_true hnk
                    have HX := Lib.hid (show right lt l = false by rw [HM2.out, HO.out, Int.toNat_natCast, if_neg (by omega)]; simp)
                    clear hneg
                    go_wp2_with fail
                    go_quiet (fail)
                    go_wp2
                    go_ret
                    exact ⟨ret_bool HX.out.symm, below_drewN hwc _⟩
                  · have e2 : decide ((k : Int) ≤ (n : Int)) = false := decide_eq_false (by omega)
                    have e3 : decide (k ≤ n) = false := decide_eq_false hnk
                    obtain ⟨y, hy⟩ : ∃ y, l[n]? = some y := ⟨_, List.getElem?_eq_getElem (by omega)⟩
                    have HO2 := Lib.hid (show sameOk (l.take k) x = (decide (0 ≤ (n : Int) ∧ x.kind ≠ 2) && decide (y.kind = x.kind ∧ y.same = -1) && isEmpty x) by rw [HO.out, Int.toNat_natCast, if_pos (by omega), hy])
                    obtain ⟨g2, o2, sl2, e4, _, _, hcy⟩ := hIc n y hy
                    cases e4
                    have yk : wc.cell? ⟨g, o + n * 6 + 1, none⟩ = some (.int .i64 y.kind) := hcy 1 _ rfl
                    have ys : wc.cell? ⟨g, o + n * 6 + 5, none⟩ = some (.int .i64 y.same) := hcy 5 _ rfl
                    have hni : (n : Int) < (l.length : Int) := by omega
                    clear hcy HO hneg hnk
                    by_cases hk2 : x.kind = 2
                    · have e5 : (x.kind == 2) = true := by rw [hk2]; rfl
                      have HX := Lib.hid (show right lt l = false by rw [HM2.out, HO2.out, decide_eq_false (by rintro ⟨_, h⟩; exact h hk2)]; rfl)
                      clear hk2
                      go_wp2_with fail
                      go_quiet (fail)
                      go_wp2
                      go_ret
                      exact ⟨ret_bool HX.out.symm, below_drewN hwc _⟩
                    · have e5 : (x.kind == 2) = false := by rw [beq_eq_false_iff_ne]; exact hk2
                      by_cases hyk : y.kind = x.kind
                      · have e6 : (y.kind != x.kind) = false := by rw [hyk]; simp
                        rw [hyk] at yk
                        by_cases hys : y.same = -1
                        · rw [hys] at ys
                          have HO3 := Lib.hid (show sameOk (l.take k) x = isEmpty x by rw [HO2.out, decide_eq_true ⟨by omega, hk2⟩, decide_eq_true ⟨hyk, hys⟩]; rfl)
                          clear e6 HO2 hyk hys
                          have hDn := dirs_snoc (l.take k) x D hdc.isMap hDr
                          rw [← HT.out, if_neg hk2] at hDn
                          clear hk2
                          have HC' := isEmpty_any x _ wc.drew hsx hpc
                          unfold itemV at HC'
                          rw [HSM.out] at HC'
                          have hgd : g < wc.drew.heap.size := by show g < wc.heap.size; omega
                          have hbd : wr.heap.size < wc.drew.heap.size := hltc
                          generalize hem : isEmpty x = em at HC' HO3
                          clear hem
                          go_wp2_with fail
                          go_region_held3 (fun w' => w'.cell? ⟨g, o + n * 6 + 1, none⟩ = some (.int .i64 x.kind) ∧ w'.cell? ⟨g, o + n * 6 + 5, none⟩ = some (.int .i64 (-1)) ∧ w'.cell? ⟨wr.heap.size, 0, none⟩ = some (.string (mk x.path)) ∧ w'.cell? ⟨wr.heap.size, 1, none⟩ = some (.int .i64 x.kind) ∧ w'.cell? ⟨wr.heap.size, 2, none⟩ = some (.int .i64 x.size) ∧ w'.cell? ⟨wr.heap.size, 3, none⟩ = some (.string (mk x.data)) ∧ w'.cell? ⟨wr.heap.size, 4, none⟩ = some (.slice sa x.pieces.length sc) ∧ w'.cell? ⟨wr.heap.size, 5, none⟩ = some (.int .i64 (n : Int))) (go_keep) ((go_at_call 18; refine HC'.mono ?_; rintro e w' ⟨rfl, hb⟩; have q0 := (hb.cell (p := ⟨g, o + n * 6 + 1, none⟩) hgd).trans yk; have q1 := (hb.cell (p := ⟨g, o + n * 6 + 5, none⟩) hgd).trans ys; have q2 := (hb.cell (p := ⟨wr.heap.size, 0, none⟩) hbd).trans b0; have q3 := (hb.cell (p := ⟨wr.heap.size, 1, none⟩) hbd).trans b1; have q4 := (hb.cell (p := ⟨wr.heap.size, 2, none⟩) hbd).trans b2; have q5 := (hb.cell (p := ⟨wr.heap.size, 3, none⟩) hbd).trans b3; have q6 := (hb.cell (p := ⟨wr.heap.size, 4, none⟩) hbd).trans b4; have q7 := (hb.cell (p := ⟨wr.heap.size, 5, none⟩) hbd).trans b5))
                          have hb' : Below wc.heap.size wc w' := (Below.refl wc.heap.size wc).drew.trans hb
                          have hw' : Below w.heap.size w w' := hwc.trans (hb'.mono hwc.size)
                          cases em with
                          | false =>
                            have HX := Lib.hid (show right lt l = false by rw [HM2.out, HO3.out]; rfl)
                            go_wp2
                            go_ret
                            exact ⟨ret_bool HX.out.symm, hw'⟩
                          | true =>
                            have HN := Lib.hid (show right lt l = rightFrom lt (l.take (k + 1)) (l.drop (k + 1)) by rw [HM2.out, HO3.out]; rfl)
                            have hd9 := ownsMap_below hdc hb' hdc.lt
                            have hk9 := ownsMap_below hkc hb' hkc.lt
                            go_wp2
                            go_roundw
                            case rel => exact ⟨k + 1, by omega, by go_num, D, _, Nat.le_succ_of_le hn, hd9, hDn, hk9, HN.out, hw'⟩
                            case measure => simp [intOf]; omega
                        · have e7 : (y.same != -1) = true := by rw [bne_iff_ne]; exact hys
                          have HX := Lib.hid (show right lt l = false by rw [HM2.out, HO2.out, decide_eq_false (p := y.kind = x.kind ∧ y.same = -1) (by rintro ⟨_, h⟩; exact hys h)]; simp)
                          clear hk2 hyk hys
                          go_wp2_with fail
                          go_quiet (fail)
                          go_wp2
                          go_ret
                          exact ⟨ret_bool HX.out.symm, below_drewN hwc _⟩
                      · have e6 : (y.kind != x.kind) = true := by rw [bne_iff_ne]; exact hyk
                        have HX := Lib.hid (show right lt l = false by rw [HM2.out, HO2.out, decide_eq_false (p := y.kind = x.kind ∧ y.same = -1) (by rintro ⟨h, _⟩; exact hyk h)]; simp)
                        clear hk2 hyk
                        go_wp2_with fail
                        go_quiet (fail)
                        go_wp2
                        go_ret
                        exact ⟨ret_bool HX.out.symm, below_drewN hwc _⟩
            · have hFk : (F && kb) = false := by simpa using hFk
              have HX := Lib.hid (show right lt l = false by rw [hR.out, HS.out, HF.out, HKB.out, hFk]; simp)
              clear hIW hpW hdW hkW hB8
              rw [hFk]
              go_wp2
              go_ret
              exact ⟨ret_bool HX.out.symm, hwc⟩
        · have HX := Lib.hid (show right lt l = true by rw [hR.out, List.drop_eq_nil_of_le (by omega : l.length ≤ k)]; unfold rightFrom; rfl)
          go_wp2
          go_ret
          exact ⟨ret_bool HX.out.symm, hwr⟩
    · have h1 : (!x0.path.isEmpty) = true := by rw [List.isEmpty_eq_false_iff.2 hp]; rfl
      have HR := Lib.hid (show right lt l = false by
        unfold right
        cases l with
        | nil => rfl
        | cons a r =>
          cases hx0
          show (!(x0 :: r).isEmpty && rightFrom lt [] (x0 :: r)) = false
          rw [rightFrom]
          unfold stands
          simp [hp])
      clear hp hc0 hI
      go_enter Tryd.func7, Tryd.ntmps7
      go_wp2
      go_ret
      exact ⟨ret_bool HR.out.symm, Below.refl _ _⟩
end Pw
end Go.Proofs.YtnmgdlmicgbapaaDoor
