/- The walk of Make. -/
import Derived.Test.YtlnnbjgfpiefdaaGreatRamB10
import Derived.Test.YtlnnbjgfpiefdaaGreatRamB09
import Derived.Test.YtlnnbjgfpiefdaaGreatRamB02
import Derived.Test.YtlnnbjgfpiefdaaGreatRamB11
namespace Go.Proofs.YtlnnbjgfpiefdaaGreat
open Go.RowKit Go.Shelf

attribute [local go_sem] Oper.semAt_some
namespace Pw
open Pk
theorem cut_len : ∀ (l : List UInt8), ∀ p ∈ cut l, p.length ≤ l.length
  | [], p, hp => by simp [cut] at hp; subst hp; simp
  | c :: r, p, hp => by
    have ih := cut_len r
    unfold cut at hp
    split at hp
    · rcases List.mem_cons.1 hp with e | h
      · subst e; simp
      · have := ih p h; simp; omega
    · split at hp
      · rename_i x xs hx
        rcases List.mem_cons.1 hp with e | h
        · have := ih x (by rw [hx]; simp); subst e; simp; omega
        · have := ih p (by rw [hx]; simp [h]); simp; omega
      · rw [List.mem_singleton.1 hp]; simp
theorem pcs_len (l : List UInt8) (p : List UInt8) (hp : p ∈ pcs l) : p.length ≤ l.length := cut_len l p (List.mem_filter.1 hp).1
set_option maxRecDepth 100000 in
theorem make_wrong (t : List UInt8) (w : World) (hw : Fs.wrong t true = true) : Calls Tryz.prog 56 #[.string (mk t)] w fun e W' => Below w.heap.size w W' ∧
    match Fs.make t with
    | .ok (l, nm) => ∃ v, e = .returned (.tuple #[v, .string (mk nm), .int .i64 0]) ∧ Fs.StrsAt W' v l none
    | .error z => e = .returned (.tuple #[.slice none 0 0, .string (mk []), .int .i64 z]) ∧ z ≠ 0 := by
  have HW := wrong_path (mk t) w
  rw [bs_mk, hw] at HW
  unfold Fs.make
  rw [hw]
  clear hw
  go_enter Tryz.func56, Tryz.ntmps56
  go_wp2_with (go_at_call 68; refine HW.mono ?_; rintro e w' ⟨rfl, rfl⟩)
  go_ret3
  exact ⟨Below.refl _ _, rfl⟩
set_option maxRecDepth 100000 in
set_option maxHeartbeats 4000000 in
theorem make_in (t : List UInt8) (ht : t.length ≤ 140737488355328) (w : World) (hw : Fs.wrong t true = false) : CallsIn Fence.wide 3 Tryz.prog 56 #[.string (mk t)] w fun e W' => Below w.heap.size w W' ∧
    match Fs.make t with
    | .ok (l, nm) => ∃ v, e = .returned (.tuple #[v, .string (mk nm), .int .i64 0]) ∧ Fs.StrsAt W' v l none
    | .error z => e = .returned (.tuple #[.slice none 0 0, .string (mk []), .int .i64 z]) ∧ z ≠ 0 := by
  have HW := (callsIn_wide (n := 2)).2 (wrong_path (mk t) w)
  rw [bs_mk, hw] at HW
  generalize hM : Fs.make t = M
  refine callsIn_of_wp_marks Tryz.func56 rfl trivial ?_ rfl
  simp only [Tryz.ntmps56, List.size_toArray, List.length_cons, List.length_nil, Nat.reduceAdd, Nat.reduceSub, Array.replicate_succ, Array.replicate_zero, List.push_toArray, List.append_toArray, List.nil_append, List.cons_append]
  gi_wp2_with (refine ⟨trivial, ?_⟩; first | (gi_at_call 68; refine HW.mono ?_; rintro e w' ⟨rfl, rfl⟩) | (gi_at_call 83; refine (pieces_in Fence.wide 2 trivial rfl _ _).mono ?_; rintro e w' ⟨rfl, rfl⟩))
  have b4 := (Boxed.new w 9 (.string { data := #[] })).alloc (.cells #[.string (mk t)] 9)
  have b5 := Boxed.new (w.alloc (.cells #[.string { data := #[] }] 9)) 9 (.string (mk t))
  have hB0 : Below w.heap.size w ((w.alloc (.cells #[.string { data := #[] }] 9)).alloc (.cells #[.string (mk t)] 9)) := ((Below.refl _ w).alloc (Nat.le_refl _) _).alloc (by simp) _
  rw [World.size_alloc] at b5
  obtain ⟨w0, hw0⟩ : ∃ w0, ((w.alloc (.cells #[.string { data := #[] }] 9)).alloc (.cells #[.string (mk t)] 9)) = w0 := ⟨_, rfl⟩
  have hsz : w0.heap.size = w.heap.size + 2 := by rw [← hw0]; simp
  rw [hw0] at b4 b5 hB0 ⊢
  clear hw0
  refine wpIn_rangeFunc_ownG rfl (by decide) (gf := 102) (lb := #[.pointer (some ⟨w.heap.size + 1, 0, none⟩)]) rfl trivial (enters_of Tryz.func102 (by kernel_rfl) rfl)
    (pieces_stops Fence.wide 2 trivial rfl (by decide) (w.heap.size + 1) (mk t) ht w0 (by omega) b5) keepsBox_t (keepsBox_b (by omega)) (Below.refl _ _) (fun _ => rfl)
    (fun pre W => Boxed W w.heap.size 9 (.string (mk (pre.getLast?.getD []))) ∧ Boxed W (w.heap.size + 1) 9 (.string (mk t)) ∧ Below w.heap.size w W)
    (fun _ _ _ => False)
    (OwnFrom.and (Own.from (boxed_own w.heap.size 9 (fun pre : List (List UInt8) => .string (mk (pre.getLast?.getD [])))) _) (OwnFrom.and (Own.from (boxed_own _ _ _) _) (ownFrom_below (Nat.le_refl _) (by omega))))
    (fun _ => ownFrom_pure _ _)
    ⟨b4, b5, hB0⟩
    (fun x => { tmps := #[.string (mk t), undef, .slice none 0 0, .string { data := #[] }, .int .i64 0, .pointer (some ⟨w.heap.size, 0, none⟩), .string (mk x), undef, undef, undef, undef, .string (mk t), .bool false, .string (mk t), .func (.func 102) #[] #[.pointer (some ⟨w.heap.size + 1, 0, none⟩)], .string (mk x), undef, undef, undef, undef, undef, undef, undef, undef, undef, undef, undef, undef, undef, undef, undef, undef, undef, undef, undef, undef, undef, undef, undef, undef, undef, undef, undef, undef, undef, undef, undef, undef, undef, undef], defers := [] }) ?assign ?body ?done ?stop
  case assign =>
    intro l x W K hK
    gi_wp2
    exact hK
  case body =>
    rintro l pre x W ⟨hv, hb5, hB⟩ hlt
    have hc := hv.cell
    have hf := hv.frozen
    have hl := hb5.lt
    gi_wp2
    refine ⟨(KeepsOthers.setCell _ _ _).from _, fun h => h.other (by omega) _, ?_, hb5.other (by omega) _, hB.setCell (p := ⟨w.heap.size, 0, none⟩) (Nat.le_refl _) _⟩
    rw [List.getLast?_append, List.getLast?_singleton]
    exact hv.set _
  case done =>
    rintro D ys W hD rfl ⟨hv, hb5, hB⟩ hK
    have hc := hv.cell
    have hDlt := (Array.getElem?_eq_some_iff.1 hK).1
    rw [bs_mk] at hv hc
    have hlal : ((pcs t).getLast?.getD []).length ≤ 140737488355328 := by
      cases hx : (pcs t).getLast? with
      | none => simp
      | some p => exact Nat.le_trans (pcs_len t p (List.mem_of_getLast? hx)) ht
    have HD := fun W : World => (callsIn_wide (n := 2)).2 (does_any ((pcs t).getLast?.getD []) W (by unfold maxLen; omega))
    have HC := fun W : World => (callsIn_wide (n := 2)).2 (comps_st t ht W)
    have hmk : Fs.make t = if Fs.lastP t = [46] ∨ Fs.lastP t = [46, 46] then .error 1 else match Fs.comps t with
      | none => .error 130
      | some l => .ok (l.dropLast, l.getLast?.getD []) := by unfold Fs.make; rw [hw]; rfl
    rw [hM] at hmk
    change ∀ W : World, CallsIn _ _ _ _ #[.string (mk (Fs.lastP t))] _ _ at HD
    change W.cell? _ = some (.string (mk (Fs.lastP t))) at hc
    have hdb : dotsB (Fs.lastP t) = decide (Fs.lastP t = [46] ∨ Fs.lastP t = [46, 46]) := rfl
    by_cases hdot : Fs.lastP t = [46] ∨ Fs.lastP t = [46, 46]
    · rw [if_pos hdot] at hmk
      subst hmk
      have HDt := HD W
      rw [show ((pcs t).getLast?.getD []) = Fs.lastP t from rfl, hdb, decide_eq_true hdot] at HDt
      clear HD HC hdot hdb
      gi_wp2_with (refine ⟨trivial, ?_⟩; gi_at_call 84; refine HDt.mono ?_; rintro e w1 ⟨rfl, hb1⟩)
      have hK1 := (hb1.block D hDlt).trans hK
      refine ⟨by simp, .inl ⟨_, _, rfl, run_takeDeferred hK1, ?_⟩⟩
      refine ⟨_, results_tmp3 rfl _ _ _, ?_, ?_⟩
      · exact (hB.trans ⟨hb1.os, hb1.tape, hb1.output, hb1.size, fun k hk => hb1.block k (by omega)⟩).trans (belowK_b (w := w) (Nat.le_refl _) w1 D _ _ (by omega) hK1 rfl rfl)
      · exact rfl
    · rw [if_neg hdot] at hmk
      have HDt := HD W
      rw [show ((pcs t).getLast?.getD []) = Fs.lastP t from rfl, hdb, decide_eq_false hdot] at HDt
      have hwW : w.heap.size ≤ W.heap.size := hB.size
      cases hcm : Fs.comps t with
      | none =>
        rw [hcm] at hmk HC
        subst hmk
        clear HD hdot hdb hcm
        gi_wp2_with (refine ⟨trivial, ?_⟩; first | (gi_at_call 84; refine HDt.mono ?_; rintro e w1 ⟨rfl, hb1⟩) | (gi_at_call 69; refine (HC w1).mono ?_; rintro e w2 ⟨hb2, rfl⟩))
        have hK1 := (hb2.block D (Nat.lt_of_lt_of_le hDlt hb1.size)).trans ((hb1.block D hDlt).trans hK)
        have hBe : Below w.heap.size w w2 := (hB.trans ⟨hb1.os, hb1.tape, hb1.output, hb1.size, fun k hk => hb1.block k (by omega)⟩).trans ⟨hb2.os, hb2.tape, hb2.output, hb2.size, fun k hk => hb2.block k (by have := hb1.size; omega)⟩
        refine ⟨by simp, .inl ⟨_, _, rfl, run_takeDeferred hK1, ?_⟩⟩
        exact ⟨_, results_tmp3 rfl _ _ _, hBe.trans (belowK_b (w := w) (Nat.le_refl _) w2 D _ _ (by omega) hK1 rfl rfl), rfl⟩
      | some l =>
        rw [hcm] at hmk HC
        subst hmk
        clear HD hdot hdb hcm
        have HC2 : ∀ W : World, CallsIn Fence.wide 2 Tryz.prog 69 #[.string (mk t), .int .i64 1024] W fun e W' => Below W.heap.size W W' ∧ ∃ ao cap, e = .returned (.tuple #[.slice ao l.length cap, .int .i64 0]) ∧ W'.ownsRow W.heap.size 9 1 (.slice ao l.length cap) l.length (strsV l) := fun W => by
          refine (HC W).mono ?_
          rintro e W' ⟨hb, v, he, ho⟩
          obtain ⟨ao, cap, rfl⟩ := own_slice ho
          exact ⟨hb, ao, cap, he, ho⟩
        clear HC
        cases l with
        | nil =>
          gi_wp2_with (refine ⟨trivial, ?_⟩; first | (gi_at_call 84; refine HDt.mono ?_; rintro e w1 ⟨rfl, hb1⟩) | (gi_at_call 69; refine (HC2 w1).mono ?_; rintro e w2 ⟨hb2, ao, cap, rfl, ho2⟩))
          have hK1 := (hb2.block D (Nat.lt_of_lt_of_le hDlt hb1.size)).trans ((hb1.block D hDlt).trans hK)
          have hBe : Below w.heap.size w w2 := (hB.trans ⟨hb1.os, hb1.tape, hb1.output, hb1.size, fun k hk => hb1.block k (by omega)⟩).trans ⟨hb2.os, hb2.tape, hb2.output, hb2.size, fun k hk => hb2.block k (by have := hb1.size; omega)⟩
          refine ⟨by simp, .inl ⟨_, _, rfl, run_takeDeferred hK1, ?_⟩⟩
          exact ⟨_, results_tmp3 rfl _ _ _, hBe.trans (belowK_b (w := w) (Nat.le_refl _) w2 D _ _ (by omega) hK1 rfl rfl), _, rfl, none, 0, rfl, Nat.le_refl _, fun h => absurd rfl h⟩
        | cons c r =>
          gi_wp2_with (refine ⟨trivial, ?_⟩; first | (gi_at_call 84; refine HDt.mono ?_; rintro e w1 ⟨rfl, hb1⟩) | (gi_at_call 69; refine (HC2 w1).mono ?_; rintro e w2 ⟨hb2, ao, cap, rfl, ho2⟩))
          obtain ⟨g2, c2, hv2, hgb2, hgl2, hcc2, hcm2, hcl2, hcf2⟩ := own_at ho2 (by simp)
          cases hv2
          have hlastc : w2.cell? ⟨g2, r.length, none⟩ = some (.string (mk ((c :: r).getLast?.getD []))) := by
            rw [hcl2 r.length (by simp)]
            have e1 : (c :: r)[r.length]? = some ((c :: r).getLast?.getD []) := by
              rw [List.getLast?_eq_getElem?]
              have : r.length < (c :: r).length := by simp
              rw [show (c :: r).length - 1 = r.length by simp, List.getElem?_eq_getElem this]
              rfl
            exact strsV_at e1
          have hln : ((c :: r).length : Int) - 1 = (r.length : Int) := by simp
          have hrc : r.length ≤ cap := by rw [List.length_cons] at hcc2; omega
          generalize hla : (c :: r).getLast?.getD [] = la2 at *
          have Hcl := Lib.hid hcl2
          clear hcf2 hcl2
          refine wpIn_wide.2 ?_
          go_quiet (fail)
          gi_wp2
          have hK1 : (w2.drewN nq).heap[D]? = some (.deferred (some [])) := (hb2.block D (Nat.lt_of_lt_of_le hDlt hb1.size)).trans ((hb1.block D hDlt).trans hK)
          have hBe : Below w.heap.size w (w2.drewN nq) := below_drewN ((hB.trans ⟨hb1.os, hb1.tape, hb1.output, hb1.size, fun k hk => hb1.block k (by omega)⟩).trans ⟨hb2.os, hb2.tape, hb2.output, hb2.size, fun k hk => hb2.block k (by have := hb1.size; omega)⟩) nq
          refine ⟨by simp, .inl ⟨_, _, rfl, run_takeDeferred hK1, ?_⟩⟩
          refine ⟨_, results_tmp3 rfl _ _ _, hBe.trans (belowK_b (w := w) (Nat.le_refl _) (w2.drewN nq) D _ _ (by omega) hK1 rfl rfl), .slice (some ⟨g2, 0, none⟩) r.length r.length, ?_, ?_⟩
          · rfl
          · refine ⟨_, _, by rw [List.length_dropLast, List.length_cons, Nat.add_sub_cancel], by rw [List.length_dropLast, List.length_cons, Nat.add_sub_cancel]; exact Nat.le_refl _, fun _ => ⟨g2, 0, rfl, ?_, by simp, fun j x hj => ?_⟩⟩
            · exact Nat.lt_of_lt_of_le hgl2 (grownBy_putObj' (w2.drewN nq) D (.deferred none)).size
            · refine cell_kept ?_ (grownBy_putObj' (w2.drewN nq) D (.deferred none)) (fun r e => by cases e; exact ⟨_, hK1, rfl⟩)
              have hjl : j < r.length := by have := (List.getElem?_eq_some_iff.1 hj).1; rw [List.length_dropLast, List.length_cons] at this; omega
              have hx : (c :: r)[j]? = some x := by rw [List.getElem?_dropLast] at hj; split at hj; exact hj; cases hj
              rw [Nat.zero_add]
              show w2.cell? ⟨g2, j, none⟩ = _
              rw [Hcl.out j (by simp; omega)]
              exact strsV_at hx
  case stop =>
    rintro D c pre W _ _ hf _
    exact hf.elim
theorem make_st (t : List UInt8) (ht : t.length ≤ 140737488355328) (w : World) : Calls Tryz.prog 56 #[.string (mk t)] w fun e W' => Below w.heap.size w W' ∧
    match Fs.make t with
    | .ok (l, nm) => ∃ v, e = .returned (.tuple #[v, .string (mk nm), .int .i64 0]) ∧ Fs.StrsAt W' v l none
    | .error z => e = .returned (.tuple #[.slice none 0 0, .string (mk []), .int .i64 z]) ∧ z ≠ 0 := by
  cases hw : Fs.wrong t true with
  | true => exact make_wrong t w hw
  | false => exact callsIn_wide.1 (make_in t ht w hw)
end Pw
end Go.Proofs.YtlnnbjgfpiefdaaGreat
/- Where a path leads: plain. -/
namespace Go.Proofs.YtlnnbjgfpiefdaaGreat
namespace Fs
/-- From the root down, each in the one ahead. -/
inductive Trail (s : Tree) : List Int → Prop
  | one : kindOf s 1 = 2 → Trail s [1]
  | snoc {ch : List Int} {c : Tx} {m : Int} : Trail s ch → get (namesOf s (ch.getLast?.getD 0)) c = some m → kindOf s m = 2 → Trail s (ch ++ [m])
theorem Trail.ne {s : Tree} {ch : List Int} (h : Trail s ch) : ch ≠ [] := by cases h <;> simp
theorem Trail.dirs {s : Tree} {ch : List Int} (h : Trail s ch) : ∀ i ∈ ch, kindOf s i = 2 := by
  induction h with
  | one h => intro i hi; rw [List.mem_singleton.1 hi]; exact h
  | snoc _ _ hm ih => intro i hi; rcases List.mem_append.1 hi with h | h; · exact ih i h
                      · rw [List.mem_singleton.1 h]; exact hm
theorem Trail.init {s : Tree} {ch : List Int} (h : Trail s ch) : Trail s (ch.take (max 1 (ch.length - 1))) := by
  cases h with
  | one h => exact .one h
  | @snoc ch c m h hc hm =>
    have := List.length_pos_iff.2 h.ne
    rw [List.length_append, List.length_singleton, Nat.add_sub_cancel, Nat.max_eq_right (by omega), List.take_left']
    · exact h
    · rfl
theorem Trail.root {s : Tree} {ch : List Int} (h : Trail s ch) : kindOf s 1 = 2 := by
  induction h with
  | one h => exact h
  | snoc _ _ _ ih => exact ih
theorem Trail.last {s : Tree} {ch : List Int} (h : Trail s ch) : ch.getLast?.getD 0 ∈ ch := by
  cases hh : ch.getLast? with
  | none => rw [List.getLast?_eq_none_iff] at hh; exact absurd hh h.ne
  | some x => exact List.mem_of_getLast? hh
theorem comps_ok {t : Tx} {l : List Tx} (h : comps t = some l) : (∀ p ∈ l, p.length ≤ 27 ∧ p ∈ Pk.pcs t) ∧ l.length ≤ 32 := by
  unfold comps at h
  split at h
  · rename_i hc
    cases h
    exact ⟨fun p hp => ⟨hc.2.1 p (List.mem_filter.1 hp).1, (List.mem_filter.1 hp).1⟩, hc.2.2⟩
  · cases h
theorem textP_all {t : Tx} {l : List Tx} {top : Bool} (h : textP t = .ok (l, top)) : (∀ p ∈ l, p.length ≤ 27 ∧ p ∈ Pk.pcs t) ∧ l.length ≤ 32 := by
  unfold textP at h
  split at h
  · cases h
  · split at h
    · cases h
    · rename_i hc; cases h; exact comps_ok hc
theorem parse_all {t : Tx} {l : List Tx} (h : parse t = .ok l) : (∀ p ∈ l, p.length ≤ 27 ∧ p ∈ Pk.pcs t) ∧ l.length ≤ 32 := by
  unfold parse at h
  split at h
  · cases h
  · split at h
    · cases h
    · rename_i hc; cases h; exact comps_ok hc
theorem make_all {t : Tx} {l : List Tx} {nm : Tx} (h : make t = .ok (l, nm)) : (∀ p ∈ l, p.length ≤ 27) ∧ l.length ≤ 32 ∧ nm.length ≤ 27 := by
  unfold make at h
  split at h
  · cases h
  · split at h
    · cases h
    · split at h
      · cases h
      · rename_i l' hc
        cases h
        obtain ⟨h1, h2⟩ := comps_ok hc
        refine ⟨fun p hp => (h1 p (List.dropLast_subset _ hp)).1, by rw [List.length_dropLast]; omega, ?_⟩
        cases e : l'.getLast? with
        | none => simp
        | some x => exact (h1 x (List.mem_of_getLast? e)).1
/-- What is known of a place. -/
theorem goes_ok {s : Tree} {behind follow : Bool} {parts : List Tx} {ch : List Int} {k : Nat} {p : Place} (h : goes s behind follow parts ch k = .ok p) (ht : Trail s ch) (hk : k ≤ 8) (hp : ∀ c ∈ parts, c.length ≤ 27) :
    Trail s p.chain ∧ p.chain.length ≤ ch.length + parts.length + (8 - k) * 32 ∧ p.name.length ≤ 27 ∧ ((p.name = [] ∧ p.inode = p.dir) ∨ (get (namesOf s p.dir) p.name = some p.inode ∧ behind = false ∧ get s p.inode ≠ none)) := by
  fun_induction goes s behind follow parts ch k with
  | case1 ch k => cases h; exact ⟨ht, by simp, by simp, .inl ⟨rfl, rfl⟩⟩
  | case2 ch k r ih =>
    have hlp := List.length_pos_iff.2 ht.ne
    have hl : (ch.take (max 1 (ch.length - 1))).length = max 1 (ch.length - 1) := by rw [List.length_take]; omega
    obtain ⟨h1, h3, h4⟩ := ih h ht.init hk (fun c hc => hp c (List.mem_cons_of_mem _ hc))
    rw [hl] at h3
    exact ⟨h1, by simp only [List.length_cons]; omega, h4⟩
  | case3 => cases h
  | case4 => cases h
  | case5 ch k c r hc m hg x hx hk2 ih =>
    have hm : kindOf s m = 2 := by unfold kindOf; rw [hx]; exact hk2.1
    obtain ⟨h1, h3, h4⟩ := ih h (ht.snoc hg hm) hk (fun c hc => hp c (List.mem_cons_of_mem _ hc))
    rw [List.length_append, List.length_singleton] at h3
    exact ⟨h1, by simp only [List.length_cons]; omega, h4⟩
  | case6 => cases h
  | case7 => cases h
  | case8 ch k c r hc m hg x hx hk2 hk3 h8 more top htx ih =>
    obtain ⟨h5, h6⟩ := textP_all htx
    have hl : (if top = true then [1] else ch).length ≤ ch.length := by have := List.length_pos_iff.2 ht.ne; split <;> simp; omega
    obtain ⟨h1, h3, h4⟩ := ih (by simpa using h) (by split; exact .one ht.root; exact ht) (by omega) (fun c hc => by
      rcases List.mem_append.1 hc with e | e
      · exact (h5 c e).1
      · exact hp c (List.mem_cons_of_mem _ e))
    have h3' : p.chain.length ≤ (if top = true then [1] else ch).length + (more ++ r).length + (8 - (k + 1)) * 32 := by simpa using h3
    rw [List.length_append] at h3'
    exact ⟨h1, by simp only [List.length_cons]; omega, h4⟩
  | case9 => cases h
  | case10 ch k c r hc m hg x hx hk2 hk3 hbr =>
    cases h
    refine ⟨ht, by simp; omega, hp c (by simp), .inr ⟨hg, ?_, by rw [hx]; simp⟩⟩
    cases behind with
    | true => exact absurd (.inl rfl) hbr
    | false => rfl
theorem toP_ok {s : Tree} {t : Tx} {follow : Bool} {p : Place} (h : toP s t follow = .ok p) (h1 : kindOf s 1 = 2) :
    Trail s p.chain ∧ p.chain.length ≤ 300 ∧ p.name.length ≤ 27 ∧ ((p.name = [] ∧ p.inode = p.dir) ∨ (get (namesOf s p.dir) p.name = some p.inode ∧ get s p.inode ≠ none)) := by
  unfold toP at h
  split at h
  · cases h
  · rename_i parts hp
    obtain ⟨h2, h3⟩ := parse_all hp
    obtain ⟨h4, h5, h6, h7⟩ := goes_ok h (.one h1) (by omega) (fun c hc => (h2 c hc).1)
    refine ⟨h4, by simp only [List.length_singleton] at h5; omega, h6, ?_⟩
    rcases h7 with e | e
    · exact .inl e
    · exact .inr ⟨e.1, e.2.2⟩
theorem nameP_ok {s : Tree} {t : Tx} {p : Place} (h : nameP s t = .ok p) (h1 : kindOf s 1 = 2) :
    Trail s p.chain ∧ p.chain.length ≤ 300 ∧ p.name.length ≤ 27 ∧ ((p.name = [] ∧ p.inode = 1 ∧ p.chain = [1]) ∨ (p.name ≠ [] ∧ p.inode = (get (namesOf s p.dir) p.name).getD 0)) := by
  unfold nameP at h
  split at h
  · cases h
  · rename_i parts nm hp
    obtain ⟨h2, h3, h4⟩ := make_all hp
    split at h
    · cases h; exact ⟨.one h1, by simp, by simp, .inl ⟨rfl, rfl, rfl⟩⟩
    · rename_i hnm
      split at h
      · cases h
      · rename_i q hq
        obtain ⟨h5, h6, h7, h8⟩ := goes_ok hq (.one h1) (by omega) h2
        cases h
        refine ⟨h5, by simp only [List.length_singleton] at h6; simp only; omega, h4, .inr ⟨hnm, rfl⟩⟩
end Fs
end Go.Proofs.YtlnnbjgfpiefdaaGreat
/- To a path; to a name. -/
namespace Go.Proofs.YtlnnbjgfpiefdaaGreat
open Go.RowKit Go.Maps Go.Shelf

namespace Fs
set_option maxRecDepth 100000 in
theorem to_results {tmps : Array Value} {w : World} {b : Nat} {v0 v1 v2 v3 : Value} {t : TypeId} (h8 : tmps[6]? = some (.pointer (some ⟨b, 0, none⟩))) (h9 : tmps[7]? = some v3) (hb : Blk w b #[v0, v1, v2] t) :
    (results Tryz.f60 tmps).run Tryz.prog w = .ok (.tuple #[.agg #[v0, v1, v2], v3]) w := by
  have c0 : w.cell? ⟨b, 0, none⟩ = some v0 := hb.cell 0
  have c1 : w.cell? ⟨b, 1, none⟩ = some v1 := hb.cell 1
  have c2 : w.cell? ⟨b, 2, none⟩ = some v2 := hb.cell 2
  simp [results, Tryz.results60, go_sem, h8, h9, c0, c1, c2]
set_option maxRecDepth 100000 in
theorem name_results {tmps : Array Value} {w : World} {b : Nat} {v0 v1 v2 v3 : Value} {t : TypeId} (h8 : tmps[4]? = some (.pointer (some ⟨b, 0, none⟩))) (h9 : tmps[5]? = some v3) (hb : Blk w b #[v0, v1, v2] t) :
    (results Tryz.f46 tmps).run Tryz.prog w = .ok (.tuple #[.agg #[v0, v1, v2], v3]) w := by
  have c0 : w.cell? ⟨b, 0, none⟩ = some v0 := hb.cell 0
  have c1 : w.cell? ⟨b, 1, none⟩ = some v1 := hb.cell 1
  have c2 : w.cell? ⟨b, 2, none⟩ = some v2 := hb.cell 2
  simp [results, Tryz.results46, go_sem, h8, h9, c0, c1, c2]
theorem isRoot_any (v0 : Value) (nm : Tx) (i : Int) (W : World) : Calls Tryz.prog 47 #[.agg #[v0, .string (mk nm), .int .i64 i]] W fun e W' => e = .returned (.bool (nm == [])) ∧ Below W.heap.size W W' := by
  go_enter Tryz.func47, Tryz.ntmps47
  go_wp2
  go_ret
  refine ⟨?_, (Below.refl _ _).alloc (Nat.le_refl _) _⟩
  show Ending.returned (.bool ((mk nm).toList.isEmpty)) = _
  rw [show (mk nm).toList = nm from toList_bs (mk nm)]
  cases nm <;> rfl
theorem dir_any {W : World} {base : Nat} {cv : Value} {ch : List Int} (hown : W.ownsRow base 3 1 cv ch.length (Tk.cs ch)) (hne : ch ≠ []) (hl : ch.length ≤ 1000000) (nm : Tx) (i : Int) : Calls Tryz.prog 50 #[.agg #[cv, .string (mk nm), .int .i64 i]] W fun e W' => e = .returned (.int .i64 (ch.getLast?.getD 0)) ∧ Below W.heap.size W W' := by
  obtain ⟨cg, cc, rfl, hcg, hcglt, hcc, hccm, hcell, hcfree⟩ := own_at hown (List.length_pos_iff.2 hne)
  have hlen : 0 < ch.length := List.length_pos_iff.2 hne
  have hlast : W.cell? ⟨cg, ch.length - 1, none⟩ = some (.int .i64 (ch.getLast?.getD 0)) := by
    rw [hcell (ch.length - 1) (by omega), Tk.cs_get ch _ (by omega)]
    congr 2
    rw [List.getLast?_eq_getElem?, List.getD_eq_getElem?_getD]
  have hlc : ((ch.length : Int) - 1).toNat = ch.length - 1 := by omega
  clear hcell
  generalize ch.getLast?.getD 0 = la at *
  go_enter Tryz.func50, Tryz.ntmps50
  go_wp2
  go_ret
  exact ⟨rfl, (Below.refl _ _).alloc (Nat.le_refl _) _⟩
section
variable {W : World} {L : Lay} {fb : Nat} {n : Int} {nb : Nat} {uv : Value} {vals : List Value}
set_option maxRecDepth 100000 in
set_option maxHeartbeats 4000000 in
theorem to_st (h : Sim W L fb n nb uv vals) (hw : WF L nb) (hG : Good (stOf L nb)) (p : Tx) (hp : p.length ≤ 140737488355328) (follow : Bool) :
    Calls Tryz.prog 60 #[.pointer (some ⟨fb, 0, none⟩), .string (mk p), .bool follow] W fun e W' => PlaceR W' W.heap.size (toP (stOf L nb) p follow) e ∧ Below W.heap.size W W' := by
  have hpl0 := Blk.new W #[.slice none 0 0, .string { data := #[] }, .int .i64 0] 99
  have HT := Pw.parse_st p hp (W.alloc (.cells #[.slice none 0 0, .string { data := #[] }, .int .i64 0] 99))
  go_enter Tryz.func60, Tryz.ntmps60
  unfold toP
  cases hpp : parse p with
  | error z =>
    rw [hpp] at HT
    clear hpp
    go_wp2_with (go_at_call 59; refine HT.mono ?_; rintro e w3 ⟨hb3, rfl, hzn⟩; have hzb := (bne_iff_ne.2 hzn); have hpl3 := hpl0.same (hb3.block W.heap.size (by simp)); have z0 := hpl3.cell 0; have z1 := hpl3.cell 1; have z2 := hpl3.cell 2; have z3 := hpl3.free 0; have z4 := hpl3.free 1; have z5 := hpl3.free 2)
    refine bodyPost_ret (v := .tuple #[.agg #[.slice none 0 0, .string { data := #[] }, .int .i64 0], .int .i64 z]) (to_results rfl rfl (hpl3.set3 _ _ _)) rfl ⟨⟨rfl, hzn⟩, below_set3 (((Below.refl W.heap.size W).alloc (Nat.le_refl _) _).trans ⟨hb3.os, hb3.tape, hb3.output, hb3.size, fun x hx => hb3.block x (by simp; omega)⟩) (Nat.le_refl _) _ _ _⟩
  | ok parts =>
    rw [hpp] at HT
    obtain ⟨h2, h3⟩ := parse_all hpp
    clear hpp
    dsimp only
    cases hgo : goes (stOf L nb) false follow parts [1] 0 with
    | error z =>
      go_wp2_with (first | (go_at_call 59; refine HT.mono ?_; rintro e w3 ⟨hb3, v3, rfl, hown3⟩; obtain ⟨ao3, c3', rfl, _⟩ := own_shape2 hown3; have hbw3 : Below W.heap.size W w3 := (((Below.refl W.heap.size W).alloc (Nat.le_refl _) _).trans ⟨hb3.os, hb3.tape, hb3.output, hb3.size, fun x hx => hb3.block x (by simp; omega)⟩); have hpl3 := hpl0.same (hb3.block W.heap.size (by simp))) | (go_at_call 78; refine (goes_any (h.below hbw3) hw hG false follow parts _ (StrsAt.of_own hown3 (Classical.or_iff_not_imp_left.2 fun hno e => hno e.symm)) (by omega) (fun c hc => by have := (h2 c hc).1; omega)).mono ?_; rintro e w4 ⟨hR4, hb4⟩; rw [hgo] at hR4; obtain ⟨rfl, hzn⟩ := hR4; have hbw4 : Below W.heap.size W w4 := hbw3.trans ⟨hb4.os, hb4.tape, hb4.output, hb4.size, fun x hx => hb4.block x (by have := hbw3.size; omega)⟩; have hpl4 := hpl3.same (hb4.block W.heap.size hpl3.lt); have hlt4 := hpl4.lt; have z0 := hpl4.cell 0; have z1 := hpl4.cell 1; have z2 := hpl4.cell 2; have z3 := hpl4.free 0; have z4 := hpl4.free 1; have z5 := hpl4.free 2))
      refine bodyPost_ret (v := .tuple #[.agg #[.slice none 0 0, .string { data := #[] }, .int .i64 0], .int .i64 z]) (to_results rfl rfl (hpl4.set3 _ _ _)) rfl ⟨⟨rfl, hzn⟩, below_set3 hbw4 (Nat.le_refl _) _ _ _⟩
    | ok q =>
      go_wp2_with (first | (go_at_call 59; refine HT.mono ?_; rintro e w3 ⟨hb3, v3, rfl, hown3⟩; obtain ⟨ao3, c3', rfl, _⟩ := own_shape2 hown3; have hbw3 : Below W.heap.size W w3 := (((Below.refl W.heap.size W).alloc (Nat.le_refl _) _).trans ⟨hb3.os, hb3.tape, hb3.output, hb3.size, fun x hx => hb3.block x (by simp; omega)⟩); have hpl3 := hpl0.same (hb3.block W.heap.size (by simp))) | (go_at_call 78; refine (goes_any (h.below hbw3) hw hG false follow parts _ (StrsAt.of_own hown3 (Classical.or_iff_not_imp_left.2 fun hno e => hno e.symm)) (by omega) (fun c hc => by have := (h2 c hc).1; omega)).mono ?_; rintro e w4 ⟨hR4, hb4⟩; rw [hgo] at hR4; obtain ⟨v4, rfl, hown4⟩ := hR4; obtain ⟨ao4, c4', rfl, _⟩ := own_shape2 hown4; have hbw4 : Below W.heap.size W w4 := hbw3.trans ⟨hb4.os, hb4.tape, hb4.output, hb4.size, fun x hx => hb4.block x (by have := hbw3.size; omega)⟩; have hpl4 := hpl3.same (hb4.block W.heap.size hpl3.lt); have hlt4 := hpl4.lt; have z0 := hpl4.cell 0; have z1 := hpl4.cell 1; have z2 := hpl4.cell 2; have z3 := hpl4.free 0; have z4 := hpl4.free 1; have z5 := hpl4.free 2))
      refine bodyPost_ret (v := .tuple #[.agg #[.slice ao4 q.chain.length c4', .string (mk q.name), .int .i64 q.inode], .int .i64 0]) (to_results rfl rfl (hpl4.set3 _ _ _)) rfl ⟨⟨_, rfl, row_base (own_set3 hown4 hpl3.lt _ _ _) hbw3.size⟩, below_set3 hbw4 (Nat.le_refl _) _ _ _⟩
set_option maxRecDepth 100000 in
set_option maxHeartbeats 4000000 in
theorem name_st (h : Sim W L fb n nb uv vals) (hw : WF L nb) (hG : Good (stOf L nb)) (p : Tx) (hp : p.length ≤ 140737488355328) :
    Calls Tryz.prog 46 #[.pointer (some ⟨fb, 0, none⟩), .string (mk p)] W fun e W' => PlaceR W' W.heap.size (nameP (stOf L nb) p) e ∧ Below W.heap.size W W' := by
  have hpl0 := Blk.new W #[.slice none 0 0, .string { data := #[] }, .int .i64 0] 99
  have HT := Pw.make_st p hp (W.alloc (.cells #[.slice none 0 0, .string { data := #[] }, .int .i64 0] 99))
  go_enter Tryz.func46, Tryz.ntmps46
  unfold nameP
  cases hpp : make p with
  | error z =>
    rw [hpp] at HT
    clear hpp
    go_wp2_with (go_at_call 56; refine HT.mono ?_; rintro e w3 ⟨hb3, rfl, hzn⟩; have hzb := (bne_iff_ne.2 hzn); have hpl3 := hpl0.same (hb3.block W.heap.size (by simp)); have z0 := hpl3.cell 0; have z1 := hpl3.cell 1; have z2 := hpl3.cell 2; have z3 := hpl3.free 0; have z4 := hpl3.free 1; have z5 := hpl3.free 2)
    refine bodyPost_ret (v := .tuple #[.agg #[.slice none 0 0, .string { data := #[] }, .int .i64 0], .int .i64 z]) (name_results rfl rfl (hpl3.set3 _ _ _)) rfl ⟨⟨rfl, hzn⟩, below_set3 (((Below.refl W.heap.size W).alloc (Nat.le_refl _) _).trans ⟨hb3.os, hb3.tape, hb3.output, hb3.size, fun x hx => hb3.block x (by simp; omega)⟩) (Nat.le_refl _) _ _ _⟩
  | ok q0 =>
    obtain ⟨parts, nm⟩ := q0
    rw [hpp] at HT
    obtain ⟨h2, h3, h4⟩ := make_all hpp
    clear hpp
    dsimp only at HT ⊢
    by_cases hnm : nm = []
    · rw [if_pos hnm]
      have hx : ((mk nm).toList.isEmpty) = true := by rw [show (mk nm).toList = nm from toList_bs (mk nm), hnm]; rfl
      clear hnm
      go_wp2_with (go_at_call 56; refine HT.mono ?_; rintro e w3 ⟨hb3, v3, rfl, hst3⟩; have hst3' := hst3; obtain ⟨ao3, c3', rfl, hcx, _⟩ := hst3'; have hbw3 : Below W.heap.size W w3 := (((Below.refl W.heap.size W).alloc (Nat.le_refl _) _).trans ⟨hb3.os, hb3.tape, hb3.output, hb3.size, fun x hx => hb3.block x (by simp; omega)⟩); have hpl3 := hpl0.same (hb3.block W.heap.size (by simp)); have hlt3 := hpl3.lt; have z0 := hpl3.cell 0; have z1 := hpl3.cell 1; have z2 := hpl3.cell 2; have z3 := hpl3.free 0; have z4 := hpl3.free 1; have z5 := hpl3.free 2)
      have hnew := Blk.new (((w3.setCell ⟨W.heap.size, 0, none⟩ (.slice (some ⟨w3.heap.size, 0, none⟩) 1 1)).setCell ⟨W.heap.size, 1, none⟩ (.string { data := #[] })).setCell ⟨W.heap.size, 2, none⟩ (.int .i64 1)) #[.int .i64 1] 3
      simp only [World.size_setCell] at hnew
      exact bodyPost_ret (name_results rfl rfl ((hpl3.set3 _ _ _).same (((Below.refl _ _).alloc (Nat.le_refl _) _).block _ (by simp; omega)))) rfl ⟨⟨_, rfl, ⟨rfl, .inr ⟨w3.heap.size, 1, #[.int .i64 1], rfl, hbw3.size, hnew, Nat.le_refl _, by unfold maxLen; omega, rfl, rfl⟩⟩⟩, (below_set3 hbw3 (Nat.le_refl _) _ _ _).alloc (by simp; omega) _⟩
    · rw [if_neg hnm]
      have hx : ((mk nm).toList.isEmpty) = false := by rw [show (mk nm).toList = nm from toList_bs (mk nm)]; cases nm with | nil => exact absurd rfl hnm | cons => rfl
      cases hgo : goes (stOf L nb) true true parts [1] 0 with
      | error z =>
        clear hnm
        go_wp2_with (first | (go_at_call 56; refine HT.mono ?_; rintro e w3 ⟨hb3, v3, rfl, hst3⟩; have hst3' := hst3; obtain ⟨ao3, c3', rfl, hcx, _⟩ := hst3'; have hbw3 : Below W.heap.size W w3 := (((Below.refl W.heap.size W).alloc (Nat.le_refl _) _).trans ⟨hb3.os, hb3.tape, hb3.output, hb3.size, fun x hx => hb3.block x (by simp; omega)⟩); have hpl3 := hpl0.same (hb3.block W.heap.size (by simp))) | (go_at_call 78; refine (goes_any (h.below hbw3) hw hG true true parts _ hst3 (by omega) (fun c hc => by have := h2 c hc; omega)).mono ?_; rintro e w4 ⟨hR4, hb4⟩; rw [hgo] at hR4; obtain ⟨rfl, hzn⟩ := hR4; have hzb := (bne_iff_ne.2 hzn); have hbw4 : Below W.heap.size W w4 := hbw3.trans ⟨hb4.os, hb4.tape, hb4.output, hb4.size, fun x hx => hb4.block x (by have := hbw3.size; omega)⟩; have hpl4 := hpl3.same (hb4.block W.heap.size hpl3.lt); have hlt4 := hpl4.lt; have z0 := hpl4.cell 0; have z1 := hpl4.cell 1; have z2 := hpl4.cell 2; have z3 := hpl4.free 0; have z4 := hpl4.free 1; have z5 := hpl4.free 2))
        refine bodyPost_ret (v := .tuple #[.agg #[.slice none 0 0, .string { data := #[] }, .int .i64 0], .int .i64 z]) (name_results rfl rfl ((hpl4.set3 _ _ _).same (((Below.refl _ _).alloc (Nat.le_refl _) _).block _ (by simp; omega)))) rfl ⟨⟨rfl, hzn⟩, (below_set3 hbw4 (Nat.le_refl _) _ _ _).alloc (by simp; omega) _⟩
      | ok q =>
        obtain ⟨ht, hl, _, _⟩ := goes_ok hgo (.one hG.root) (by omega) h2
        have hqc := ht.ne
        have hql : q.chain.length ≤ 1000 := by simp only [List.length_singleton] at hl; omega
        have hlk := ht.dirs _ ht.last
        obtain ⟨x0, hx0⟩ : ∃ x, get (stOf L nb) (q.chain.getLast?.getD 0) = some x := by
          cases e : get (stOf L nb) (q.chain.getLast?.getD 0) with
          | none => unfold kindOf at hlk; rw [e] at hlk; cases hlk
          | some x => exact ⟨x, rfl⟩
        obtain ⟨b, ha, _⟩ := Adr.of_st hx0
        obtain ⟨hla1, hla2⟩ := hG.ids _ x0 hx0
        obtain ⟨hd, mq, m, hb, hq, hm, hme, hnd, hkd⟩ := hw.dirAt ha hlk
        have hqd : get (namesOf (stOf L nb) q.dir) nm = get m nm := by rw [hme]; rfl
        have hgv : ((get m nm).map evI).getD (.int .i64 0) = .int .i64 ((get m nm).getD 0) := by cases get m nm <;> rfl
        have Hqd := Lib.hid hqd
        clear hnm ht hlk hx0 hqd hl
        go_wp2_with (first | (go_at_call 56; refine HT.mono ?_; rintro e w3 ⟨hb3, v3, rfl, hst3⟩; have hst3' := hst3; obtain ⟨ao3, c3', rfl, hcx, _⟩ := hst3'; have hbw3 : Below W.heap.size W w3 := (((Below.refl W.heap.size W).alloc (Nat.le_refl _) _).trans ⟨hb3.os, hb3.tape, hb3.output, hb3.size, fun x hx => hb3.block x (by simp; omega)⟩); have hpl3 := hpl0.same (hb3.block W.heap.size (by simp))) | (go_at_call 78; refine (goes_any (h.below hbw3) hw hG true true parts _ hst3 (by omega) (fun c hc => by have := h2 c hc; omega)).mono ?_; rintro e w4 ⟨hR4, hb4⟩; rw [hgo] at hR4; obtain ⟨v4, rfl, hown4⟩ := hR4; obtain ⟨ao4, c4', rfl, _⟩ := own_shape2 hown4; have hbw4 : Below W.heap.size W w4 := hbw3.trans ⟨hb4.os, hb4.tape, hb4.output, hb4.size, fun x hx => hb4.block x (by have := hbw3.size; omega)⟩; have hpl4 := hpl3.same (hb4.block W.heap.size hpl3.lt); have hlt4 := hpl4.lt; have z0 := hpl4.cell 0; have z1 := hpl4.cell 1; have z2 := hpl4.cell 2; have z3 := hpl4.free 0; have z4 := hpl4.free 1; have z5 := hpl4.free 2) | (go_at_call 50; refine (dir_any (hown4.alloc _) hqc (by omega) nm q.inode).mono ?_; rintro e w5 ⟨rfl, hb5⟩; have hbP : Below W.heap.size W w5 := (hbw4.alloc (by omega) _).trans ⟨hb5.os, hb5.tape, hb5.output, hb5.size, fun x hx => hb5.block x (by simp; omega)⟩; have S5 := h.below hbP; have hP5 := (Blk.new w4 #[.slice ao4 q.chain.length c4', .string (mk nm), .int .i64 q.inode] 99).same (hb5.block _ (by simp)); have p0 := hP5.cell 0; have p1 := hP5.cell 1; have p2 := hP5.cell 2; have p3 := hP5.free 0; have p4 := hP5.free 1; have p5 := hP5.free 2; have hplP := hpl4.same ((hb5.block W.heap.size (by simp; omega)).trans (((Below.refl _ _).alloc (Nat.le_refl w4.heap.size) _).block _ hlt4)); have y0 := hplP.cell 0; have y1 := hplP.cell 1; have y2 := hplP.cell 2; have y3 := hplP.free 0; have y4 := hplP.free 1; have y5 := hplP.free 2; have hMA : MapAt Tryz.prog 9 evI w5 mq m := (S5.is mq _ hm).2; have c4 := (node_cells (S5.is b _ hb).2).2.2.2.2.1; rw [hq] at c4; have hlook := hMA.look kT Tryz.underlying63 (zI _) (keyT (s := nm) (by unfold maxLen; omega)); rw [hgv] at hlook) | (go_at_call 40; refine (at_st S5 hw ha hla1 hla2).mono ?_; rintro e w' ⟨rfl, rfl⟩))
        have hv5 := own_below (hown4.alloc _) hb5
        have hv6 := ownsRow_setCell_other hv5 (a := ⟨w4.heap.size, 2, none⟩) (fun e => by have := (hown4.lt _ e).2; exact Nat.lt_irrefl _ this) (.int .i64 ((get (namesOf (stOf L nb) (q.chain.getLast?.getD 0)) nm).getD 0))
        have hpl6 := hplP.same (Below.heap_setCell w5 ⟨w4.heap.size, 2, none⟩ (.int .i64 ((get (namesOf (stOf L nb) (q.chain.getLast?.getD 0)) nm).getD 0)) W.heap.size (Nat.ne_of_lt hlt4))
        exact bodyPost_ret (name_results rfl rfl (hpl6.set3 _ _ _)) rfl ⟨⟨_, rfl, row_base (own_set3 hv6 hpl3.lt _ _ _) hbw3.size⟩, below_set3 (hbP.setCell (p := ⟨w4.heap.size, 2, none⟩) hbw4.size _) (Nat.le_refl _) _ _ _⟩
end
end Fs
end Go.Proofs.YtlnnbjgfpiefdaaGreat
