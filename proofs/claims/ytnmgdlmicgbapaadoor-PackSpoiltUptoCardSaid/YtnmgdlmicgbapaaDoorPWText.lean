/- The walks of a text's components: components, wrong, Text. -/
import Derived.Test.YtnmgdlmicgbapaaDoorPWPieces
import Derived.Test.YtnmgdlmicgbapaaDoorStrs
namespace Go.Proofs.YtnmgdlmicgbapaaDoor
open Go.RowKit Go.Shelf

attribute [local go_sem] Oper.semAt_some
namespace Pw
open Pk
/-- The pieces that aren't a dot. -/
def nodots (l : List (List UInt8)) : List (List UInt8) := l.filter fun p => decide (p ≠ [46])
theorem nodots_hit (l : List (List UInt8)) {x : List UInt8} (h : x ≠ [46]) : nodots (l ++ [x]) = nodots l ++ [x] := by simp [nodots, h]
theorem nodots_miss (l : List (List UInt8)) {x : List UInt8} (h : x = [46]) : nodots (l ++ [x]) = nodots l := by simp [nodots, h]
theorem comps_pcs (l : List UInt8) : comps l = nodots (pcs l) := by
  unfold comps nodots pcs
  rw [List.filter_filter]
  congr 1
  funext p
  unfold isC
  by_cases h1 : p = [] <;> by_cases h2 : p = [46] <;> simp [h1, h2]
/-- Pieces that may be. -/
def Good (pre : List (List UInt8)) : Prop := (∀ p ∈ pre, p.length ≤ 27) ∧ (nodots pre).length ≤ 32
theorem strT : CellT Tryd.prog 56 9 (.string (mk [])) 16 := ⟨Tryd.underlying56, by kernel_rfl, rfl⟩
theorem pieces_in (F : Fence) (n : Nat) (h2f : F.fn 58) (hro : F.round = none) (s : ByteArray) (w : World) :
    CallsIn F n Tryd.prog 58 #[.string s] w fun e w' => e = .returned (.func (.func 71) #[] #[.pointer (some ⟨w.heap.size, 0, none⟩)]) ∧ w' = w.alloc (.cells #[.string s] 9) := by
  refine callsIn_of_wp Tryd.func58 rfl h2f ?_ hro
  simp only [Tryd.ntmps58, List.size_toArray, List.length_cons, List.length_nil, Nat.reduceAdd, Nat.reduceSub, Array.replicate_succ, Array.replicate_zero, List.push_toArray, List.append_toArray, List.nil_append, List.cons_append]
  gi_wp2
  go_ret
  exact ⟨rfl, rfl⟩
theorem pieces_stops (F : Fence) (n : Nat) (h3f : F.fn 71) (hro : F.round = none) (hn : 1 ≤ n) (Bs : Nat) (s : ByteArray) (hs : s.size ≤ 1000000000000) (w : World) (hBs : Bs < w.heap.size) (hB : Boxed w Bs 9 (.string s)) :
    SeqStopsK F n Tryd.prog 71 #[.pointer (some ⟨Bs, 0, none⟩)] (fun x : List UInt8 => #[Value.string (mk x)]) (KeepsBox Bs s) (fun ys => ys = pcs (bs s)) (fun pre => pre <+: pcs (bs s)) (s.size + 1) w := fun l J Jx W hW _ _ hY h0 =>
  pieces1_in F n h3f hro hn l Bs s hs J Jx hY W ((hW.block Bs hBs).trans hB) h0
theorem keepsBox_b {w : World} {b : Nat} {s : ByteArray} (hb : b < w.heap.size) (W : World) (l : Nat) (o o' : Obj) (hl : w.heap.size ≤ l) (_ : W.heap[l]? = some o) (_ : o.isCells = false) (_ : o.isWalk = false) : KeepsBox b s W (W.putObj l o') :=
  fun h => h.kept (grownBy_putObj' W l o') (fun e => by cases e; omega)
theorem own_slice {w : World} {base : Nat} {e : TypeId} {v : Value} {n : Nat} {xs : List Value} (h : w.ownsRow base e 1 v n xs) : ∃ ao cap, v = .slice ao n cap := by
  rcases h.2 with ⟨rfl, rfl⟩ | ⟨g, cap, _, rfl, _⟩
  · exact ⟨_, _, rfl⟩
  · exact ⟨_, _, rfl⟩
theorem own_weaken {w : World} {base b2 : Nat} {e : TypeId} {v : Value} {n : Nat} {xs : List Value} (h : w.ownsRow base e 1 v n xs) (hb : b2 ≤ base) : w.ownsRow b2 e 1 v n xs := by
  refine ⟨h.1, ?_⟩
  rcases h.2 with h1 | ⟨g, cap, cur, h1, h2, h3⟩
  · exact .inl h1
  · exact .inr ⟨g, cap, cur, h1, by omega, h3⟩
set_option maxRecDepth 100000 in
set_option maxHeartbeats 2000000 in
theorem components_in (F : Fence) (n : Nat) (h1f : F.fn 42) (h2f : F.fn 58) (h3f : F.fn 71) (hro : F.round = none) (hn : 3 ≤ n) (s : ByteArray) (hs : s.size ≤ 1000000000000) (most : Nat) (w : World) (hm : s.size ≤ most) :
    CallsIn F n Tryd.prog 42 #[.string s, .int .i64 most] w fun e W' => Below w.heap.size w W' ∧
      ((Good (pcs (bs s)) ∧ ∃ v, e = .returned (.tuple #[v, .int .i64 0]) ∧ W'.ownsRow w.heap.size 9 1 v (nodots (pcs (bs s))).length (strsV (nodots (pcs (bs s))))) ∨
       (¬ Good (pcs (bs s)) ∧ e = .returned (.tuple #[.slice none 0 0, .int .i64 130]))) := by
  have h1 : 1 ≤ n := by omega
  obtain ⟨i0, hi, hz0, hz1, hz2⟩ := info_parts strT.info
  refine callsIn_of_wp_marks Tryd.func42 rfl h1f ?_ hro
  simp only [Tryd.ntmps42, List.size_toArray, List.length_cons, List.length_nil, Nat.reduceAdd, Nat.reduceSub, Array.replicate_succ, Array.replicate_zero, List.push_toArray, List.append_toArray, List.nil_append, List.cons_append]
  gi_wp2_with (gi_at_call 58; refine (pieces_in F (n - 1) h2f hro _ _).mono ?_; rintro e w' ⟨rfl, rfl⟩)
  have b4 := (((Boxed.new w 56 (.slice none 0 0)).alloc (.cells #[.int .i64 0] 24)).alloc (.cells #[.slice none 0 0] 56)).alloc (.cells #[.string s] 9)
  have b5 := ((Boxed.new (w.alloc (.cells #[.slice none 0 0] 56)) 24 (.int .i64 0)).alloc (.cells #[.slice none 0 0] 56)).alloc (.cells #[.string s] 9)
  have b6 := (Boxed.new ((w.alloc (.cells #[.slice none 0 0] 56)).alloc (.cells #[.int .i64 0] 24)) 56 (.slice none 0 0)).alloc (.cells #[.string s] 9)
  have b7 := Boxed.new (((w.alloc (.cells #[.slice none 0 0] 56)).alloc (.cells #[.int .i64 0] 24)).alloc (.cells #[.slice none 0 0] 56)) 9 (.string s)
  have hB0 : Below w.heap.size w ((((w.alloc (.cells #[.slice none 0 0] 56)).alloc (.cells #[.int .i64 0] 24)).alloc (.cells #[.slice none 0 0] 56)).alloc (.cells #[.string s] 9)) := ((((Below.refl _ w).alloc (Nat.le_refl _) _).alloc (by simp) _).alloc (by simp; omega) _).alloc (by simp; omega) _
  rw [World.size_alloc] at b5
  rw [World.size_alloc, World.size_alloc] at b6
  rw [World.size_alloc, World.size_alloc, World.size_alloc] at b7
  obtain ⟨w0, hw0⟩ : ∃ w0, ((((w.alloc (.cells #[.slice none 0 0] 56)).alloc (.cells #[.int .i64 0] 24)).alloc (.cells #[.slice none 0 0] 56)).alloc (.cells #[.string s] 9)) = w0 := ⟨_, rfl⟩
  have hsz : w0.heap.size = w.heap.size + 4 := by rw [← hw0]; simp
  rw [hw0] at b4 b5 b6 b7 hB0 ⊢
  clear hw0
  refine wpIn_rangeFunc_ownG hro h1 (gf := 71) (lb := #[.pointer (some ⟨w.heap.size + 1 + 1 + 1, 0, none⟩)]) rfl h3f (enters_of Tryd.func71 (by kernel_rfl) rfl)
    (pieces_stops F (n - 1) h3f hro (by omega) (w.heap.size + 1 + 1 + 1) s hs w0 (by omega) b7) keepsBox_t (keepsBox_b (by omega)) (Below.refl _ _) (fun _ => rfl)
    (fun pre W => (∃ v, Boxed W (w.heap.size + 1 + 1) 56 v ∧ W.ownsRow (w.heap.size + 4) 9 1 v (nodots pre).length (strsV (nodots pre)) ∧ True) ∧ Boxed W w.heap.size 56 (.slice none 0 0) ∧ Boxed W (w.heap.size + 1) 24 (.int .i64 0) ∧ Boxed W (w.heap.size + 1 + 1 + 1) 9 (.string s) ∧ Good pre ∧ Below w.heap.size w W)
    (fun c pre W => c = .ret ∧ Boxed W w.heap.size 56 (.slice none 0 0) ∧ Boxed W (w.heap.size + 1) 24 (.int .i64 130) ∧ ¬ Good pre ∧ Below w.heap.size w W)
    (OwnFrom.and (Own.from (holdsRow_own (w.heap.size + 4) (w.heap.size + 1 + 1) 56 9 1 (fun pre => (nodots pre).length) (fun pre => strsV (nodots pre)) (fun _ _ => True)) _) (OwnFrom.and (Own.from (boxed_own _ _ _) _) (OwnFrom.and (Own.from (boxed_own _ _ _) _) (OwnFrom.and (Own.from (boxed_own _ _ _) _) (OwnFrom.and (ownFrom_pure _ _) (ownFrom_below (Nat.le_refl _) (by omega)))))))
    (fun c => OwnFrom.and (ownFrom_pure _ _) (OwnFrom.and (Own.from (boxed_own _ _ _) _) (OwnFrom.and (Own.from (boxed_own _ _ _) _) (OwnFrom.and (ownFrom_pure _ _) (ownFrom_below (Nat.le_refl _) (by omega))))))
    ⟨⟨_, b6, World.ownsRow_nil _ _ _ _, trivial⟩, b4, b5, b7, ⟨fun p hp => (by cases hp), Nat.zero_le _⟩, hB0⟩
    (fun x => { tmps := #[.string s, .int .i64 most, undef, undef, .pointer (some ⟨w.heap.size, 0, none⟩), .pointer (some ⟨w.heap.size + 1, 0, none⟩), .pointer (some ⟨w.heap.size + 1 + 1, 0, none⟩), .string (mk x), .string s, .int .i64 s.size, .int .i64 most, .bool false, .string s, .func (.func 71) #[] #[.pointer (some ⟨w.heap.size + 1 + 1 + 1, 0, none⟩)], .string (mk x), undef, undef, undef, undef, undef, undef, undef, undef, undef, undef, undef, undef, undef, undef, undef], defers := [] }) ?assign ?body ?done ?stop
  case assign =>
    intro l x W K hK
    gi_wp2
    exact hK
  case body =>
    rintro l pre x W ⟨⟨v, hv, hrow, _⟩, hb4, hb5, hb7, hg, hB⟩ hlt
    have hc := hv.cell
    have hc4 := hb4.cell
    have hc5 := hb5.cell
    have hf4 := hb4.frozen
    have hf5 := hb5.frozen
    have hl4 := hb4.lt
    have hl6 := hv.lt
    obtain ⟨ao, cap, rfl⟩ := own_slice hrow
    have hn32 := hg.2
    have hxs : (mk x).size = x.length := rfl
    by_cases hdot : x = [46]
    · have HM := Lib.hid (nodots_miss pre hdot)
      have HG := Lib.hid (show Good (pre ++ [x]) from ⟨fun p hp => by
        rcases List.mem_append.1 hp with h | h
        · exact hg.1 p h
        · rw [List.mem_singleton.1 h, hdot]; decide, by rw [HM.out]; exact hg.2⟩)
      have hx : ((mk x).toList == [46]) = true := by rw [mk_toList, hdot]; rfl
      clear hdot
      gi_wp2
      exact ⟨KeepsFrom.refl _ _, fun h => h, ⟨_, hv, by rw [HM.out]; exact hrow, trivial⟩, hb4, hb5, hb7, HG, hB⟩
    · have HM := Lib.hid (nodots_hit pre hdot)
      have hx : ((mk x).toList == [46]) = false := by rw [mk_toList, beq_eq_false_iff_ne]; exact hdot
      clear hdot
      by_cases h27 : 27 < x.length
      · have HG := Lib.hid (show ¬ Good (pre ++ [x]) from fun h => by have := h.1 x (by simp); omega)
        gi_wp2
        exact ⟨((KeepsOthers.setCell _ _ _).trans (KeepsOthers.setCell _ _ _)).from _, rfl, (hb4.set _).other (by omega) _, (hb5.other (by omega) _).set _, HG, (hB.setCell (p := ⟨w.heap.size, 0, none⟩) (Nat.le_refl _) _).setCell (p := ⟨w.heap.size + 1, 0, none⟩) (by show w.heap.size ≤ w.heap.size + 1; omega) _⟩
      · by_cases h32 : (nodots pre).length = 32
        · have HG := Lib.hid (show ¬ Good (pre ++ [x]) from fun h => by have := h.2; rw [HM.out, List.length_append, h32] at this; simp at this)
          have h32' : ((nodots pre).length : Int) = 32 := by omega
          gi_wp2
          exact ⟨((KeepsOthers.setCell _ _ _).trans (KeepsOthers.setCell _ _ _)).from _, rfl, (hb4.set _).other (by omega) _, (hb5.other (by omega) _).set _, HG, (hB.setCell (p := ⟨w.heap.size, 0, none⟩) (Nat.le_refl _) _).setCell (p := ⟨w.heap.size + 1, 0, none⟩) (by show w.heap.size ≤ w.heap.size + 1; omega) _⟩
        · have hlt32 : (nodots pre).length < 32 := by omega
          have h32' : (((nodots pre).length : Int) == 32) = false := by rw [beq_eq_false_iff_ne]; omega
          have HG := Lib.hid (show Good (pre ++ [x]) from ⟨fun p hp => by
            rcases List.mem_append.1 hp with h | h
            · exact hg.1 p h
            · rw [List.mem_singleton.1 h]; omega, by rw [HM.out, List.length_append, List.length_singleton]; omega⟩)
          have hWs : w.heap.size + 4 ≤ W.heap.size := by have := hb7.lt; omega
          clear h32
          gi_wp2_with (gi_at_builtin; refine wpListIn_append_own _ rfl _ _ 56 rfl (w.heap.size + 4) 9 i0 (.string (mk [])) 1 16 Tryd.underlying56 hi hz0 hz1 hz2 rfl (by decide) _ _ _ rfl (hrow.alloc _) ⟨W.heap.size, 0, none⟩ 1 1 [.string (mk x)] rfl rfl (cell_one_new _ _ _) (by simp [Value.oneCell']) (by unfold maxLen; omega) (by omega) (by simp; omega) ?_; intro v' w1 hown' hgrow _; obtain ⟨g', cap', rfl⟩ := ownsRow_succ hown'; obtain ⟨hv1, hv2, hr2, hk2, hb2⟩ := hv.appended (n₀ := w.heap.size) (by decide) (own_weaken (b2 := w.heap.size) hrow (by omega)) (by omega) (by omega) (own_weaken (b2 := w.heap.size) hown' (by omega)) hgrow; have hc1 := hv1.cell; have hf1 := hv1.frozen)
          have hne : ∀ b, b < w.heap.size + 4 → (Value.slice ao (nodots pre).length cap).ownBlock ≠ some b := fun b hb e => by have := (hrow.lt b e).1; omega
          have hk : ∀ b t u, b < w.heap.size + 4 → b ≠ w.heap.size + 1 + 1 → Boxed W b t u → Boxed (w1.setCell ⟨w.heap.size + 1 + 1, 0, none⟩ (.slice (some ⟨g', 0, none⟩) ((nodots pre).length + 1) cap')) b t u := fun b t u hb hb2 h => ((h.alloc _).kept hgrow (fun e => hne b hb e.symm)).other hb2 _
          refine ⟨hk2.from _, hk _ _ _ (by omega) (by omega), ⟨_, hv2, ?_, trivial⟩, hk _ _ _ (by omega) (by omega) hb4, hk _ _ _ (by omega) (by omega) hb5, hk _ _ _ (by omega) (by omega) hb7, HG, hB.trans hb2⟩
          rw [HM.out, strsV_app, List.length_append]
          exact hown'.kept (grownBy_setCell' w1 _ _) (.inr (fun e => by have := (hown'.lt _ e).1; omega))
  case done =>
    rintro D ys W hD rfl ⟨⟨v, hv, hrow, _⟩, hb4, hb5, hb7, hg, hB⟩ hK
    have hc := hv.cell
    have hc4 := hb4.cell
    have hc5 := hb5.cell
    have hf4 := hb4.frozen
    have hf5 := hb5.frozen
    have hl4 := hb4.lt
    have hl7 := hb7.lt
    obtain ⟨ao, cap, rfl⟩ := own_slice hrow
    gi_wp2
    have hK' := ((KeepsOthers.setCell W ⟨w.heap.size, 0, none⟩ (.slice ao (nodots (pcs (bs s))).length cap)).trans (KeepsOthers.setCell _ ⟨w.heap.size + 1, 0, none⟩ (.int .i64 0))).same D _ hK rfl
    refine ⟨by simp, .inl ⟨_, _, rfl, run_takeDeferred hK', ?_⟩⟩
    have e4 := cell_kept ((hb4.set (.slice ao (nodots (pcs (bs s))).length cap)).other (B' := w.heap.size + 1) (by omega) (.int .i64 0)).cell (grownBy_putObj' _ D (.deferred none)) (fun r e => by cases e; exact ⟨_, hK', rfl⟩)
    have e5 := cell_kept ((hb5.other (B' := w.heap.size) (by omega) (.slice ao (nodots (pcs (bs s))).length cap)).set (.int .i64 0)).cell (grownBy_putObj' _ D (.deferred none)) (fun r e => by cases e; exact ⟨_, hK', rfl⟩)
    refine ⟨.tuple #[.slice ao (nodots (pcs (bs s))).length cap, .int .i64 0], ?_, ?_, .inl ⟨hg, _, rfl, ?_⟩⟩
    · simp [results, Tryd.f42, go_sem, e4, e5]
    · exact ((hB.setCell (p := ⟨w.heap.size, 0, none⟩) (Nat.le_refl _) _).setCell (p := ⟨w.heap.size + 1, 0, none⟩) (by show w.heap.size ≤ w.heap.size + 1; omega) _).trans (belowK_b (w := w) (Nat.le_refl _) _ D _ _ (by omega) hK' rfl rfl)
    · refine own_weaken (base := w.heap.size + 4) (ownsRow_putObj ((hrow.kept (grownBy_setCell' _ _ _) (.inr fun e => ?_)).kept (grownBy_setCell' _ _ _) (.inr fun e => ?_)) _ hK' rfl) (by omega)
      · have := (hrow.lt _ e).1; omega
      · have := (hrow.lt _ e).1; omega
  case stop =>
    rintro D c pre W hD hpre ⟨rfl, hb4, hb5, hg, hB⟩ hK
    have hc4 := hb4.cell
    have hc5 := hb5.cell
    gi_wp2
    refine ⟨by simp, .inl ⟨_, _, rfl, run_takeDeferred hK, ?_⟩⟩
    have e4 := cell_kept hb4.cell (grownBy_putObj' _ D (.deferred none)) (fun r e => by cases e; exact ⟨_, hK, rfl⟩)
    have e5 := cell_kept hb5.cell (grownBy_putObj' _ D (.deferred none)) (fun r e => by cases e; exact ⟨_, hK, rfl⟩)
    refine ⟨.tuple #[.slice none 0 0, .int .i64 130], ?_, hB.trans (belowK_b (w := w) (Nat.le_refl _) W D _ _ (by omega) hK rfl rfl), .inr ⟨fun h => hg ?_, rfl⟩⟩
    · simp [results, Tryd.f42, go_sem, e4, e5]
    · obtain ⟨r, hr⟩ := hpre
      refine ⟨fun p hp => h.1 p (by rw [← hr]; exact List.mem_append.2 (.inl hp)), Nat.le_trans ?_ h.2⟩
      rw [← hr]
      simp [nodots]
theorem components_any (s : ByteArray) (hs : s.size ≤ 1000000000000) (most : Nat) (w : World) (hm : s.size ≤ most) :
    Calls Tryd.prog 42 #[.string s, .int .i64 most] w fun e W' => Below w.heap.size w W' ∧
      ((Good (pcs (bs s)) ∧ ∃ v, e = .returned (.tuple #[v, .int .i64 0]) ∧ W'.ownsRow w.heap.size 9 1 v (nodots (pcs (bs s))).length (strsV (nodots (pcs (bs s))))) ∨
       (¬ Good (pcs (bs s)) ∧ e = .returned (.tuple #[.slice none 0 0, .int .i64 130]))) :=
  callsIn_wide.1 (components_in Fence.wide 3 trivial trivial trivial rfl (Nat.le_refl _) s hs most w hm)
theorem components_long (s : ByteArray) (most : Nat) (w : World) (hm : most < s.size) :
    Calls Tryd.prog 42 #[.string s, .int .i64 most] w fun e W' => Below w.heap.size w W' ∧ e = .returned (.tuple #[.slice none 0 0, .int .i64 130]) := by
  go_enter Tryd.func42, Tryd.ntmps42
  go_wp2
  have e4 := ((Boxed.new w 56 (.slice none 0 0)).alloc (.cells #[.int .i64 130] 24)).cell
  have e5 := (Boxed.new (w.alloc (.cells #[.slice none 0 0] 56)) 24 (.int .i64 130)).cell
  rw [World.size_alloc] at e5
  refine bodyPost_ret (v := .tuple #[.slice none 0 0, .int .i64 130]) ?_ rfl ⟨((Below.refl _ _).alloc (Nat.le_refl _) _).alloc (by simp) _, rfl⟩
  simp [results, Tryd.f42, go_sem, e4, e5]
theorem index_mem (l : List UInt8) (c : UInt8) : 0 ≤ Lib.indexByte l c ↔ c ∈ l := by
  induction l with
  | nil => simp [Lib.indexByte]
  | cons b l ih =>
    have hge := Lib.indexByte_ge l c
    unfold Lib.indexByte
    by_cases hb : b = c
    · subst hb; simp
    · have h1 : (b == c) = false := by simpa using hb
      rw [h1]
      simp only [Bool.false_eq_true, if_false, List.mem_cons]
      have h2 : ¬ c = b := fun e => hb e.symm
      simp only [h2, false_or]
      rw [← ih]
      split
      · rename_i h3
        have : Lib.indexByte l c = -1 := by simpa using h3
        omega
      · rename_i h3
        have : Lib.indexByte l c ≠ -1 := by simpa using h3
        omega
/-- Is a text wrong ahead of its pieces? -/
def wrongB (l : List UInt8) : Bool := decide (l = [] ∨ 0 ∈ l)
theorem wrong_any (s : ByteArray) (w : World) : Calls Tryd.prog 41 #[.string s, .bool false] w fun e w' => e = .returned (.bool (wrongB (bs s))) ∧ w = w' := by
  have HI := Tryd.strings_IndexByte s 0 w
  have HM := Lib.hid (index_mem (bs s) 0)
  have e0 : (Lib.indexByte s.data.toList (0 : Int).toNat.toUInt8) = Lib.indexByte (bs s) 0 := rfl
  rw [e0] at HI
  clear e0
  generalize Lib.indexByte (bs s) 0 = n at HI HM
  by_cases h0 : bs s = []
  · have h1 : s.toList = [] := by rw [toList_bs]; exact h0
    have HD := Lib.hid (show wrongB (bs s) = true from decide_eq_true (.inl h0))
    clear h0
    go_enter Tryd.func41, Tryd.ntmps41
    go_wp2_with (go_at_call 57; refine HI.mono ?_; rintro e w' ⟨rfl, rfl⟩)
    go_ret
    exact ⟨ret_bool HD.out.symm, rfl⟩
  · have h1 : ¬ s.toList = [] := by rw [toList_bs]; exact h0
    have HD := Lib.hid (show wrongB (bs s) = decide (0 ≤ n) by
      unfold wrongB; rw [Bool.eq_iff_iff, decide_eq_true_iff, decide_eq_true_iff, HM.out]; simp [h0])
    clear h0
    by_cases hn : 0 ≤ n
    · have HE := Lib.hid (HD.out.trans (decide_eq_true hn))
      go_enter Tryd.func41, Tryd.ntmps41
      go_wp2_with (go_at_call 57; refine HI.mono ?_; rintro e w' ⟨rfl, rfl⟩)
      go_ret
      exact ⟨ret_bool HE.out.symm, rfl⟩
    · have HE := Lib.hid (HD.out.trans (decide_eq_false hn))
      go_enter Tryd.func41, Tryd.ntmps41
      go_wp2_with (go_at_call 57; refine HI.mono ?_; rintro e w' ⟨rfl, rfl⟩)
      go_ret
      refine ⟨ret_bool ?_, rfl⟩
      rw [HE.out]
      simp [h1]
      omega
theorem good_iff (l : List UInt8) : Good (pcs l) ↔ (∀ p ∈ cut l, p.length ≤ 27) ∧ (comps l).length ≤ 32 := by
  rw [comps_pcs]
  unfold Good
  refine and_congr ⟨fun h p hp => ?_, fun h p hp => h p (List.mem_filter.1 hp).1⟩ Iff.rfl
  by_cases h0 : p = []
  · rw [h0]; exact Nat.zero_le _
  · exact h p (List.mem_filter.2 ⟨hp, by simpa using h0⟩)
/-- Text's answer. -/
theorem textOf_any (s : ByteArray) (w : World) (hs : s.size ≤ 1000000000000) :
    Calls Tryd.prog 32 #[.string s] w fun e W' => Below w.heap.size w W' ∧
      ((text (bs s) = true ∧ ∃ v, e = .returned (.tuple #[v, .bool (decide ((bs s).head? = some 47)), .int .i64 0]) ∧ W'.ownsRow w.heap.size 9 1 v (comps (bs s)).length (strsV (comps (bs s)))) ∨
       (text (bs s) = false ∧ ∃ n : Int, n ≠ 0 ∧ e = .returned (.tuple #[.slice none 0 0, .bool false, .int .i64 n]))) := by
  have HW := wrong_any s w
  have HT := Lib.hid (show text (bs s) = decide (bs s ≠ [] ∧ (bs s).length ≤ 1024 ∧ (∀ c ∈ bs s, c ≠ 0) ∧ (∀ p ∈ cut (bs s), p.length ≤ 27) ∧ (comps (bs s)).length ≤ 32) from rfl)
  cases hw : wrongB (bs s) with
  | true =>
    have HF := Lib.hid (show text (bs s) = false by
      rw [HT.out, decide_eq_false]
      rintro ⟨h1, _, h3, _⟩
      rcases of_decide_eq_true hw with h | h
      · exact h1 h
      · exact h3 0 h rfl)
    rw [hw] at HW
    clear hw HT
    go_enter Tryd.func32, Tryd.ntmps32
    go_wp2_with (go_at_call 41; refine HW.mono ?_; rintro e w' ⟨rfl, rfl⟩)
    go_ret3
    exact ⟨Below.refl _ _, .inr ⟨HF.out, 1, by decide, rfl⟩⟩
  | false =>
    rw [hw] at HW
    have hw2 := of_decide_eq_false hw
    have hne : bs s ≠ [] := fun h => hw2 (.inl h)
    have hn0 : ∀ c ∈ bs s, c ≠ 0 := fun c hc h => hw2 (.inr (h ▸ hc))
    clear hw hw2
    by_cases hl : 1024 < s.size
    · have HF := Lib.hid (show text (bs s) = false by
        rw [HT.out, decide_eq_false]
        rintro ⟨_, h2, _⟩
        rw [bs_len] at h2
        omega)
      have HC := components_long s 1024 w hl
      clear hne hn0 HT
      go_enter Tryd.func32, Tryd.ntmps32
      go_wp2_with (first | (go_at_call 41; refine HW.mono ?_; rintro e w' ⟨rfl, rfl⟩) | (go_at_call 42; refine HC.mono ?_; rintro e w1 ⟨hb1, rfl⟩))
      go_ret3
      exact ⟨hb1, .inr ⟨HF.out, 130, by decide, rfl⟩⟩
    · have HC := components_any s hs 1024 w (by omega)
      by_cases hg : Good (pcs (bs s))
      · have HF := Lib.hid (show text (bs s) = true by
          rw [HT.out, decide_eq_true]
          have := (good_iff (bs s)).1 hg
          exact ⟨hne, by rw [bs_len]; omega, hn0, this.1, this.2⟩)
        have HC2 : Calls Tryd.prog 42 #[.string s, .int .i64 1024] w fun e W' => Below w.heap.size w W' ∧ ∃ ao cap, e = .returned (.tuple #[.slice ao (comps (bs s)).length cap, .int .i64 0]) ∧ W'.ownsRow w.heap.size 9 1 (.slice ao (comps (bs s)).length cap) (comps (bs s)).length (strsV (comps (bs s))) := HC.mono fun e W' ⟨hb, h⟩ => by
          rcases h with ⟨_, v, he, hr⟩ | ⟨h, _⟩
          · rw [← comps_pcs] at hr
            obtain ⟨ao, cap, rfl⟩ := own_slice hr
            exact ⟨hb, ao, cap, he, hr⟩
          · exact absurd hg h
        have h0 : 0 < s.size := by rw [← bs_len]; exact List.length_pos_iff.2 hne
        have HH := Lib.hid (show decide ((bs s).head? = some 47) = (((s[0]'h0).toNat : Int) == 47) by
          have e : (bs s).head? = some s[0] := by rw [List.head?_eq_getElem?]; exact bs_get s 0 h0
          rw [e, Bool.eq_iff_iff, decide_eq_true_iff, beq_iff_eq]
          constructor
          · intro h; rw [Option.some.inj h]; rfl
          · intro h; congr 1; exact u8_47 (by omega))
        clear hne hn0 HT HC hg
        generalize comps (bs s) = C at HC2 ⊢
        go_enter Tryd.func32, Tryd.ntmps32
        go_wp2_with (first | (go_at_call 41; refine HW.mono ?_; rintro e w' ⟨rfl, rfl⟩) | (go_at_call 42; refine HC2.mono ?_; rintro e w1 ⟨hb1, ao, cap, rfl, ho1⟩))
        go_quiet (fail)
        go_wp2
        go_ret3
        exact ⟨below_drewN hb1 nq, .inl ⟨HF.out, _, (by rw [HH.out]; rfl), own_drewN ho1 nq⟩⟩
      · have HF := Lib.hid (show text (bs s) = false by
          rw [HT.out, decide_eq_false]
          rintro ⟨_, _, _, h4, h5⟩
          exact hg ((good_iff (bs s)).2 ⟨h4, h5⟩))
        have HC2 : Calls Tryd.prog 42 #[.string s, .int .i64 1024] w fun e W' => Below w.heap.size w W' ∧ e = .returned (.tuple #[.slice none 0 0, .int .i64 130]) := HC.mono fun e W' ⟨hb, h⟩ => by
          rcases h with ⟨h, _⟩ | ⟨_, he⟩
          · exact absurd h hg
          · exact ⟨hb, he⟩
        clear hne hn0 HT HC hg
        go_enter Tryd.func32, Tryd.ntmps32
        go_wp2_with (first | (go_at_call 41; refine HW.mono ?_; rintro e w' ⟨rfl, rfl⟩) | (go_at_call 42; refine HC2.mono ?_; rintro e w1 ⟨hb1, rfl⟩))
        go_ret3
        exact ⟨hb1, .inr ⟨HF.out, 130, by decide, rfl⟩⟩
set_option maxHeartbeats 1000000 in
theorem isLink_any (x : PItem) (sl : Value) (w : World) (hx : Sane x) (hp : IntsAt w sl x.pieces) : Calls Tryd.prog 23 #[itemV x sl] w fun e w' => e = .returned (.bool (link x)) ∧ Below w.heap.size w w' := by
  obtain ⟨ao, cap, rfl, _⟩ := hp
  have hm := hx.many
  have hxd := hx.data
  have HE := Lib.hid (show link x = (text x.data && decide (x.size = x.data.length) && x.pieces.isEmpty) from rfl)
  have hms : (mk x.data).size = x.data.length := rfl
  have HT := textOf_any (mk x.data) (w.alloc (.cells #[.string (mk x.path), .int .i64 x.kind, .int .i64 x.size, .string (mk x.data), .slice ao x.pieces.length cap, .int .i64 x.same] 29)) (by rw [hms]; omega)
  rw [bs_mk] at HT
  unfold itemV
  cases ht : text x.data with
  | true =>
    have HT2 : Calls Tryd.prog 32 #[.string (mk x.data)] (w.alloc (.cells #[.string (mk x.path), .int .i64 x.kind, .int .i64 x.size, .string (mk x.data), .slice ao x.pieces.length cap, .int .i64 x.same] 29)) fun e W' => Below (w.alloc (.cells #[.string (mk x.path), .int .i64 x.kind, .int .i64 x.size, .string (mk x.data), .slice ao x.pieces.length cap, .int .i64 x.same] 29)).heap.size (w.alloc (.cells #[.string (mk x.path), .int .i64 x.kind, .int .i64 x.size, .string (mk x.data), .slice ao x.pieces.length cap, .int .i64 x.same] 29)) W' ∧ ∃ v b, e = .returned (.tuple #[v, .bool b, .int .i64 0]) := HT.mono fun e W' ⟨hb, h⟩ => by
      rcases h with ⟨_, v, he, _⟩ | ⟨h, _⟩
      · exact ⟨hb, v, _, he⟩
      · rw [ht] at h; cases h
    rw [ht] at HE
    clear HT ht
    go_enter Tryd.func23, Tryd.ntmps23
    go_wp2_with (go_at_call 32; refine HT2.mono ?_; rintro e w1 ⟨hb1, tv, tb, rfl⟩; have hB1 := (BoxAt.new w x (.slice ao x.pieces.length cap) 29).below hb1 (by simp); have c2 := hB1 2 _ rfl; have c3 := hB1 3 _ rfl; have c4 := hB1 4 _ rfl)
    all_goals
      go_ret
      refine ⟨ret_bool ?_, ((Below.refl _ _).alloc (Nat.le_refl _) _).trans (hb1.mono (by simp))⟩
      rw [HE.out]
      simp_all
    all_goals (cases x.pieces <;> simp <;> omega)
  | false =>
    have HT2 : Calls Tryd.prog 32 #[.string (mk x.data)] (w.alloc (.cells #[.string (mk x.path), .int .i64 x.kind, .int .i64 x.size, .string (mk x.data), .slice ao x.pieces.length cap, .int .i64 x.same] 29)) fun e W' => Below (w.alloc (.cells #[.string (mk x.path), .int .i64 x.kind, .int .i64 x.size, .string (mk x.data), .slice ao x.pieces.length cap, .int .i64 x.same] 29)).heap.size (w.alloc (.cells #[.string (mk x.path), .int .i64 x.kind, .int .i64 x.size, .string (mk x.data), .slice ao x.pieces.length cap, .int .i64 x.same] 29)) W' ∧ ∃ n : Int, (n == 0) = false ∧ e = .returned (.tuple #[.slice none 0 0, .bool false, .int .i64 n]) := HT.mono fun e W' ⟨hb, h⟩ => by
      rcases h with ⟨h, _⟩ | ⟨_, n, hn, he⟩
      · rw [ht] at h; cases h
      · exact ⟨hb, n, by simpa using hn, he⟩
    rw [ht] at HE
    clear HT ht
    go_enter Tryd.func23, Tryd.ntmps23
    go_wp2_with (go_at_call 32; refine HT2.mono ?_; rintro e w1 ⟨hb1, en, hen, rfl⟩)
    go_ret
    refine ⟨ret_bool ?_, ((Below.refl _ _).alloc (Nat.le_refl _) _).trans (hb1.mono (by simp))⟩
    rw [HE.out]
    simp [*]
end Pw
end Go.Proofs.YtnmgdlmicgbapaaDoor
