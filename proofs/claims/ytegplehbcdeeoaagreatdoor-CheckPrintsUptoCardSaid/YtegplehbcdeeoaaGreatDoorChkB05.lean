/- The walks of package path: pieces, does, wrong, components, Parse, Text, Make. -/
import Derived.RangeFuncNested
import Derived.RangeFuncBound
import Derived.RangeFuncCalls
import Derived.RangeFuncLeaves
import Derived.RangeFuncBox
import Derived.Shelf.Abstract
import Derived.Shelf.RegionOpen
import Derived.WalkKit
import Derived.OwnWalkIn
import Derived.TacticsInMore
import Derived.LoopNIn
import Derived.LoopIn
import Derived.Maps.AppendAt
import Derived.Maps.OwnSet
import Derived.Lib.TrimByte
import Derived.BigQuiet
import Derived.Deep.QuietTactic
import Derived.Test.YtegplehbcdeeoaaGreatDoorChkB03
import Derived.Test.YtegplehbcdeeoaaGreatDoorChkB04
namespace Go.Proofs.YtegplehbcdeeoaaGreatDoor
open Go.RowKit Go.Shelf

attribute [local go_sem] Oper.semAt_some
namespace Pw
open Pk
theorem mk_toList (l : List UInt8) : (mk l).toList = l := toList_bs (mk l)
theorem mk_cut (l : List UInt8) (a b : Nat) : (mk l).extract a b = mk ((l.drop a).take (b - a)) := Lib.extract_mk l a b
theorem u8_47 {c : UInt8} (h : c.toNat = 47) : c = 47 := UInt8.toNat.inj (by rw [h]; rfl)
theorem u8_47' {c : UInt8} (h : ¬ c.toNat = 47) : c ≠ 47 := fun e => h (by rw [e]; rfl)
/-- What a round must keep: the text's box. -/
def KeepsBox (b : Nat) (s : ByteArray) (W W' : World) : Prop := Boxed W b 9 (.string s) → Boxed W' b 9 (.string s)
theorem keepsBox_t {b : Nat} {s : ByteArray} {A B C : World} (h : KeepsBox b s A B) (k : KeepsBox b s B C) : KeepsBox b s A C := fun x => k (h x)
set_option maxRecDepth 100000 in
set_option maxHeartbeats 2000000 in
theorem pieces1_in (F : Fence) (n : Nat) (hf : F.fn 168) (hro : F.round = none) (hn : 1 ≤ n) (l Bs : Nat) (s : ByteArray) (hs : s.size ≤ 140737488355328) (J Jx : List (List UInt8) → World → Prop)
    (hY : ∀ pre x W, J pre W → pre.length < s.size + 1 → YieldAt F (n - 1) Tryz.prog l #[.string (mk x)] W fun e W' =>
      (e = .returned (.bool true) ∧ J (pre ++ [x]) W' ∧ KeepsBox Bs s W W') ∨ (e = .returned (.bool false) ∧ Jx (pre ++ [x]) W'))
    (W : World) (hB : Boxed W Bs 9 (.string s)) (h0 : J [] W) :
    CallsIn F n Tryz.prog 168 #[.func (.yield l) #[] #[], .pointer (some ⟨Bs, 0, none⟩)] W fun e W' => (∃ v, e = .returned v) ∧
      ((∃ ys, ys = pcs (bs s) ∧ J ys W') ∨ (∃ pre, pre <+: pcs (bs s) ∧ Jx pre W')) := by
  have hpc := pcs_count (bs s)
  rw [bs_len] at hpc
  refine callsIn_of_wp Tryz.func168 rfl hf ?_ hro
  simp only [Tryz.ntmps168, List.size_toArray, List.length_cons, List.length_nil, Nat.reduceAdd, Nat.reduceSub, Array.replicate_succ, Array.replicate_zero, List.push_toArray, List.append_toArray, List.nil_append, List.cons_append]
  gi_wp2
  gi_loopw [3] (fun a wr => ∃ (k : Nat) (pre : List (List UInt8)), k ≤ s.size ∧ a = .int .i64 k ∧ Hid (pcs (bs s) = pre ++ pcs ((bs s).drop k)) ∧ J pre wr ∧ Boxed wr Bs 9 (.string s))
    (fun a _ => s.size - (intOf a).toNat)
  case atStart => exact ⟨0, [], Nat.zero_le _, rfl, rfl, h0, hB⟩
  case round =>
    obtain ⟨k, pre, hk, rfl, hR, hJ, hBx⟩ := hrel
    have hbc := hBx.cell
    by_cases hlt : k < s.size
    · have hget := bs_get s k hlt
      by_cases h47 : s[k].toNat = 47
      · have h1 : ((s[k].toNat : Int) == 47) = true := by simp [h47]
        have HP := Lib.hid (pcs_at_slash (bs s) k (by rw [hget, u8_47 h47]))
        clear h47 hget
        gi_wp2
        go_roundw
        case rel => exact ⟨k + 1, pre, by omega, by go_num, by have := hR.out; rw [HP.out] at this; exact this, hJ, hBx⟩
        case measure => simp [intOf]; omega
      · have h1 : ((s[k].toNat : Int) == 47) = false := by simp; omega
        have H47 := Lib.hid (u8_47' h47)
        clear hget
        gi_wp2
        gi_loopw [4] (fun e wr' => ∃ j : Nat, k ≤ j ∧ j ≤ s.size ∧ e = .int .i64 j ∧ Hid (∀ i, k ≤ i → i < j → (bs s)[i]? ≠ some 47) ∧ wr' = wr) (fun e _ => s.size - (intOf e).toNat)
        case atStart => exact ⟨k, Nat.le_refl _, hk, rfl, fun i h1 h2 => by omega, rfl⟩
        case round =>
          obtain ⟨j, hkj, hjs, rfl, hN, rfl⟩ := hrel
          by_cases hjl : j < s.size
          · have hgj := bs_get s j hjl
            by_cases hj47 : s[j].toNat = 47
            · have h2 : ((s[j].toNat : Int) != 47) = false := by simp [hj47]
              have hlt2 : k < j := by
                rcases Nat.lt_or_ge k j with h | h
                · exact h
                · exfalso
                  obtain rfl : j = k := by omega
                  exact h47 hj47
              have HP := Lib.hid (pcs_piece (bs s) k j hlt2 (by rw [bs_len]; omega) hN.out (.inr (by rw [hgj, u8_47 hj47])))
              clear hj47 hgj h47 hN
              have hpl : pre.length < s.size + 1 := by
                have h3 := congrArg List.length hR.out
                rw [HP.out, List.length_append, List.length_cons] at h3
                omega
              have hex : s.extract k j = mk (((bs s).drop k).take (j - k)) := mk_cut (bs s) k j
              obtain ⟨X, hX⟩ : ∃ X, X = ((bs s).drop k).take (j - k) := ⟨_, rfl⟩
              rw [← hX] at hex HP
              have hkb : (bs s).length = s.size := bs_len s
              obtain ⟨fn, tmps, assign, body, hy, hRd⟩ := hY pre X wr hJ hpl
              clear hkb hX hpl
              gi_wp2
              refine hRd.mono ?_
              rintro e W3 (⟨rfl, hJ3, hk3⟩ | ⟨rfl, hJx3⟩)
              · have hB3 := hk3 hBx
                have hbc3 := hB3.cell
                gi_wp2
                go_roundw
                case rel => exact ⟨j, pre ++ [X], by omega, rfl, by have := hR.out; rw [HP.out] at this; rw [this]; exact List.append_cons _ _ _, hJ3, hB3⟩
                case measure => simp [intOf]; omega
              · gi_wp2
                refine bodyPost_ret (results_none rfl _ _ _) rfl ?_
                exact ⟨⟨_, rfl⟩, .inr ⟨pre ++ [X], ⟨_, by have := hR.out; rw [HP.out] at this; rw [this]; exact (List.append_cons _ _ _).symm⟩, hJx3⟩⟩
            · have h2 : ((s[j].toNat : Int) != 47) = true := by simp; omega
              have HN := Lib.hid (show ∀ i, k ≤ i → i < j + 1 → (bs s)[i]? ≠ some 47 from fun i hi1 hi2 => by
                rcases Nat.lt_or_ge i j with h | h
                · exact hN.out i hi1 h
                · obtain rfl : i = j := by omega
                  rw [hgj]; exact fun e => u8_47' hj47 (Option.some.inj e))
              clear hj47 hgj h47 hN
              gi_wp2
              go_roundw
              case rel => exact ⟨j + 1, by omega, by omega, by go_num, HN, by first | rfl | trivial⟩
              case measure => simp [intOf]; omega
          · obtain rfl : j = s.size := by omega
            have HP := Lib.hid (pcs_piece (bs s) k s.size hlt (by rw [bs_len]; exact Nat.le_refl _) hN.out (.inl (bs_len s).symm))
            clear hN h47
            have hpl : pre.length < s.size + 1 := by
              have h3 := congrArg List.length hR.out
              rw [HP.out, List.length_append, List.length_cons] at h3
              omega
            have hex : s.extract k s.size = mk (((bs s).drop k).take (s.size - k)) := mk_cut (bs s) k s.size
            obtain ⟨X, hX⟩ : ∃ X, X = ((bs s).drop k).take (s.size - k) := ⟨_, rfl⟩
            rw [← hX] at hex HP
            have hkb : (bs s).length = s.size := bs_len s
            obtain ⟨fn, tmps, assign, body, hy, hRd⟩ := hY pre X wr hJ hpl
            clear hkb hX hpl
            gi_wp2
            refine hRd.mono ?_
            rintro e W3 (⟨rfl, hJ3, hk3⟩ | ⟨rfl, hJx3⟩)
            · have hB3 := hk3 hBx
              have hbc3 := hB3.cell
              gi_wp2
              go_roundw
              case rel => exact ⟨s.size, pre ++ [X], by omega, rfl, by have := hR.out; rw [HP.out] at this; rw [this]; exact List.append_cons _ _ _, hJ3, hB3⟩
              case measure => simp [intOf]; omega
            · gi_wp2
              refine bodyPost_ret (results_none rfl _ _ _) rfl ?_
              exact ⟨⟨_, rfl⟩, .inr ⟨pre ++ [X], ⟨_, by have := hR.out; rw [HP.out] at this; rw [this]; exact (List.append_cons _ _ _).symm⟩, hJx3⟩⟩
    · have HP := Lib.hid (show pcs ((bs s).drop k) = [] by rw [List.drop_eq_nil_of_le (by rw [bs_len]; omega)]; rfl)
      gi_wp2
      go_end0
      exact ⟨⟨_, rfl⟩, .inl ⟨pre, by have := hR.out; rw [HP.out, List.append_nil] at this; exact this.symm, hJ⟩⟩
/-- The pieces that aren't a dot. -/
def nodots (l : List (List UInt8)) : List (List UInt8) := l.filter fun p => decide (p ≠ [46])
theorem nodots_hit (l : List (List UInt8)) {x : List UInt8} (h : x ≠ [46]) : nodots (l ++ [x]) = nodots l ++ [x] := by simp [nodots, h]
theorem nodots_miss (l : List (List UInt8)) {x : List UInt8} (h : x = [46]) : nodots (l ++ [x]) = nodots l := by simp [nodots, h]
theorem comps_pcs (l : List UInt8) : comps l = nodots (pcs l) := by
  unfold comps nodots pcs
  rw [List.filter_filter]
  congr 1
  funext p
  unfold isC
  by_cases h1 : p = [] <;> by_cases h2 : p = [46] <;> simp [h1, h2]
/-- Pieces that may be. -/
def Good (pre : List (List UInt8)) : Prop := (∀ p ∈ pre, p.length ≤ 27) ∧ (nodots pre).length ≤ 32
theorem strT : CellT Tryz.prog 112 9 (.string (mk [])) 16 := ⟨Tryz.underlying112, by kernel_rfl, rfl⟩
theorem pieces_in (F : Fence) (n : Nat) (h2f : F.fn 145) (hro : F.round = none) (s : ByteArray) (w : World) :
    CallsIn F n Tryz.prog 145 #[.string s] w fun e w' => e = .returned (.func (.func 168) #[] #[.pointer (some ⟨w.heap.size, 0, none⟩)]) ∧ w' = w.alloc (.cells #[.string s] 9) := by
  refine callsIn_of_wp Tryz.func145 rfl h2f ?_ hro
  simp only [Tryz.ntmps145, List.size_toArray, List.length_cons, List.length_nil, Nat.reduceAdd, Nat.reduceSub, Array.replicate_succ, Array.replicate_zero, List.push_toArray, List.append_toArray, List.nil_append, List.cons_append]
  gi_wp2
  go_ret
  exact ⟨rfl, rfl⟩
theorem pieces_stops (F : Fence) (n : Nat) (h3f : F.fn 168) (hro : F.round = none) (hn : 1 ≤ n) (Bs : Nat) (s : ByteArray) (hs : s.size ≤ 140737488355328) (w : World) (hBs : Bs < w.heap.size) (hB : Boxed w Bs 9 (.string s)) :
    SeqStopsK F n Tryz.prog 168 #[.pointer (some ⟨Bs, 0, none⟩)] (fun x : List UInt8 => #[Value.string (mk x)]) (KeepsBox Bs s) (fun ys => ys = pcs (bs s)) (fun pre => pre <+: pcs (bs s)) (s.size + 1) w := fun l J Jx W hW _ _ hY h0 =>
  pieces1_in F n h3f hro hn l Bs s hs J Jx hY W ((hW.block Bs hBs).trans hB) h0
theorem keepsBox_b {w : World} {b : Nat} {s : ByteArray} (hb : b < w.heap.size) (W : World) (l : Nat) (o o' : Obj) (hl : w.heap.size ≤ l) (_ : W.heap[l]? = some o) (_ : o.isCells = false) (_ : o.isWalk = false) : KeepsBox b s W (W.putObj l o') :=
  fun h => h.kept (grownBy_putObj' W l o') (fun e => by cases e; omega)
theorem own_slice {w : World} {base : Nat} {e : TypeId} {v : Value} {n : Nat} {xs : List Value} (h : w.ownsRow base e 1 v n xs) : ∃ ao cap, v = .slice ao n cap := by
  rcases h.2 with ⟨rfl, rfl⟩ | ⟨g, cap, _, rfl, _⟩
  · exact ⟨_, _, rfl⟩
  · exact ⟨_, _, rfl⟩
theorem own_weaken {w : World} {base b2 : Nat} {e : TypeId} {v : Value} {n : Nat} {xs : List Value} (h : w.ownsRow base e 1 v n xs) (hb : b2 ≤ base) : w.ownsRow b2 e 1 v n xs := by
  refine ⟨h.1, ?_⟩
  rcases h.2 with h1 | ⟨g, cap, cur, h1, h2, h3⟩
  · exact .inl h1
  · exact .inr ⟨g, cap, cur, h1, by omega, h3⟩
set_option maxRecDepth 100000 in
set_option maxHeartbeats 2000000 in
theorem components_in (F : Fence) (n : Nat) (h1f : F.fn 112) (h2f : F.fn 145) (h3f : F.fn 168) (hro : F.round = none) (hn : 3 ≤ n) (s : ByteArray) (hs : s.size ≤ 140737488355328) (most : Nat) (w : World) (hm : s.size ≤ most) :
    CallsIn F n Tryz.prog 112 #[.string s, .int .i64 most] w fun e W' => Below w.heap.size w W' ∧
      ((Good (pcs (bs s)) ∧ ∃ v, e = .returned (.tuple #[v, .int .i64 0]) ∧ W'.ownsRow w.heap.size 9 1 v (nodots (pcs (bs s))).length (strsV (nodots (pcs (bs s))))) ∨
       (¬ Good (pcs (bs s)) ∧ e = .returned (.tuple #[.slice none 0 0, .int .i64 130]))) := by
  have h1 : 1 ≤ n := by omega
  obtain ⟨i0, hi, hz0, hz1, hz2⟩ := info_parts strT.info
  refine callsIn_of_wp_marks Tryz.func112 rfl h1f ?_ hro
  simp only [Tryz.ntmps112, List.size_toArray, List.length_cons, List.length_nil, Nat.reduceAdd, Nat.reduceSub, Array.replicate_succ, Array.replicate_zero, List.push_toArray, List.append_toArray, List.nil_append, List.cons_append]
  gi_wp2_with (gi_at_call 145; refine (pieces_in F (n - 1) h2f hro _ _).mono ?_; rintro e w' ⟨rfl, rfl⟩)
  have b4 := (((Boxed.new w 112 (.slice none 0 0)).alloc (.cells #[.int .i64 0] 41)).alloc (.cells #[.slice none 0 0] 112)).alloc (.cells #[.string s] 9)
  have b5 := ((Boxed.new (w.alloc (.cells #[.slice none 0 0] 112)) 41 (.int .i64 0)).alloc (.cells #[.slice none 0 0] 112)).alloc (.cells #[.string s] 9)
  have b6 := (Boxed.new ((w.alloc (.cells #[.slice none 0 0] 112)).alloc (.cells #[.int .i64 0] 41)) 112 (.slice none 0 0)).alloc (.cells #[.string s] 9)
  have b7 := Boxed.new (((w.alloc (.cells #[.slice none 0 0] 112)).alloc (.cells #[.int .i64 0] 41)).alloc (.cells #[.slice none 0 0] 112)) 9 (.string s)
  have hB0 : Below w.heap.size w ((((w.alloc (.cells #[.slice none 0 0] 112)).alloc (.cells #[.int .i64 0] 41)).alloc (.cells #[.slice none 0 0] 112)).alloc (.cells #[.string s] 9)) := ((((Below.refl _ w).alloc (Nat.le_refl _) _).alloc (by simp) _).alloc (by simp; omega) _).alloc (by simp; omega) _
  rw [World.size_alloc] at b5
  rw [World.size_alloc, World.size_alloc] at b6
  rw [World.size_alloc, World.size_alloc, World.size_alloc] at b7
  obtain ⟨w0, hw0⟩ : ∃ w0, ((((w.alloc (.cells #[.slice none 0 0] 112)).alloc (.cells #[.int .i64 0] 41)).alloc (.cells #[.slice none 0 0] 112)).alloc (.cells #[.string s] 9)) = w0 := ⟨_, rfl⟩
  have hsz : w0.heap.size = w.heap.size + 4 := by rw [← hw0]; simp
  rw [hw0] at b4 b5 b6 b7 hB0 ⊢
  clear hw0
  refine wpIn_rangeFunc_ownG hro h1 (gf := 168) (lb := #[.pointer (some ⟨w.heap.size + 1 + 1 + 1, 0, none⟩)]) rfl h3f (enters_of Tryz.func168 (by kernel_rfl) rfl)
    (pieces_stops F (n - 1) h3f hro (by omega) (w.heap.size + 1 + 1 + 1) s hs w0 (by omega) b7) keepsBox_t (keepsBox_b (by omega)) (Below.refl _ _) (fun _ => rfl)
    (fun pre W => (∃ v, Boxed W (w.heap.size + 1 + 1) 112 v ∧ W.ownsRow (w.heap.size + 4) 9 1 v (nodots pre).length (strsV (nodots pre)) ∧ True) ∧ Boxed W w.heap.size 112 (.slice none 0 0) ∧ Boxed W (w.heap.size + 1) 41 (.int .i64 0) ∧ Boxed W (w.heap.size + 1 + 1 + 1) 9 (.string s) ∧ Good pre ∧ Below w.heap.size w W)
    (fun c pre W => c = .ret ∧ Boxed W w.heap.size 112 (.slice none 0 0) ∧ Boxed W (w.heap.size + 1) 41 (.int .i64 130) ∧ ¬ Good pre ∧ Below w.heap.size w W)
    (OwnFrom.and (Own.from (holdsRow_own (w.heap.size + 4) (w.heap.size + 1 + 1) 112 9 1 (fun pre => (nodots pre).length) (fun pre => strsV (nodots pre)) (fun _ _ => True)) _) (OwnFrom.and (Own.from (boxed_own _ _ _) _) (OwnFrom.and (Own.from (boxed_own _ _ _) _) (OwnFrom.and (Own.from (boxed_own _ _ _) _) (OwnFrom.and (ownFrom_pure _ _) (ownFrom_below (Nat.le_refl _) (by omega)))))))
    (fun c => OwnFrom.and (ownFrom_pure _ _) (OwnFrom.and (Own.from (boxed_own _ _ _) _) (OwnFrom.and (Own.from (boxed_own _ _ _) _) (OwnFrom.and (ownFrom_pure _ _) (ownFrom_below (Nat.le_refl _) (by omega))))))
    ⟨⟨_, b6, World.ownsRow_nil _ _ _ _, trivial⟩, b4, b5, b7, ⟨fun p hp => (by cases hp), Nat.zero_le _⟩, hB0⟩
    (fun x => { tmps := #[.string s, .int .i64 most, undef, undef, .pointer (some ⟨w.heap.size, 0, none⟩), .pointer (some ⟨w.heap.size + 1, 0, none⟩), .pointer (some ⟨w.heap.size + 1 + 1, 0, none⟩), .string (mk x), .string s, .int .i64 s.size, .int .i64 most, .bool false, .string s, .func (.func 168) #[] #[.pointer (some ⟨w.heap.size + 1 + 1 + 1, 0, none⟩)], .string (mk x), undef, undef, undef, undef, undef, undef, undef, undef, undef, undef, undef, undef, undef, undef, undef], defers := [] }) ?assign ?body ?done ?stop
  case assign =>
    intro l x W K hK
    gi_wp2
    exact hK
  case body =>
    rintro l pre x W ⟨⟨v, hv, hrow, _⟩, hb4, hb5, hb7, hg, hB⟩ hlt
    have hc := hv.cell
    have hc4 := hb4.cell
    have hc5 := hb5.cell
    have hf4 := hb4.frozen
    have hf5 := hb5.frozen
    have hl4 := hb4.lt
    have hl6 := hv.lt
    obtain ⟨ao, cap, rfl⟩ := own_slice hrow
    have hn32 := hg.2
    have hxs : (mk x).size = x.length := rfl
    by_cases hdot : x = [46]
    · have HM := Lib.hid (nodots_miss pre hdot)
      have HG := Lib.hid (show Good (pre ++ [x]) from ⟨fun p hp => by
        rcases List.mem_append.1 hp with h | h
        · exact hg.1 p h
        · rw [List.mem_singleton.1 h, hdot]; decide, by rw [HM.out]; exact hg.2⟩)
      have hx : ((mk x).toList == [46]) = true := by rw [mk_toList, hdot]; rfl
      clear hdot
      gi_wp2
      exact ⟨KeepsFrom.refl _ _, fun h => h, ⟨_, hv, by rw [HM.out]; exact hrow, trivial⟩, hb4, hb5, hb7, HG, hB⟩
    · have HM := Lib.hid (nodots_hit pre hdot)
      have hx : ((mk x).toList == [46]) = false := by rw [mk_toList, beq_eq_false_iff_ne]; exact hdot
      clear hdot
      by_cases h27 : 27 < x.length
      · have HG := Lib.hid (show ¬ Good (pre ++ [x]) from fun h => by have := h.1 x (by simp); omega)
        gi_wp2
        exact ⟨((KeepsOthers.setCell _ _ _).trans (KeepsOthers.setCell _ _ _)).from _, rfl, (hb4.set _).other (by omega) _, (hb5.other (by omega) _).set _, HG, (hB.setCell (p := ⟨w.heap.size, 0, none⟩) (Nat.le_refl _) _).setCell (p := ⟨w.heap.size + 1, 0, none⟩) (by show w.heap.size ≤ w.heap.size + 1; omega) _⟩
      · by_cases h32 : (nodots pre).length = 32
        · have HG := Lib.hid (show ¬ Good (pre ++ [x]) from fun h => by have := h.2; rw [HM.out, List.length_append, h32] at this; simp at this)
          have h32' : ((nodots pre).length : Int) = 32 := by omega
          gi_wp2
          exact ⟨((KeepsOthers.setCell _ _ _).trans (KeepsOthers.setCell _ _ _)).from _, rfl, (hb4.set _).other (by omega) _, (hb5.other (by omega) _).set _, HG, (hB.setCell (p := ⟨w.heap.size, 0, none⟩) (Nat.le_refl _) _).setCell (p := ⟨w.heap.size + 1, 0, none⟩) (by show w.heap.size ≤ w.heap.size + 1; omega) _⟩
        · have hlt32 : (nodots pre).length < 32 := by omega
          have h32' : (((nodots pre).length : Int) == 32) = false := by rw [beq_eq_false_iff_ne]; omega
          have HG := Lib.hid (show Good (pre ++ [x]) from ⟨fun p hp => by
            rcases List.mem_append.1 hp with h | h
            · exact hg.1 p h
            · rw [List.mem_singleton.1 h]; omega, by rw [HM.out, List.length_append, List.length_singleton]; omega⟩)
          have hWs : w.heap.size + 4 ≤ W.heap.size := by have := hb7.lt; omega
          clear h32
          gi_wp2_with (gi_at_builtin; refine wpListIn_append_own _ rfl _ _ 112 rfl (w.heap.size + 4) 9 i0 (.string (mk [])) 1 16 Tryz.underlying112 hi hz0 hz1 hz2 rfl (by decide) _ _ _ rfl (hrow.alloc _) ⟨W.heap.size, 0, none⟩ 1 1 [.string (mk x)] rfl rfl (cell_one_new _ _ _) (by simp [Value.oneCell']) (by unfold maxLen; omega) (by omega) (by simp; omega) ?_; intro v' w1 hown' hgrow _; obtain ⟨g', cap', rfl⟩ := ownsRow_succ hown'; obtain ⟨hv1, hv2, hr2, hk2, hb2⟩ := hv.appended (n₀ := w.heap.size) (by decide) (own_weaken (b2 := w.heap.size) hrow (by omega)) (by omega) (by omega) (own_weaken (b2 := w.heap.size) hown' (by omega)) hgrow; have hc1 := hv1.cell; have hf1 := hv1.frozen)
          have hne : ∀ b, b < w.heap.size + 4 → (Value.slice ao (nodots pre).length cap).ownBlock ≠ some b := fun b hb e => by have := (hrow.lt b e).1; omega
          have hk : ∀ b t u, b < w.heap.size + 4 → b ≠ w.heap.size + 1 + 1 → Boxed W b t u → Boxed (w1.setCell ⟨w.heap.size + 1 + 1, 0, none⟩ (.slice (some ⟨g', 0, none⟩) ((nodots pre).length + 1) cap')) b t u := fun b t u hb hb2 h => ((h.alloc _).kept hgrow (fun e => hne b hb e.symm)).other hb2 _
          refine ⟨hk2.from _, hk _ _ _ (by omega) (by omega), ⟨_, hv2, ?_, trivial⟩, hk _ _ _ (by omega) (by omega) hb4, hk _ _ _ (by omega) (by omega) hb5, hk _ _ _ (by omega) (by omega) hb7, HG, hB.trans hb2⟩
          rw [HM.out, strsV_app, List.length_append]
          exact hown'.kept (grownBy_setCell' w1 _ _) (.inr (fun e => by have := (hown'.lt _ e).1; omega))
  case done =>
    rintro D ys W hD rfl ⟨⟨v, hv, hrow, _⟩, hb4, hb5, hb7, hg, hB⟩ hK
    have hc := hv.cell
    have hc4 := hb4.cell
    have hc5 := hb5.cell
    have hf4 := hb4.frozen
    have hf5 := hb5.frozen
    have hl4 := hb4.lt
    have hl7 := hb7.lt
    obtain ⟨ao, cap, rfl⟩ := own_slice hrow
    gi_wp2
    have hK' := ((KeepsOthers.setCell W ⟨w.heap.size, 0, none⟩ (.slice ao (nodots (pcs (bs s))).length cap)).trans (KeepsOthers.setCell _ ⟨w.heap.size + 1, 0, none⟩ (.int .i64 0))).same D _ hK rfl
    refine ⟨by simp, .inl ⟨_, _, rfl, run_takeDeferred hK', ?_⟩⟩
    have e4 := cell_kept ((hb4.set (.slice ao (nodots (pcs (bs s))).length cap)).other (B' := w.heap.size + 1) (by omega) (.int .i64 0)).cell (grownBy_putObj' _ D (.deferred none)) (fun r e => by cases e; exact ⟨_, hK', rfl⟩)
    have e5 := cell_kept ((hb5.other (B' := w.heap.size) (by omega) (.slice ao (nodots (pcs (bs s))).length cap)).set (.int .i64 0)).cell (grownBy_putObj' _ D (.deferred none)) (fun r e => by cases e; exact ⟨_, hK', rfl⟩)
    refine ⟨.tuple #[.slice ao (nodots (pcs (bs s))).length cap, .int .i64 0], ?_, ?_, .inl ⟨hg, _, rfl, ?_⟩⟩
    · simp [results, Tryz.f112, go_sem, e4, e5]
    · exact ((hB.setCell (p := ⟨w.heap.size, 0, none⟩) (Nat.le_refl _) _).setCell (p := ⟨w.heap.size + 1, 0, none⟩) (by show w.heap.size ≤ w.heap.size + 1; omega) _).trans (belowK_b (w := w) (Nat.le_refl _) _ D _ _ (by omega) hK' rfl rfl)
    · refine own_weaken (base := w.heap.size + 4) (ownsRow_putObj ((hrow.kept (grownBy_setCell' _ _ _) (.inr fun e => ?_)).kept (grownBy_setCell' _ _ _) (.inr fun e => ?_)) _ hK' rfl) (by omega)
      · have := (hrow.lt _ e).1; omega
      · have := (hrow.lt _ e).1; omega
  case stop =>
    rintro D c pre W hD hpre ⟨rfl, hb4, hb5, hg, hB⟩ hK
    have hc4 := hb4.cell
    have hc5 := hb5.cell
    gi_wp2
    refine ⟨by simp, .inl ⟨_, _, rfl, run_takeDeferred hK, ?_⟩⟩
    have e4 := cell_kept hb4.cell (grownBy_putObj' _ D (.deferred none)) (fun r e => by cases e; exact ⟨_, hK, rfl⟩)
    have e5 := cell_kept hb5.cell (grownBy_putObj' _ D (.deferred none)) (fun r e => by cases e; exact ⟨_, hK, rfl⟩)
    refine ⟨.tuple #[.slice none 0 0, .int .i64 130], ?_, hB.trans (belowK_b (w := w) (Nat.le_refl _) W D _ _ (by omega) hK rfl rfl), .inr ⟨fun h => hg ?_, rfl⟩⟩
    · simp [results, Tryz.f112, go_sem, e4, e5]
    · obtain ⟨r, hr⟩ := hpre
      refine ⟨fun p hp => h.1 p (by rw [← hr]; exact List.mem_append.2 (.inl hp)), Nat.le_trans ?_ h.2⟩
      rw [← hr]
      simp [nodots]
theorem components_any (s : ByteArray) (hs : s.size ≤ 140737488355328) (most : Nat) (w : World) (hm : s.size ≤ most) :
    Calls Tryz.prog 112 #[.string s, .int .i64 most] w fun e W' => Below w.heap.size w W' ∧
      ((Good (pcs (bs s)) ∧ ∃ v, e = .returned (.tuple #[v, .int .i64 0]) ∧ W'.ownsRow w.heap.size 9 1 v (nodots (pcs (bs s))).length (strsV (nodots (pcs (bs s))))) ∨
       (¬ Good (pcs (bs s)) ∧ e = .returned (.tuple #[.slice none 0 0, .int .i64 130]))) :=
  callsIn_wide.1 (components_in Fence.wide 3 trivial trivial trivial rfl (Nat.le_refl _) s hs most w hm)
theorem components_long (s : ByteArray) (most : Nat) (w : World) (hm : most < s.size) :
    Calls Tryz.prog 112 #[.string s, .int .i64 most] w fun e W' => Below w.heap.size w W' ∧ e = .returned (.tuple #[.slice none 0 0, .int .i64 130]) := by
  go_enter Tryz.func112, Tryz.ntmps112
  go_wp2
  have e4 := ((Boxed.new w 112 (.slice none 0 0)).alloc (.cells #[.int .i64 130] 41)).cell
  have e5 := (Boxed.new (w.alloc (.cells #[.slice none 0 0] 112)) 41 (.int .i64 130)).cell
  rw [World.size_alloc] at e5
  refine bodyPost_ret (v := .tuple #[.slice none 0 0, .int .i64 130]) ?_ rfl ⟨((Below.refl _ _).alloc (Nat.le_refl _) _).alloc (by simp) _, rfl⟩
  simp [results, Tryz.f112, go_sem, e4, e5]
theorem index_mem (l : List UInt8) (c : UInt8) : 0 ≤ Lib.indexByte l c ↔ c ∈ l := by
  induction l with
  | nil => simp [Lib.indexByte]
  | cons b l ih =>
    have hge := Lib.indexByte_ge l c
    unfold Lib.indexByte
    by_cases hb : b = c
    · subst hb; simp
    · have h1 : (b == c) = false := by simpa using hb
      rw [h1]
      simp only [Bool.false_eq_true, if_false, List.mem_cons]
      have h2 : ¬ c = b := fun e => hb e.symm
      simp only [h2, false_or]
      rw [← ih]
      split
      · rename_i h3
        have : Lib.indexByte l c = -1 := by simpa using h3
        omega
      · rename_i h3
        have : Lib.indexByte l c ≠ -1 := by simpa using h3
        omega
/-- Is a text wrong ahead of its pieces? -/
def wrongB (l : List UInt8) : Bool := decide (l = [] ∨ 0 ∈ l)
theorem wrong_any (s : ByteArray) (w : World) : Calls Tryz.prog 111 #[.string s, .bool false] w fun e w' => e = .returned (.bool (wrongB (bs s))) ∧ w = w' := by
  have HI := Tryz.strings_IndexByte s 0 w
  have HM := Lib.hid (index_mem (bs s) 0)
  have e0 : (Lib.indexByte s.data.toList (0 : Int).toNat.toUInt8) = Lib.indexByte (bs s) 0 := rfl
  rw [e0] at HI
  clear e0
  generalize Lib.indexByte (bs s) 0 = n at HI HM
  by_cases h0 : bs s = []
  · have h1 : s.toList = [] := by rw [toList_bs]; exact h0
    have HD := Lib.hid (show wrongB (bs s) = true from decide_eq_true (.inl h0))
    clear h0
    go_enter Tryz.func111, Tryz.ntmps111
    go_wp2_with (go_at_call 144; refine HI.mono ?_; rintro e w' ⟨rfl, rfl⟩)
    go_ret
    exact ⟨ret_bool HD.out.symm, rfl⟩
  · have h1 : ¬ s.toList = [] := by rw [toList_bs]; exact h0
    have HD := Lib.hid (show wrongB (bs s) = decide (0 ≤ n) by
      unfold wrongB; rw [Bool.eq_iff_iff, decide_eq_true_iff, decide_eq_true_iff, HM.out]; simp [h0])
    clear h0
    by_cases hn : 0 ≤ n
    · have HE := Lib.hid (HD.out.trans (decide_eq_true hn))
      go_enter Tryz.func111, Tryz.ntmps111
      go_wp2_with (go_at_call 144; refine HI.mono ?_; rintro e w' ⟨rfl, rfl⟩)
      go_ret
      exact ⟨ret_bool HE.out.symm, rfl⟩
    · have HE := Lib.hid (HD.out.trans (decide_eq_false hn))
      go_enter Tryz.func111, Tryz.ntmps111
      go_wp2_with (go_at_call 144; refine HI.mono ?_; rintro e w' ⟨rfl, rfl⟩)
      go_ret
      refine ⟨ret_bool ?_, rfl⟩
      rw [HE.out]
      simp [h1]
      omega
open Go.Maps
/-- The map's making. -/
theorem wpList_makeMap_to {P : Program} (W : World) {ops : Array Oper} {rest : List Oper} {o : Oper} {a : Act} {Q : Exit → Act → World → Prop} (hg : o.guard = none) (t : TypeId) (hop : o.op = Op.makeMap t none) (Φ : World → Prop) (hΦ : Φ (W.alloc (.map #[] 0)))
    (h : ∀ w1, Φ w1 → wpList P ops Q rest (a.put o.dst (.map (some W.heap.size))) w1) : wpList P ops Q (o :: rest) a W := by
  refine wpList_plain hg fun K' hK' => ?_
  unfold Oper.wp
  simp [execOp, hop, run_makeMap, Result.andThen]
  exact hK' _ _ (h _ hΦ)
theorem keyOf_text {P : Program} {k : TypeId} (hk : P.underlying k = some .string) (l : List UInt8) (hl : l.length ≤ maxLen) : keyOf P k (.string (mk l)) = some (.string l) := by
  have : (mk l).size ≤ maxLen := hl
  simp [keyOf, hk, mapKey, mk] at this ⊢
  exact this
theorem kl (l : List UInt8) : WideAt.IsKeyLit (.string l) := trivial
theorem zeroDo (w : World) : (zeroValue 237).run Tryz.prog w = .ok .nilFunc w := by kernel_rfl
/-- The map of the dots. -/
abbrev doD : DataW Value := ((DataW.map []).put (.string [46]) (.held (.func (.func 183) #[] #[]))).put (.string [46, 46]) (.held (.func (.func 184) #[] #[]))
/-- What the map of the dots has for a text. -/
def dotsV (l : List UInt8) : Value := if l = [46, 46] then .func (.func 184) #[] #[] else if l = [46] then .func (.func 183) #[] #[] else .nilFunc
def dotsB (l : List UInt8) : Bool := decide (l = [46] ∨ l = [46, 46])
theorem doD_at (l : List UInt8) : doD.atKey (.string l) (.held .nilFunc) = .held (dotsV l) ∧ Maps.has doD (.string l) = dotsB l := by
  have i0 : IsMap (DataW.map (H := Value) []) := isMap_empty
  have i1 : IsMap ((DataW.map (H := Value) []).put (.string [46]) (.held (.func (.func 183) #[] #[])))   := i0.put _ _
  by_cases h2 : l = [46, 46]
  · subst h2
    exact ⟨atKey_put_same i1 (kl _) _ _, has_put_same i1 (kl _) _⟩
  · have n2 : (Lit.string l) ≠ Lit.string [46, 46] := fun e => h2 (by injection e)
    by_cases h1 : l = [46]
    · subst h1
      exact ⟨(atKey_put_other n2 _ _).trans (atKey_put_same i0 (kl _) _ _), (has_put_other n2 _).trans (has_put_same i0 (kl _) _)⟩
    · have n1 : (Lit.string l) ≠ Lit.string [46] := fun e => h1 (by injection e)
      refine ⟨(atKey_put_other n2 _ _).trans ((atKey_put_other n1 _ _).trans ?_), (has_put_other n2 _).trans ((has_put_other n1 _).trans ?_)⟩
      · unfold dotsV; rw [if_neg h2, if_neg h1]; rfl
      · unfold dotsB; rw [decide_eq_false (by simp [h1, h2])]; rfl
set_option maxRecDepth 100000 in
theorem does_any (l : List UInt8) (w : World) (hl : l.length ≤ maxLen) : Calls Tryz.prog 179 #[.string (mk l)] w fun e w' => e = .returned (.tuple #[dotsV l, .bool (dotsB l)]) ∧ Below w.heap.size w w' := by
  obtain ⟨ha, hb⟩ := doD_at l
  have HA := Lib.hid ha
  have HB := Lib.hid hb
  clear ha hb
  go_enter Tryz.func179, Tryz.ntmps179
  go_wp2_with (first
    | (refine wpList_makeMap_to _ rfl 244 rfl (fun W => W.ownsMap Tryz.prog 9 rawElem w.heap.size 0 (.map []) ∧ Below w.heap.size w W) ⟨ownsMap_last _ _ _ _ _ rfl, (Below.refl _ _).alloc (Nat.le_refl _) _⟩ ?_; rintro w0 ⟨hm0, hb0⟩)
    | (refine wpList_lookup_raw_ok _ rfl _ _ 244 rfl 9 237 (string_keyed Tryz.underlying9) Tryz.underlying244 .nilFunc (zeroDo _) w.heap.size 2 doD rfl hm2 _ (.string l) rfl (keyOf_text Tryz.underlying9 l hl) (dotsV l) HA.out (dotsB l) HB.out ?_)
    | (refine wpList_insert_own _ rfl _ _ _ 244 rfl 9 237 (string_keyed Tryz.underlying9) Tryz.underlying244 rawElem w.heap.size 1 _ rfl hm1 (by decide) _ _ (.string [46, 46]) rfl rfl (keyOf_text Tryz.underlying9 [46, 46] (by decide)) (.held (.func (.func 184) #[] #[])) [] rfl ?_; intro w2 hm2 hg2; have hb2 := hb1.grown hg2 hb1.size (fun k e => by cases e; exact Nat.le_refl _))
    | (refine wpList_insert_own _ rfl _ _ _ 244 rfl 9 237 (string_keyed Tryz.underlying9) Tryz.underlying244 rawElem w.heap.size 0 _ rfl hm0 (by decide) _ _ (.string [46]) rfl rfl (keyOf_text Tryz.underlying9 [46] (by decide)) (.held (.func (.func 183) #[] #[])) [] rfl ?_; intro w1 hm1 hg1; have hb1 := hb0.grown hg1 hb0.size (fun k e => by cases e; exact Nat.le_refl _)))
  go_ret2
  exact ⟨rfl, hb2⟩
set_option maxRecDepth 100000 in
/-- Is a path wrong ahead of its pieces? -/
theorem wrong_path (s : ByteArray) (w : World) : Calls Tryz.prog 111 #[.string s, .bool true] w fun e w' => e = .returned (.bool (Fs.wrong (bs s) true)) ∧ w = w' := by
  have HI := Tryz.strings_IndexByte s 0 w
  have HM := Lib.hid (index_mem (bs s) 0)
  have e0 : (Lib.indexByte s.data.toList (0 : Int).toNat.toUInt8) = Lib.indexByte (bs s) 0 := rfl
  rw [e0] at HI
  clear e0
  generalize Lib.indexByte (bs s) 0 = n at HI HM
  by_cases h0 : bs s = []
  · have h1 : s.toList = [] := by rw [toList_bs]; exact h0
    have HD := Lib.hid (show Fs.wrong (bs s) true = true from decide_eq_true (.inl h0))
    clear h0
    go_enter Tryz.func111, Tryz.ntmps111
    go_wp2_with (go_at_call 144; refine HI.mono ?_; rintro e w' ⟨rfl, rfl⟩)
    go_ret
    exact ⟨ret_bool HD.out.symm, rfl⟩
  · have h1 : ¬ s.toList = [] := by rw [toList_bs]; exact h0
    have hpos : 0 < s.size := by rw [← bs_len]; exact List.length_pos_iff.2 h0
    have hhd : (bs s).head? = some s[0] := by rw [List.head?_eq_getElem?]; exact bs_get s 0 hpos
    have HD := Lib.hid (show Fs.wrong (bs s) true = decide (0 ≤ n ∨ s[0] ≠ 47) by
      unfold Fs.wrong; rw [Bool.eq_iff_iff, decide_eq_true_iff, decide_eq_true_iff, HM.out, hhd]; simp [h0])
    have hs1 : ¬ s = ByteArray.empty := fun e => by rw [e] at hpos; simp at hpos
    clear h0 hhd
    by_cases hn : 0 ≤ n
    · have HE := Lib.hid (HD.out.trans (decide_eq_true (.inl hn)))
      go_enter Tryz.func111, Tryz.ntmps111
      go_wp2_with (go_at_call 144; refine HI.mono ?_; rintro e w' ⟨rfl, rfl⟩)
      go_ret
      exact ⟨ret_bool HE.out.symm, rfl⟩
    · by_cases h47 : s[0].toNat = 47
      · have h2 : ((s[0].toNat : Int) != 47) = false := by simp [h47]
        have HE := Lib.hid (HD.out.trans (decide_eq_false (by rintro (h | h); exact hn h; exact h (u8_47 h47))))
        clear h47
        go_enter Tryz.func111, Tryz.ntmps111
        go_wp2_with (go_at_call 144; refine HI.mono ?_; rintro e w' ⟨rfl, rfl⟩)
        go_ret
        refine ⟨ret_bool ?_, rfl⟩
        rw [HE.out]
        simp [h1]
        omega
      · have h2 : ((s[0].toNat : Int) != 47) = true := by simp; omega
        have HE := Lib.hid (HD.out.trans (decide_eq_true (.inr (u8_47' h47))))
        clear h47
        go_enter Tryz.func111, Tryz.ntmps111
        go_wp2_with (go_at_call 144; refine HI.mono ?_; rintro e w' ⟨rfl, rfl⟩)
        go_ret
        exact ⟨ret_bool HE.out.symm, rfl⟩
/-! The three that the file system asks. -/
theorem wrong_text (s : ByteArray) (w : World) : Calls Tryz.prog 111 #[.string s, .bool false] w fun e w' => e = .returned (.bool (Fs.wrong (bs s) false)) ∧ w = w' := by
  refine (wrong_any s w).mono ?_
  rintro e w' ⟨rfl, rfl⟩
  refine ⟨?_, rfl⟩
  unfold wrongB Fs.wrong
  simp
/-- components, by the specification. -/
theorem comps_st (t : List UInt8) (ht : t.length ≤ 140737488355328) (w : World) : Calls Tryz.prog 112 #[.string (mk t), .int .i64 1024] w fun e W' => Below w.heap.size w W' ∧
    match Fs.comps t with
    | some l => ∃ v, e = .returned (.tuple #[v, .int .i64 0]) ∧ W'.ownsRow w.heap.size 9 1 v l.length (strsV l)
    | none => e = .returned (.tuple #[.slice none 0 0, .int .i64 130]) := by
  by_cases hl : 1024 < t.length
  · refine (components_long (mk t) 1024 w hl).mono ?_
    rintro e W' ⟨hb, rfl⟩
    rw [show Fs.comps t = none by unfold Fs.comps; rw [if_neg (by omega)]]
    exact ⟨hb, rfl⟩
  · refine (components_any (mk t) ht 1024 w (by show t.length ≤ 1024; omega)).mono ?_
    rintro e W' ⟨hb, h⟩
    refine ⟨hb, ?_⟩
    rw [bs_mk] at h
    have hnd : nodots (pcs t) = Fs.dotless (Pk.pcs t) := rfl
    rcases h with ⟨hg, v, he, ho⟩ | ⟨hg, he⟩
    · rw [show Fs.comps t = some (Fs.dotless (Pk.pcs t)) by unfold Fs.comps; rw [if_pos ⟨by omega, hg.1, hg.2⟩]]
      exact ⟨v, he, ho⟩
    · rw [show Fs.comps t = none by unfold Fs.comps; rw [if_neg (by rintro ⟨_, h1, h2⟩; exact hg ⟨h1, h2⟩)]]
      exact he
theorem ret_strs {w : World} {base : Nat} {v : Value} {l : List (List UInt8)} (h : w.ownsRow base 9 1 v l.length (strsV l)) : ∃ ao cap, v = .slice ao l.length cap := own_slice h
set_option maxRecDepth 100000 in
theorem text_st (t : List UInt8) (ht : t.length ≤ 140737488355328) (w : World) : Calls Tryz.prog 68 #[.string (mk t)] w fun e W' => Below w.heap.size w W' ∧
    match Fs.textP t with
    | .ok (l, top) => ∃ v, e = .returned (.tuple #[v, .bool top, .int .i64 0]) ∧ W'.ownsRow w.heap.size 9 1 v l.length (strsV l)
    | .error z => e = .returned (.tuple #[.slice none 0 0, .bool false, .int .i64 z]) ∧ z ≠ 0 := by
  have HW := wrong_text (mk t) w
  rw [bs_mk] at HW
  have HC := comps_st t ht w
  unfold Fs.textP
  cases hw : Fs.wrong t false with
  | true =>
    rw [hw] at HW
    clear hw HC
    go_enter Tryz.func68, Tryz.ntmps68
    go_wp2_with (go_at_call 111; refine HW.mono ?_; rintro e w' ⟨rfl, rfl⟩)
    go_ret3
    exact ⟨Below.refl _ _, rfl⟩
  | false =>
    rw [hw] at HW
    have hne : t ≠ [] := fun e => by subst e; simp [Fs.wrong] at hw
    clear hw
    cases hc : Fs.comps t with
    | none =>
      rw [hc] at HC
      clear hc
      go_enter Tryz.func68, Tryz.ntmps68
      go_wp2_with (first | (go_at_call 111; refine HW.mono ?_; rintro e w' ⟨rfl, rfl⟩) | (go_at_call 112; refine HC.mono ?_; rintro e w1 ⟨hb1, rfl⟩))
      go_ret3
      exact ⟨hb1, rfl⟩
    | some l =>
      rw [hc] at HC
      clear hc
      have h0 : 0 < (mk t).size := List.length_pos_iff.2 hne
      have HH := Lib.hid (show decide (t.head? = some 47) = ((((mk t)[0]'h0).toNat : Int) == 47) by
        have e : t.head? = some (mk t)[0] := by rw [List.head?_eq_getElem?]; exact bs_get (mk t) 0 h0
        rw [e, Bool.eq_iff_iff, decide_eq_true_iff, beq_iff_eq]
        constructor
        · intro h; rw [Option.some.inj h]; rfl
        · intro h; congr 1; exact u8_47 (by omega))
      have HC2 : Calls Tryz.prog 112 #[.string (mk t), .int .i64 1024] w fun e W' => Below w.heap.size w W' ∧ ∃ ao cap, e = .returned (.tuple #[.slice ao l.length cap, .int .i64 0]) ∧ W'.ownsRow w.heap.size 9 1 (.slice ao l.length cap) l.length (strsV l) := by
        refine HC.mono ?_
        rintro e W' ⟨hb, v, he, ho⟩
        obtain ⟨ao, cap, rfl⟩ := own_slice ho
        exact ⟨hb, ao, cap, he, ho⟩
      clear HC hne
      go_enter Tryz.func68, Tryz.ntmps68
      go_wp2_with (first | (go_at_call 111; refine HW.mono ?_; rintro e w' ⟨rfl, rfl⟩) | (go_at_call 112; refine HC2.mono ?_; rintro e w1 ⟨hb1, ao, cap, rfl, ho1⟩))
      go_quiet (fail)
      go_wp2
      go_ret3
      exact ⟨below_drewN hb1 nq, _, (by rw [HH.out]; rfl), own_drewN ho1 nq⟩
end Pw
end Go.Proofs.YtegplehbcdeeoaaGreatDoor
/- Whether a text may be a name. -/
namespace Go.Proofs.YtegplehbcdeeoaaGreatDoor
open Go.RowKit Go.Maps

namespace Pw
open Pk
open Pk
theorem containsAny_any (s : ByteArray) (w : World) (hs : s.size ≤ 2000000) : Calls Tryz.prog 180 #[.string s, .string ⟨#[47, 0]⟩] w fun e w' => e = .returned (.bool (dirtyB (bs s))) ∧ Below w.heap.size w w' := by
  have H := indexAny_any s w hs
  go_enter Tryz.func180, Tryz.ntmps180
  go_wp2_with fail
  refine H.mono ?_
  rintro e w' ⟨⟨n, rfl, hn⟩, hb⟩
  go_wp2
  go_ret
  exact ⟨ret_bool (by simp), hb⟩
theorem goodName_dirty (l : List UInt8) : goodName l = decide (1 ≤ l.length ∧ l.length ≤ 27 ∧ dotsB l = false ∧ dirtyB l = false) := by
  unfold goodName
  rw [decide_eq_decide]
  have e1 : dotsB l = false ↔ l ≠ [46] ∧ l ≠ [46, 46] := by unfold dotsB; simp
  have e2 : dirtyB l = false ↔ ∀ c ∈ l, c ≠ 0 ∧ c ≠ 47 := by
    unfold dirtyB
    rw [List.any_eq_false]
    constructor
    · intro h c hc; have := h c hc; simp at this; exact ⟨this.2, this.1⟩
    · intro h c hc; have := h c hc; simp; exact ⟨this.2, this.1⟩
  rw [e1, e2]
  constructor
  · rintro ⟨a, b, c, d, e⟩; exact ⟨a, b, ⟨c, d⟩, e⟩
  · rintro ⟨a, b, ⟨c, d⟩, e⟩; exact ⟨a, b, c, d, e⟩
theorem name_any (l : List UInt8) (w : World) (hl : l.length ≤ 2000000) : Calls Tryz.prog 166 #[.string (mk l)] w fun e w' => e = .returned (.bool (goodName l)) ∧ Below w.heap.size w w' := by
  have HG := Lib.hid (goodName_dirty l)
  have hsz : (mk l).size = l.length := mk_size l
  have HD := does_any l w (by unfold maxLen; omega)
  by_cases h0 : l.length < 1
  · have HF := Lib.hid (show goodName l = false by rw [HG.out, decide_eq_false (by rintro ⟨a, b, _⟩; omega)])
    generalize dotsB l = d at HD HG
    generalize dotsV l = v at HD
    go_enter Tryz.func166, Tryz.ntmps166
    go_wp2_with (go_at_call 179; refine HD.mono ?_; rintro e w1 ⟨rfl, hb⟩)
    go_ret
    exact ⟨ret_bool HF.out.symm, hb⟩
  · by_cases h1 : 27 < l.length
    · have HF := Lib.hid (show goodName l = false by rw [HG.out, decide_eq_false (by rintro ⟨a, b, _⟩; omega)])
      generalize dotsB l = d at HD HG
      generalize dotsV l = v at HD
      go_enter Tryz.func166, Tryz.ntmps166
      go_wp2_with (go_at_call 179; refine HD.mono ?_; rintro e w1 ⟨rfl, hb⟩)
      go_ret
      exact ⟨ret_bool HF.out.symm, hb⟩
    · cases hd : dotsB l with
      | true =>
        have HF := Lib.hid (show goodName l = false by rw [HG.out, hd, decide_eq_false (by rintro ⟨_, _, a, _⟩; cases a)])
        rw [hd] at HD
        clear hd
        generalize dotsV l = v at HD
        go_enter Tryz.func166, Tryz.ntmps166
        go_wp2_with (go_at_call 179; refine HD.mono ?_; rintro e w1 ⟨rfl, hb⟩)
        go_ret
        exact ⟨ret_bool HF.out.symm, hb⟩
      | false =>
        have HF := Lib.hid (show goodName l = !dirtyB l by
          rw [HG.out, hd, Bool.eq_iff_iff, decide_eq_true_iff]
          constructor
          · rintro ⟨_, _, _, a⟩; rw [a]; rfl
          · intro a; exact ⟨by omega, by omega, rfl, by simpa using a⟩)
        rw [hd] at HD
        have HC := fun W => containsAny_any (mk l) W (by omega)
        have e1 : bs (mk l) = l := rfl
        rw [e1] at HC
        clear hd e1
        generalize dotsV l = v at HD
        generalize dirtyB l = d at HC HF
        go_enter Tryz.func166, Tryz.ntmps166
        go_wp2_with (go_at_call 179; refine HD.mono ?_; rintro e w1 ⟨rfl, hb⟩)
        refine (HC w1).mono ?_
        rintro e w2 ⟨rfl, hb2⟩
        go_wp2
        go_ret
        exact ⟨ret_bool (by rw [HF.out]), hb.trans (hb2.mono hb.size)⟩
end Pw
end Go.Proofs.YtegplehbcdeeoaaGreatDoor
