/- A disk's blocks, read. -/
import Derived.Test.YtegplehbcdeeoaaGreatDoorChkB07
namespace Go.Proofs.YtegplehbcdeeoaaGreatDoor
open Go.RowKit

namespace Ck
open Pk Pw
theorem store_new (w : World) (ty : TypeId) (c ys : Array Value) (hi : (Tryz.prog.info? ty).map (·.size) = some ys.size) (hs : c.size = ys.size) (h1 : ys.all (·.oneCell') = true) :
    (Instr.storeAt ty (.pointer (some ⟨w.heap.size, 0, none⟩)) (.agg ys)).run Tryz.prog (w.alloc (.cells c ty)) = .ok () (w.alloc (.cells ys ty)) := by
  refine (store_row (ty := ty) (Blk.new w c ty) hi hs h1).trans ?_
  refine congrArg (Result.ok ()) ?_
  have e : ∀ (hp : Array Obj) (f : Obj → Obj) (x y : Obj), f x = y → (hp.push x).modify hp.size f = hp.push y := by
    intro hp f x y hf
    apply Array.ext_getElem?
    intro i
    rw [Array.getElem?_modify, Array.getElem?_push, Array.getElem?_push]
    by_cases h : hp.size = i
    · rw [if_pos h, if_pos h.symm, if_pos h.symm, Option.map_some, hf]
    · rw [if_neg h, if_neg (fun e => h e.symm), if_neg (fun e => h e.symm)]
  unfold World.setRow World.alloc
  rw [e _ _ _ (.cells ys ty) rfl]
theorem seen_row {w : World} {g : Nat} {l : B} {t : TypeId} (h : Blk w g (bytesC l) t) : SeenAt w g 0 l := by
  intro j c hc
  rw [Nat.zero_add, h.cell, bytesC_get, hc]
  rfl
section
variable {w : World} {d g n : Nat} {l : B}
theorem blocks_any (h : DiskAt w d g n l) : Calls Tryz.prog 99 #[.pointer (some ⟨d, 0, none⟩)] w fun e w' => e = .returned (.int .i64 n) ∧ w = w' := by
  have q0 : w.cell? ⟨d, 0, none⟩ = some (.slice (some ⟨g, 0, none⟩) n n) := h.blk.cell 0
  clear h
  go_enter Tryz.func99, Tryz.ntmps99
  go_wp2_with fail
  go_ret
  exact ⟨rfl, rfl⟩
theorem down_any (h : DiskAt w d g n l) : Calls Tryz.prog 133 #[.pointer (some ⟨d, 0, none⟩)] w fun e w' => e = .returned (.bool false) ∧ w = w' := by
  have q0 : w.cell? ⟨d, 4, none⟩ = some (.bool false) := h.blk.cell 4
  clear h
  go_enter Tryz.func133, Tryz.ntmps133
  go_wp2_with fail
  go_ret
  exact ⟨rfl, rfl⟩
theorem has_any (h : DiskAt w d g n l) (i : Nat) (hi : i < n) : Calls Tryz.prog 165 #[.pointer (some ⟨d, 0, none⟩), .int .i64 i] w fun e w' => e = .returned (.bool true) ∧ w = w' := by
  have q0 : w.cell? ⟨d, 0, none⟩ = some (.slice (some ⟨g, 0, none⟩) n n) := h.blk.cell 0
  have h0 : (0 : Int) ≤ i := by omega
  have h1 : (i : Int) < n := by omega
  clear h
  go_enter Tryz.func165, Tryz.ntmps165
  go_wp2_with fail
  go_ret
  exact ⟨rfl, rfl⟩
end
set_option maxRecDepth 100000 in
set_option maxHeartbeats 1000000 in
/-- A block read: new memory. -/
theorem read_any {w : World} {d g n : Nat} {l : B} (h : DiskAt w d g n l) (i : Nat) (hi : i < n) : Calls Tryz.prog 136 #[.pointer (some ⟨d, 0, none⟩), .int .i64 i] w fun e w' =>
    e = .returned (.tuple #[.slice (some ⟨w.heap.size, 0, none⟩) 512 512, .int .i64 0]) ∧ Blk w' w.heap.size (bytesC (blk l i)) 156 ∧ Below w.heap.size w w' := by
  have HH := has_any h i hi
  have q0 : w.cell? ⟨d, 0, none⟩ = some (.slice (some ⟨g, 0, none⟩) n n) := h.blk.cell 0
  have q1 : w.cell? ⟨d, 1, none⟩ = some (.slice none 0 0) := h.blk.cell 1
  have hd : d < w.heap.size := h.blk.lt
  have q4 : w.cell? ⟨d, 4, none⟩ = some (.bool false) := h.blk.cell 4
  have hbl : (blk l i).length = 512 := sub_len (by have := h.len; omega)
  have hL := fun ty e n hu hi => load_part (w := w) (g := g) (o := i * 512) (x := blk l i) (n := n) (ty := ty) (e := e) (by have := (seen_row h.row).part (512 * i) 512; rw [Nat.zero_add] at this; rw [Nat.mul_comm i]; exact this) hu hi
  have hL := hL 156 _ _ arr_sector (by rw [hbl]; kernel_rfl)
  have hS := fun c hc => store_new w 156 c (bytesC (blk l i)) (by rw [bytesC_size, hbl]; kernel_rfl) (by rw [bytesC_size, hbl]; exact hc) (bytesC_one _)
  clear h hbl
  go_enter Tryz.func136, Tryz.ntmps136
  go_wp2_with fail
  refine HH.mono ?_
  clear HH
  rintro e w1 ⟨rfl, rfl⟩
  go_wp2_with (first | (refine wpList_load_run _ rfl (.tmp 24) 156 rfl _ hL ?_) | (refine wpList_store_run _ rfl (.tmp 6) (.tmp 25) 156 rfl _ (hS _ (by kernel_rfl)) ?_))
  go_loopw [31] (fun iv wr => iv = .int .i64 0 ∧ wr = w.alloc (.cells (bytesC (blk l i)) 156)) (fun _ _ => 0)
  case atStart => exact ⟨rfl, rfl⟩
  case round =>
    obtain ⟨rfl, rfl⟩ := hrel
    go_wp2_with fail
    go_ret2
    exact ⟨rfl, Blk.new _ _ _, (Below.refl _ _).alloc (Nat.le_refl _) _⟩
end Ck
end Go.Proofs.YtegplehbcdeeoaaGreatDoor
/- The log's header: its numbers. -/
namespace Go.Proofs.YtegplehbcdeeoaaGreatDoor
open Go.RowKit

namespace Ck
open Pk Pw
/-- What a slice shows. -/
def Row (w : World) (ao : Option Addr) (vals : List Value) : Prop := ∀ j x, vals[j]? = some x → ∃ g o, ao = some ⟨g, o, none⟩ ∧ g < w.heap.size ∧ w.cell? ⟨g, o + j, none⟩ = some x
theorem Row.below {w w' : World} {ao : Option Addr} {vals : List Value} (h : Row w ao vals) (hb : Below w.heap.size w w') : Row w' ao vals := fun j x hx => by
  obtain ⟨g, o, e, h1, h2⟩ := h j x hx
  exact ⟨g, o, e, Nat.lt_of_lt_of_le h1 hb.size, (World.cell?_of_block (hb.block g h1)).trans h2⟩
theorem Row.nil (w : World) (ao : Option Addr) : Row w ao [] := fun j x hx => by cases hx
theorem Row.of_own {w : World} {base : Nat} {e : TypeId} {v : Value} {n : Nat} {vals : List Value} (h : w.ownsRow base e 1 v n vals) : ∃ ao cap, v = .slice ao vals.length cap ∧ vals.length ≤ cap ∧ Row w ao vals := by
  have hn : n = vals.length := by have := h.1; omega
  subst hn
  by_cases c : vals.length = 0
  · have hv := List.eq_nil_of_length_eq_zero c
    subst hv
    rcases h.2 with ⟨h1, _⟩ | ⟨g, cap, cur, h1, _, _, h3, _⟩
    · exact ⟨none, 0, h1, Nat.le_refl _, Row.nil _ _⟩
    · exact ⟨_, cap, h1, h3, Row.nil _ _⟩
  · obtain ⟨g, cap, e1, _, h3, h4, _, h6, _⟩ := own_at h (by omega)
    refine ⟨_, cap, e1, h4, fun j x hx => ⟨g, 0, rfl, h3, ?_⟩⟩
    have := (List.getElem?_eq_some_iff.1 hx).1
    rw [Nat.zero_add, h6 j (by omega), hx]
/-- Numbers that rise. -/
def rises (last n : Int) : List Nat → Bool
  | [] => true
  | i :: l => decide (last < i) && decide ((i : Int) < n) && rises i n l
/-- Numbers that may stand in a header. -/
def mayN (n : Int) (l : List Nat) : Bool := rises 97 n l && decide (1 ≤ l.length) && decide (l.length ≤ 96)
/-- Numbers as they lie. -/
def numsV (l : List Nat) : List Value := l.map fun (i : Nat) => .int .i64 i
theorem numsV_len (l : List Nat) : (numsV l).length = l.length := by simp [numsV]
theorem setCell_heap (w : World) (p i x : Nat) (v : Value) (h : x ≠ p) : (w.setCell ⟨p, i, none⟩ v).heap[x]? = w.heap[x]? := by
  simp only [World.setCell]
  rw [Array.getElem?_modify, if_neg (fun e => h e.symm)]
theorem setCell_size (w : World) (a : Addr) (v : Value) : (w.setCell a v).heap.size = w.heap.size := by simp [World.setCell]
theorem wrong_any (x last n : Int) (p q : Nat) (w : World) (hp : Blk w p #[.int .i64 last] 3) (hq : w.cell? ⟨q, 0, none⟩ = some (.int .i64 n)) (hpq : q ≠ p) :
    Calls Tryz.prog 176 #[.int .i64 x, .pointer (some ⟨p, 0, none⟩), .pointer (some ⟨q, 0, none⟩)] w fun e w' => e = .returned (.bool (!(decide (last < x) && decide (x < n)))) ∧ w' = w.setCell ⟨p, 0, none⟩ (.int .i64 x) := by
  have h0 := hp.cell 0
  have h1 := hp.free 0
  have h2 : (w.setCell ⟨p, 0, none⟩ (.int .i64 x)).cell? ⟨q, 0, none⟩ = some (.int .i64 n) := (World.cell?_of_block (setCell_heap _ _ _ _ _ hpq)).trans hq
  by_cases c : x ≤ last
  · go_enter Tryz.func176, Tryz.ntmps176
    go_wp2_with fail
    go_ret
    have : ¬ last < x := by omega
    simp [this]
  · have c1 : last < x := by omega
    by_cases d : n ≤ x
    · have d1 : ¬ x < n := by omega
      go_enter Tryz.func176, Tryz.ntmps176
      go_wp2_with fail
      go_ret
      simp [d1]
    · have d1 : x < n := by omega
      go_enter Tryz.func176, Tryz.ntmps176
      go_wp2_with fail
      go_ret
      simp
theorem rises_step {l : List Nat} {last n : Int} {i x : Nat} (h : l[i]? = some x) : rises last n (l.drop i) = (decide (last < x) && decide ((x : Int) < n) && rises x n (l.drop (i + 1))) := by
  have hi := (List.getElem?_eq_some_iff.1 h).1
  have hx := (List.getElem?_eq_some_iff.1 h).2
  rw [List.drop_eq_getElem_cons hi, hx]
  rfl
set_option maxRecDepth 100000 in
theorem may_any (l : List Nat) (n : Int) (ao : Option Addr) (cap : Nat) (w : World) (hl : l.length ≤ 1000000) (hs : Row w ao (numsV l)) :
    Calls Tryz.prog 162 #[.slice ao l.length cap, .int .i64 n] w fun e w' => e = .returned (.bool (mayN n l)) ∧ Below w.heap.size w w' := by
  have hR := Lib.hid hs
  clear hs
  go_enter Tryz.func162, Tryz.ntmps162
  go_wp2_with fail
  go_loopw [12] (fun iv wr => ∃ (i : Nat) (last : Int), iv = .int .i64 i ∧ i ≤ l.length ∧ Hid (rises 97 n l = rises last n (l.drop i)) ∧ Blk wr (w.heap.size + 1) #[.int .i64 last] 3 ∧ wr.cell? ⟨w.heap.size, 0, none⟩ = some (.int .i64 n) ∧ Below w.heap.size w wr) (fun iv _ => l.length - (intOf iv).toNat)
  case atStart =>
    exact ⟨0, 97, rfl, Nat.zero_le _, Lib.hid (by rw [List.drop_zero]), Blk.newAt _ _ (by simp), (((Blk.new w _ _).alloc _).cell 0), ((Below.refl _ _).alloc (Nat.le_refl _) _).alloc (by simp) _⟩
  case round =>
    obtain ⟨i, last, rfl, hi, hr, hp, hq, hb⟩ := hrel
    have hqp : w.heap.size ≠ w.heap.size + 1 := by omega
    by_cases c : i < l.length
    · obtain ⟨x, hx⟩ : ∃ x, l[i]? = some x := ⟨_, List.getElem?_eq_getElem c⟩
      obtain ⟨g, o, rfl, hg, hc⟩ := (hR.out.below hb) i (.int .i64 x) (by unfold numsV; rw [List.getElem?_map, hx]; rfl)
      have hci : (i : Int) < (l.length : Int) := by omega
      have HW := wrong_any x last n _ _ wr hp hq hqp
      have hst := rises_step (last := last) (n := n) hx
      have HB := Lib.hid hb
      have HP := Lib.hid hp
      clear hb hp hg
      by_cases k : last < x ∧ (x : Int) < n
      · have k1 : (!(decide (last < (x : Int)) && decide ((x : Int) < n))) = false := by simp [k.1, k.2]
        have hr1 := Lib.hid (show rises 97 n l = rises x n (l.drop (i + 1)) by rw [hr.out, hst]; simp [k.1, k.2])
        rw [k1] at HW
        clear hr hst k k1
        go_wp2_with (go_at_call 176; refine HW.mono ?_; clear HW; rintro e w2 ⟨rfl, rfl⟩)
        go_roundw
        case rel => exact ⟨i + 1, x, rfl, by omega, hr1, HP.out.setAt 0 _, (World.cell?_of_block (setCell_heap _ _ _ _ _ hqp)).trans hq, HB.out.setCell (by simp) _⟩
        case measure => simp only [intOf]; omega
      · have k1 : (!(decide (last < (x : Int)) && decide ((x : Int) < n))) = true := by
          rcases Classical.not_and_iff_not_or_not.1 k with h | h <;> simp [h]
        have hr1 : rises 97 n l = false := by rw [hr.out, hst, show (decide (last < (x : Int)) && decide ((x : Int) < n)) = false by cases hd : (decide (last < (x : Int)) && decide ((x : Int) < n)) <;> simp_all]; rfl
        rw [k1] at HW
        clear hr hst k k1
        go_wp2_with (go_at_call 176; refine HW.mono ?_; clear HW; rintro e w2 ⟨rfl, rfl⟩)
        go_ret
        refine ⟨?_, HB.out.setCell (by simp) _⟩
        simp [mayN, hr1]
    · obtain rfl : i = l.length := by omega
      have hci : ¬ (l.length : Int) < (l.length : Int) := by omega
      have hr1 : rises 97 n l = true := by rw [hr.out, List.drop_length]; rfl
      have hm : mayN n l = (decide ((1 : Int) ≤ l.length) && decide ((l.length : Int) ≤ 96)) := by
        unfold mayN
        rw [hr1]
        simp only [Bool.true_and]
        congr 1 <;> congr 1 <;> apply propext <;> omega
      clear hr hr1 hR hi c
      by_cases k1 : (1 : Int) ≤ l.length
      · by_cases k2 : (l.length : Int) ≤ 96
        · go_wp2_with fail
          go_ret
          exact ⟨by simp [*], hb⟩
        · go_wp2_with fail
          go_ret
          exact ⟨by simp [*], hb⟩
      · go_wp2_with fail
        go_ret
        exact ⟨by have k3 : l.length = 0 := by omega
                  simp [k3], hb⟩
end Ck
end Go.Proofs.YtegplehbcdeeoaaGreatDoor
/- The log's header: its sum. -/
namespace Go.Proofs.YtegplehbcdeeoaaGreatDoor
open Go.RowKit

namespace Ck
open Pk Pw
theorem set_left (xs ys : Array Value) (i : Nat) (v : Value) (h : i < xs.size) : (xs ++ ys).setIfInBounds i v = xs.setIfInBounds i v ++ ys := by
  rw [Array.setIfInBounds_append_left h]
set_option maxRecDepth 100000 in
set_option maxHeartbeats 1000000 in
theorem put_ext (l : B) (ext : Array Value) (b cap at' n v : Nat) (t : TypeId) (w : World) (hwd : isW n) (hv : v < 256 ^ n) (hw : KVars w) (hb : Blk w b (bytesC l ++ ext) t) (hl : at' + n ≤ l.length) (hle : l.length ≤ 1000000000000000) :
    Calls Tryz.prog 130 #[.slice (some ⟨b, 0, none⟩) l.length cap, .int .i64 at', .int .i64 n, .int .u64 v] w fun e w' => e = .returned (.int .i64 0) ∧ Blk w' b (bytesC (lay l at' (low n v)) ++ ext) t ∧ w.grownBy w' (some b) := by
  have HW := isWidth_any n hwd w hw
  have HL := lie_any _ (some ⟨b, 0, none⟩) l.length cap at' n w rfl hl hle
  have hn4 : n ≤ 4 := by rcases hwd with rfl | rfl | rfl <;> omega
  have hn8 : (n : Int) < 8 := by omega
  have hd' : (v : Int) / 2 ^ (8 * n) = 0 := by
    have h1 : v < 2 ^ (8 * n) := by rw [Nat.pow_mul]; exact hv
    have e : ((2 : Int) ^ (8 * n)) = ((2 ^ (8 * n) : Nat) : Int) := by simp
    rw [e]
    have h2 : v / 2 ^ (8 * n) = 0 := Nat.div_eq_of_lt h1
    omega
  have hln := low_len n v
  have h0 : lay l at' ((low n v).take 0) = l := by rw [List.take_zero, lay_nil]
  have hall : (low n v).take n = low n v := by rw [List.take_of_length_le (by omega)]
  have HB := Lib.hid (And.intro hb (And.intro h0 hall))
  clear hw hv hb h0 hall
  go_enter Tryz.func130, Tryz.ntmps130
  go_wp2_with (first | (go_at_call 127; refine HW.mono ?_; rintro e w' ⟨rfl, rfl⟩) | (go_at_call 128; refine HL.mono ?_; rintro e w' ⟨rfl, rfl⟩))
  go_loopw [32] (fun i wr => ∃ k : Nat, k ≤ n ∧ i = .int .i64 k ∧ Blk wr b (bytesC (lay l at' ((low n v).take k)) ++ ext) t ∧ w.grownBy wr (some b)) (fun i _ => n - (intOf i).toNat)
  case atStart => exact ⟨0, Nat.zero_le _, rfl, by rw [HB.out.2.1]; exact HB.out.1, World.grownBy.refl _ _⟩
  case round =>
    obtain ⟨k, hk, rfl, hown, hgr⟩ := hrel
    by_cases hlt : k < n
    · have hc := low_get v hlt
      have HS := Lib.hid (lay_step (l := l) (x := low n v) (i := at') (k := k) (by omega) hc)
      have hlk : ((low n v).take k).length = k := by rw [List.length_take]; omega
      have hsz : (bytesC (lay l at' ((low n v).take k))).size = l.length := by rw [bytesC_size, lay_len (by omega)]
      obtain ⟨u, hu⟩ : ∃ u, (bytesC (lay l at' ((low n v).take k)))[at' + k]? = some u := ⟨_, Array.getElem?_eq_getElem (by omega)⟩
      have hcell := hown.cell (at' + k)
      rw [Array.getElem?_append_left (by omega), hu] at hcell
      have hfree := hown.free (at' + k)
      have hki : (k : Int) < (n : Int) := by omega
      have hka : IntKind.i64.wrap ((at' : Int) + k) = ((at' + k : Nat) : Int) := by rw [IntWalk.i64_in _ (by omega)]; omega
      have hlo : ((at' + k : Nat) : Int) < (l.length : Int) := by omega
      have HR := Lib.hid (And.intro hown hgr)
      have hkl : at' + k < (bytesC (lay l at' ((low n v).take k))).size := by omega
      have hkl := Lib.hid hkl
      clear hown hgr hu hlk hsz hln hc
      go_wp2
      go_roundw
      case rel => exact ⟨k + 1, by omega, rfl, by rw [shr_byte, ← HS.out, ← set_left _ _ _ _ hkl.out]; exact HR.out.1.setAt _ _, HR.out.2.trans ⟨rfl, rfl, rfl, by simp [World.setCell], fun i _ hi => Below.heap_setCell _ _ _ _ (fun e => hi (by rw [e]))⟩⟩
      case measure => simp only [intOf]; omega
    · obtain rfl : k = n := by omega
      have hall := HB.out.2.2
      rw [hall] at hown
      have HR := Lib.hid (And.intro hown hgr)
      clear hown hgr hall HW HL
      go_wp2
      go_ret
      exact ⟨rfl, HR.out.1, HR.out.2⟩
theorem clone_at (l : B) (g o cap : Nat) (w : World) (hs : SeenAt w g o l) (hl : l.length ≤ 140737488355328) (hne : 0 < l.length) :
    Calls Tryz.prog 177 #[.slice (some ⟨g, o, none⟩) l.length cap] w fun e w' => ∃ b cap' ext, e = .returned (.slice (some ⟨b, 0, none⟩) l.length cap') ∧ Blk w' b (bytesC l ++ ext) 5 ∧ w.heap.size ≤ b ∧ Below w.heap.size w w' := by
  refine (Tryz.bytes_Clone_at ⟨g, o, none⟩ l.length cap (natsOf l) w (by simp [natsOf]) hl (fun i hi => ?_)).mono ?_
  · rw [addr_plain, hs i l[i] (List.getElem?_eq_getElem hi)]
    simp [natsOf, hi]
  · rintro e w' ⟨v', rfl, hown, _, hb⟩
    rcases hown.2 with ⟨_, hz⟩ | ⟨b, cap', cur, rfl, hbb, hh, hc, hm, hsz, ht⟩
    · omega
    · refine ⟨b, cap', (cur.toList.drop l.length).toArray, rfl, ?_, hbb, hb⟩
      have e1 : (natsOf l).map (Value.int .u8) = bytesV l := by simp [natsOf, bytesV]
      rw [e1, Nat.mul_one] at ht
      have e2 : bytesC l ++ (cur.toList.drop l.length).toArray = cur := by
        unfold bytesC
        rw [← ht]
        simp
      rw [e2]
      exact hh
theorem seen_left {w : World} {b : Nat} {l : B} {ext : Array Value} {t : TypeId} (h : Blk w b (bytesC l ++ ext) t) : SeenAt w b 0 l := fun j c hc => by
  have hj := (List.getElem?_eq_some_iff.1 hc).1
  rw [Nat.zero_add, h.cell, Array.getElem?_append_left (by rw [bytesC_size]; exact hj), bytesC_get, hc]
  rfl
/-- Pieces of bytes, where a slice shows them. -/
def Datas (w : World) (ao : Option Addr) (ds : List B) : Prop := ∀ j d, ds[j]? = some d → ∃ g o h p cap, ao = some ⟨g, o, none⟩ ∧ g < w.heap.size ∧ w.cell? ⟨g, o + j, none⟩ = some (.slice (some ⟨h, p, none⟩) d.length cap) ∧ h < w.heap.size ∧ SeenAt w h p d
theorem Datas.below {w w' : World} {ao : Option Addr} {ds : List B} (h : Datas w ao ds) (hb : Below w.heap.size w w') : Datas w' ao ds := fun j d hd => by
  obtain ⟨g, o, h, p, cap, e, h1, h2, h3, h4⟩ := h j d hd
  exact ⟨g, o, h, p, cap, e, Nat.lt_of_lt_of_le h1 hb.size, (World.cell?_of_block (hb.block g h1)).trans h2, Nat.lt_of_lt_of_le h3 hb.size, h4.below h3 hb⟩
theorem areBlocks_any (ds : List B) (n : Int) (ao : Option Addr) (cap : Nat) (w : World) (hl : ds.length ≤ 1000000) (hs : Datas w ao ds) (h5 : ∀ d ∈ ds, d.length = 512) :
    Calls Tryz.prog 163 #[.slice ao ds.length cap, .int .i64 n] w fun e w' => e = .returned (.bool (decide ((ds.length : Int) = n))) ∧ w = w' := by
  have hR := Lib.hid hs
  clear hs
  go_enter Tryz.func163, Tryz.ntmps163
  go_wp2_with fail
  go_loopw [9] (fun iv wr => ∃ i : Nat, iv = .int .i64 i ∧ i ≤ ds.length ∧ wr = w) (fun iv _ => ds.length - (intOf iv).toNat)
  case atStart => exact ⟨0, rfl, Nat.zero_le _, rfl⟩
  case round =>
    obtain ⟨i, rfl, hi, rfl⟩ := hrel
    by_cases c : i < ds.length
    · obtain ⟨d, hd⟩ : ∃ d, ds[i]? = some d := ⟨_, List.getElem?_eq_getElem c⟩
      obtain ⟨g, o, h, p, cap, rfl, hg, hc, hh, hsd⟩ := hR.out i d hd
      have hd5 := h5 d (List.mem_of_getElem? hd)
      rw [hd5] at hc
      have hci : (i : Int) < (ds.length : Int) := by omega
      clear hsd hR
      go_wp2_with fail
      go_roundw
      case rel => exact ⟨i + 1, rfl, by omega, trivial⟩
      case measure => simp only [intOf]; omega
    · obtain rfl : i = ds.length := by omega
      have hci : ¬ (ds.length : Int) < (ds.length : Int) := by omega
      go_wp2_with fail
      go_ret
      exact ⟨rfl, rfl⟩
set_option maxRecDepth 100000 in
theorem sumOf_any (l : B) (ds : List B) (g o c : Nat) (ao : Option Addr) (cap : Nat) (w : World) (hll : l.length = 512) (hsl : SeenAt w g o l) (hw : KVars w) (hl : ds.length ≤ 1000000) (hs : Datas w ao ds) (h5 : ∀ d ∈ ds, d.length = 512) :
    Calls Tryz.prog 164 #[.slice (some ⟨g, o, none⟩) 512 c, .slice ao ds.length cap] w fun e w' => e = .returned (.int .u32 (crc (lay l 12 (low 4 0) ++ ds.flatten))) ∧ Below w.heap.size w w' := by
  have HC := clone_at l g o c w hsl (by omega) (by omega)
  rw [hll] at HC
  have hR := Lib.hid hs
  have hlen : (lay l 12 (low 4 0)).length = 512 := by rw [lay_len (by rw [low_len]; omega), hll]
  obtain ⟨h, hX⟩ : ∃ h, lay l 12 (low 4 0) = h := ⟨_, rfl⟩
  rw [hX] at hlen ⊢
  have hX := Lib.hid hX
  have hlen := Lib.hid hlen
  have hll := Lib.hid hll
  have hK := Lib.hid hw
  clear hs hsl hw
  go_enter Tryz.func164, Tryz.ntmps164
  go_wp2_with (go_at_call 177; refine HC.mono ?_; clear HC; rintro e w1 ⟨b, cap', ext, rfl, hb, hbb, hb1⟩)
  have hll := hll.out
  have HP := put_ext l ext b cap' 12 4 0 _ w1 (.inr (.inr rfl)) (by omega) (hK.out.below hb1) hb (by omega) (by omega)
  rw [hll, hX.out] at HP
  clear hb
  refine HP.mono ?_
  clear HP
  rintro e w2 ⟨rfl, hb, hg2⟩
  have hb2 : Below w.heap.size w w2 := hb1.trans ⟨hg2.os, hg2.tape, hg2.output, hg2.size, fun k hk => hg2.block k (Nat.lt_of_lt_of_le hk hb1.size) (fun e => by cases e; omega)⟩
  have HO := of_at h b 0 cap' w2 (by rw [hlen.out]; omega) (seen_left hb) (hK.out.below hb2)
  rw [hlen.out] at HO
  clear hb hg2
  go_wp2_with (go_at_call 131; refine HO.mono ?_; clear HO; rintro e w3 ⟨rfl, rfl⟩)
  go_loopw [17, 6] (fun iv sv wr => ∃ i : Nat, iv = .int .i64 i ∧ sv = .int .u32 (crc (h ++ (ds.take i).flatten)) ∧ i ≤ ds.length ∧ Below w.heap.size w wr) (fun iv _ _ => ds.length - (intOf iv).toNat)
  case atStart => exact ⟨0, rfl, by simp, Nat.zero_le _, hb2⟩
  case round =>
    obtain ⟨i, rfl, rfl, hi, hbw⟩ := hrel
    by_cases c : i < ds.length
    · obtain ⟨d, hd⟩ : ∃ d, ds[i]? = some d := ⟨_, List.getElem?_eq_getElem c⟩
      obtain ⟨g', o', h', p', cap'', rfl, hg', hc, hh, hsd⟩ := (hR.out.below hbw) i d hd
      have hd5 := h5 d (List.mem_of_getElem? hd)
      have hci : (i : Int) < (ds.length : Int) := by omega
      have hK' := hK.out.below hbw
      have HO := of_at d h' p' cap'' wr (by omega) hsd hK'
      have HJ := join_any (h ++ (ds.take i).flatten) d wr (by omega) hK'
      have HE := Lib.hid (show crc (h ++ (ds.take (i + 1)).flatten) = crc (h ++ (ds.take i).flatten ++ d) by
        rw [List.take_add_one, hd, List.flatten_append]; simp)
      rw [hd5] at hc HO HJ
      clear hsd hg' hh hd hd5 hR hK' hlen
      generalize crc (h ++ (ds.take i).flatten) = s at *
      generalize crc d = t at *
      generalize crc (h ++ (ds.take i).flatten ++ d) = s' at *
      go_wp2_with (first | (go_at_call 131; refine HO.mono ?_; clear HO; rintro e w3 ⟨rfl, rfl⟩) | (go_at_call 178; refine HJ.mono ?_; clear HJ; rintro e w4 ⟨rfl, hb4⟩))
      go_roundw
      case rel => exact ⟨i + 1, rfl, by rw [HE.out], by omega, hbw.trans ⟨hb4.os, hb4.tape, hb4.output, hb4.size, fun k hk => hb4.block k (Nat.lt_of_lt_of_le hk hbw.size)⟩⟩
      case measure => simp only [intOf]; omega
    · obtain rfl : i = ds.length := by omega
      have hci : ¬ (ds.length : Int) < (ds.length : Int) := by omega
      rw [List.take_length]
      go_wp2_with fail
      go_ret
      exact ⟨rfl, hbw⟩
end Ck
end Go.Proofs.YtegplehbcdeeoaaGreatDoor
/- The log's header, read. -/
namespace Go.Proofs.YtegplehbcdeeoaaGreatDoor
open Go.RowKit

namespace Ck
open Pk Pw
def magicL : B := [66, 79, 76, 69, 76, 79, 71, 49]
/-- The numbers that stand in a header. -/
def numsOf (h : B) (k : Nat) : List Nat := (List.range k).map fun i => val (sub h (16 + 4 * i) 4)
/-- A header's numbers. -/
def headNums (n : Int) (h : B) : Option (List Nat) :=
  if allZero h then some [] else
  let k := val (sub h 8 2)
  if sub h 0 8 = magicL ∧ k ≤ 96 ∧ allZero (sub h 10 2) = true ∧ allZero (sub h (16 + 4 * k) (512 - (16 + 4 * k))) = true ∧ mayN n (numsOf h k) = true then some (numsOf h k) else none
theorem numsOf_succ (h : B) (k : Nat) : numsOf h (k + 1) = numsOf h k ++ [val (sub h (16 + 4 * k) 4)] := by unfold numsOf; rw [List.range_succ, List.map_append]; rfl
theorem numsOf_len (h : B) (k : Nat) : (numsOf h k).length = k := by simp [numsOf]
theorem string_at {w : World} {g o cap : Nat} {l : B} (h : SeenAt w g o l) : (convert 24 9 (.slice (some ⟨g, o, none⟩) l.length cap)).run Tryz.prog w = .ok (.string (mk l)) w :=
  run_convert_bytes_back w _ _ 5 ⟨g, o, none⟩ cap l Tryz.underlying24 Tryz.underlying5 Tryz.underlying9 (fun j hj => by
    rw [addr_plain, h j l[j] (List.getElem?_eq_getElem hj)])
theorem info_int : (Tryz.prog.info? 3).map (fun i => (i.zero, i.size, i.bytes)) = some (some (.int .i64 0), 1, 8) := by kernel_rfl
theorem mk_list (l : B) : (mk l).toList = l := toList_bs (mk l)
theorem cell_one_new (w : World) (c : Value) (ty : TypeId) : ∀ j u, [c][j]? = some u → (w.alloc (.cells #[c] ty)).cell? ((⟨w.heap.size, 0, none⟩ : Addr).add j) = some u := news_new w [c] ty
theorem own_ge {w : World} {base : Nat} {e : TypeId} {v : Value} {n g : Nat} {xs : List Value} (h : w.ownsRow base e 1 v n xs) (hv : v.ownBlock = some g) : base ≤ g := by
  rcases h.2 with ⟨rfl, _⟩ | ⟨g', cap, cur, rfl, hb, _⟩
  · cases hv
  · cases hv; exact hb
theorem below_grown {w wr w2 : World} {base : Nat} {e : TypeId} {v : Value} {n : Nat} {xs : List Value} (hb : Below base w wr) (hbase : base ≤ w.heap.size) (hown : wr.ownsRow base e 1 v n xs) (hg : wr.grownBy w2 v.ownBlock) : Below base w w2 :=
  ⟨hg.os.trans hb.os, hg.tape.trans hb.tape, hg.output.trans hb.output, Nat.le_trans hb.size hg.size, fun k hk => (hg.block k (by have := hb.size; omega) (fun e => by have := own_ge hown e.symm; omega)).trans (hb.block k hk)⟩
theorem numsV_app (l : List Nat) (x : Nat) : numsV (l ++ [x]) = numsV l ++ [.int .i64 x] := by simp [numsV]
theorem one_int (x : Int) : ∀ v ∈ [Value.int .i64 x], v.oneCell' = true := by simp [Value.oneCell']
theorem own_same {W W' : World} {base : Nat} {e : TypeId} {size : Nat} {v : Value} {n : Nat} {xs : List Value} (h : W.ownsRow base e size v n xs) (hg : ∀ g, v.ownBlock = some g → W'.heap[g]? = W.heap[g]?) : W'.ownsRow base e size v n xs := by
  obtain ⟨h1, h2⟩ := h
  refine ⟨h1, ?_⟩
  rcases h2 with h2 | ⟨g, cap, cur, hv, hg', hh, r⟩
  · exact .inl h2
  · exact .inr ⟨g, cap, cur, hv, hg', by rw [hg g (by rw [hv]; rfl)]; exact hh, r⟩
theorem own_below {W W' : World} {base : Nat} {e : TypeId} {size : Nat} {v : Value} {n : Nat} {xs : List Value} (h : W.ownsRow base e size v n xs) (hb : Below W.heap.size W W') : W'.ownsRow base e size v n xs :=
  own_same h fun g hg => hb.block g (h.lt g hg).2
theorem own_base {w : World} {base base' : Nat} {e : TypeId} {size : Nat} {v : Value} {n : Nat} {xs : List Value} (h : w.ownsRow base e size v n xs) (hb : base' ≤ base) : w.ownsRow base' e size v n xs := by
  obtain ⟨h1, h2⟩ := h
  refine ⟨h1, ?_⟩
  rcases h2 with h2 | ⟨g, cap, cur, hv, hg, r⟩
  · exact .inl h2
  · exact .inr ⟨g, cap, cur, hv, Nat.le_trans hb hg, r⟩
def NumsP (n : Int) (h : B) (w : World) (e : Ending) (w' : World) : Prop :=
  Below w.heap.size w w' ∧ match headNums n h with
  | some l => ∃ v, e = .returned (.tuple #[v, .int .i64 0]) ∧ w'.ownsRow w.heap.size 3 1 v l.length (numsV l)
  | none => e = .returned (.tuple #[.slice none 0 0, .int .i64 41])
set_option maxRecDepth 100000 in
set_option maxHeartbeats 1000000 in
theorem nums_any (l : B) (n : Int) (g o cap : Nat) (w : World) (hl : l.length = 512) (hs : SeenAt w g o l) (hcap : 512 ≤ cap ∧ cap ≤ 9223372036854775807) (hw : KVars w) (hg : g < w.heap.size) :
    Calls Tryz.prog 134 #[.slice (some ⟨g, o, none⟩) 512 cap, .int .i64 n] w fun e w' => NumsP n l w e w' := by
  have HZ := zero_at l g o cap 0 512 w hs (by omega) (by omega) (by omega)
  have HG := get_at l g o cap 8 2 w (.inr (.inl rfl)) hw hs (by omega) (by omega)
  have hcv := string_at (cap := cap) (hs.part 0 8)
  rw [sub_len (by omega), Nat.add_zero] at hcv
  have h0 : sub l 0 512 = l := by rw [← hl]; exact sub_all l
  rw [hl, h0] at HZ
  rw [hl] at HG
  have hK := Lib.hid hw
  have hS := Lib.hid hs
  clear hs hw
  by_cases c : allZero l = true
  · rw [c] at HZ
    have HN := Lib.hid (show headNums n l = some [] by unfold headNums; rw [if_pos c])
    clear c h0 hl HG hcv
    go_enter Tryz.func134, Tryz.ntmps134
    go_wp2_with (go_at_call 104; refine HZ.mono ?_; clear HZ; rintro e w1 ⟨rfl, rfl⟩)
    go_ret2
    unfold NumsP
    rw [HN.out]
    exact ⟨Below.refl _ _, _, rfl, World.ownsRow_nil _ _ _ _⟩
  · have c' : allZero l = false := by simpa using c
    rw [c'] at HZ
    have hmk : (mk (sub l 0 8)).toList = [66, 79, 76, 69, 76, 79, 71, 49] ↔ sub l 0 8 = magicL := by rw [mk_list]; exact Iff.rfl
    by_cases k1 : sub l 0 8 = magicL ∧ val (sub l 8 2) ≤ 96
    · obtain ⟨i0, hi, hz0, hz1, hz2⟩ := info_parts info_int
      have k2 := hmk.2 k1.1
      have k3 : (val (sub l 8 2) : Int) ≤ 96 := by omega
      obtain ⟨kk, hkk⟩ : ∃ kk, val (sub l 8 2) = kk := ⟨_, rfl⟩
      rw [hkk] at HG k3
      have hl := Lib.hid hl
      have HX := Lib.hid (And.intro c (And.intro k1 hkk))
      clear c c' h0 k1 hmk hkk
      obtain ⟨m8, hm8⟩ : ∃ m8, sub l 0 8 = m8 := ⟨_, rfl⟩
      rw [hm8] at hcv k2
      clear hm8
      go_enter Tryz.func134, Tryz.ntmps134
      go_wp2_with (first | (go_at_call 104; refine HZ.mono ?_; clear HZ; rintro e w1 ⟨rfl, rfl⟩) | (go_at_call 92; refine HG.mono ?_; clear HG; rintro e w1 ⟨rfl, rfl⟩))
      go_loopw [43, 10] (fun iv v wr => ∃ i : Nat, iv = .int .i64 i ∧ i ≤ kk ∧ wr.ownsRow w.heap.size 3 1 v i (numsV (numsOf l i)) ∧ Below w.heap.size w wr) (fun iv _ _ => kk - (intOf iv).toNat)
      case atStart => exact ⟨0, rfl, Nat.zero_le _, World.ownsRow_nil _ _ _ _, Below.refl _ _⟩
      case round =>
        obtain ⟨i, rfl, hik, hown, hbw⟩ := hrel
        by_cases d : i < kk
        · have hci : (i : Int) < (kk : Int) := by omega
          have HG2 := get_at l g o cap (16 + 4 * i) 4 wr (.inr (.inr rfl)) (hK.out.below hbw) (hS.out.below hg hbw) (by have := hl.out; omega) (by have := hl.out; omega)
          rw [hl.out, show ((16 + 4 * i : Nat) : Int) = 16 + 4 * (i : Int) by omega] at HG2
          have hx : val (sub l (16 + 4 * i) 4) < 4294967296 := by have := val_lt (sub l (16 + 4 * i) 4); rw [sub_len (by have := hl.out; omega)] at this; exact this
          have hE := Lib.hid (numsOf_succ l i)
          generalize val (sub l (16 + 4 * i) 4) = x at *
          have hx' : (x : Int) < 4294967296 := by omega
          have hsz := hbw.size
          have hOa := hown.alloc (.cells #[.int .i64 x] 3)
          go_wp2_with (first | (go_at_call 92; refine HG2.mono ?_; clear HG2; rintro e w1 ⟨rfl, rfl⟩) | (at_builtin; go_must (refine wpList_append_own_at _ rfl (.tmp 54) (.tmp 57) 90 rfl w.heap.size 3 i0 (.int .i64 0) 1 8 Tryz.underlying90 hi hz0 hz1 hz2 rfl (by decide) u10 i (numsV (numsOf l i)) rfl hOa ⟨wr.heap.size, 0, none⟩ 1 1 [.int .i64 x] rfl rfl (cell_one_new _ _ _) (one_int x) (by unfold maxLen; omega) (by omega) (by simp; omega) ?_); intro v2 w2 hown2 hg2 _ hloc))
          go_roundw
          case rel =>
            refine ⟨i + 1, rfl, by omega, by rw [hE.out, numsV_app]; exact hown2, below_grown hbw (Nat.le_refl _) hown ((World.grownBy_alloc wr _ _).trans hg2)⟩
          case measure => simp only [intOf]; omega
        · obtain rfl : i = kk := by omega
          have hci : ¬ (i : Int) < (i : Int) := by omega
          obtain ⟨ao, cap', rfl, hcc, hrow⟩ := Row.of_own hown
          have hnl : (numsV (numsOf l i)).length = i := by rw [numsV_len, numsOf_len]
          rw [hnl] at hcc hown ⊢
          have hK' := hK.out.below hbw
          have hS' := hS.out.below hg hbw
          have HZ1 := zero_at l g o cap 10 2 wr hS' (by have := hl.out; omega) (by have := hl.out; omega) (by have := hl.out; omega)
          have HZ2 := zero_at l g o cap (16 + 4 * i) (512 - (16 + 4 * i)) wr hS' (by have := hl.out; omega) (by have := hl.out; omega) (by have := hl.out; omega)
          have HM := may_any (numsOf l i) n ao cap' wr (by rw [numsOf_len]; omega) hrow
          rw [hl.out] at HZ1 HZ2
          rw [show ((16 + 4 * i : Nat) : Int) = 16 + 4 * (i : Int) by omega, show ((512 - (16 + 4 * i) : Nat) : Int) = 512 - (16 + 4 * (i : Int)) by omega] at HZ2
          rw [numsOf_len] at HM
          obtain ⟨q1, q2, q3⟩ := HX.out
          have HN : headNums n l = if allZero (sub l 10 2) && allZero (sub l (16 + 4 * i) (512 - (16 + 4 * i))) && mayN n (numsOf l i) then some (numsOf l i) else none := by
            unfold headNums
            rw [if_neg q1]
            dsimp only
            rw [q3]
            by_cases y : (allZero (sub l 10 2) && allZero (sub l (16 + 4 * i) (512 - (16 + 4 * i))) && mayN n (numsOf l i)) = true
            · rw [if_pos y]
              simp only [Bool.and_eq_true] at y
              rw [if_pos ⟨q2.1, by omega, y.1.1, y.1.2, y.2⟩]
            · rw [if_neg y]
              simp only [Bool.and_eq_true] at y
              rw [if_neg (fun h => y ⟨⟨h.2.2.1, h.2.2.2.1⟩, h.2.2.2.2⟩)]
          have HO := Lib.hid (And.intro hown hbw)
          have hnl2 := numsOf_len l i
          generalize allZero (sub l 10 2) = z1 at *
          generalize allZero (sub l (16 + 4 * i) (512 - (16 + 4 * i))) = z2 at *
          generalize mayN n (numsOf l i) = m at *
          generalize numsOf l i = nums at *
          have HN := Lib.hid HN
          have hnl2 := Lib.hid hnl2
          clear hown hbw q1 q2 q3 hK' hS' hrow hnl HX
          cases z1
          · go_wp2_with (first | (go_at_call 104; refine HZ1.mono ?_; clear HZ1; rintro e w1 ⟨rfl, rfl⟩) | (go_at_call 104; refine HZ2.mono ?_; clear HZ2; rintro e w1 ⟨rfl, rfl⟩))
            go_ret2
            unfold NumsP
            rw [HN.out]
            exact ⟨HO.out.2, rfl⟩
          · cases z2
            · go_wp2_with (first | (go_at_call 104; refine HZ1.mono ?_; clear HZ1; rintro e w1 ⟨rfl, rfl⟩) | (go_at_call 104; refine HZ2.mono ?_; clear HZ2; rintro e w1 ⟨rfl, rfl⟩))
              go_ret2
              unfold NumsP
              rw [HN.out]
              exact ⟨HO.out.2, rfl⟩
            · cases m
              · go_wp2_with (first | (go_at_call 104; refine HZ1.mono ?_; clear HZ1; rintro e w1 ⟨rfl, rfl⟩) | (go_at_call 104; refine HZ2.mono ?_; clear HZ2; rintro e w1 ⟨rfl, rfl⟩) | (go_at_call 162; refine HM.mono ?_; clear HM; rintro e w2 ⟨rfl, hbm⟩))
                go_ret2
                unfold NumsP
                rw [HN.out]
                exact ⟨HO.out.2.trans (hbm.mono HO.out.2.size), rfl⟩
              · go_wp2_with (first | (go_at_call 104; refine HZ1.mono ?_; clear HZ1; rintro e w1 ⟨rfl, rfl⟩) | (go_at_call 104; refine HZ2.mono ?_; clear HZ2; rintro e w1 ⟨rfl, rfl⟩) | (go_at_call 162; refine HM.mono ?_; clear HM; rintro e w2 ⟨rfl, hbm⟩))
                go_ret2
                unfold NumsP
                rw [HN.out]
                refine ⟨HO.out.2.trans (hbm.mono HO.out.2.size), .slice ao i cap', rfl, ?_⟩
                rw [hnl2.out]
                exact own_below HO.out.1 hbm
    · have HN := Lib.hid (show headNums n l = none by unfold headNums; rw [if_neg c]; dsimp only; rw [if_neg (fun h => k1 ⟨h.1, h.2.1⟩)])
      rw [← hmk] at k1
      clear c c' h0 hl hmk
      generalize sub l 0 8 = m8 at *
      generalize val (sub l 8 2) = kk at *
      by_cases k2 : (mk m8).toList = [66, 79, 76, 69, 76, 79, 71, 49]
      · have k3 : ¬ (kk : Int) ≤ 96 := by intro h; exact k1 ⟨k2, by omega⟩
        clear k1
        go_enter Tryz.func134, Tryz.ntmps134
        go_wp2_with (first | (go_at_call 104; refine HZ.mono ?_; clear HZ; rintro e w1 ⟨rfl, rfl⟩) | (go_at_call 92; refine HG.mono ?_; clear HG; rintro e w1 ⟨rfl, rfl⟩))
        go_ret2
        unfold NumsP
        rw [HN.out]
        exact ⟨Below.refl _ _, rfl⟩
      · clear k1
        go_enter Tryz.func134, Tryz.ntmps134
        go_wp2_with (first | (go_at_call 104; refine HZ.mono ?_; clear HZ; rintro e w1 ⟨rfl, rfl⟩) | (go_at_call 92; refine HG.mono ?_; clear HG; rintro e w1 ⟨rfl, rfl⟩))
        go_ret2
        unfold NumsP
        rw [HN.out]
        exact ⟨Below.refl _ _, rfl⟩
end Ck
end Go.Proofs.YtegplehbcdeeoaaGreatDoor
/- The log's header: is it that of these blocks? -/
namespace Go.Proofs.YtegplehbcdeeoaaGreatDoor
open Go.RowKit

namespace Ck
open Pk Pw
theorem empty_any (w : World) : Calls Tryz.prog 101 #[] w fun e w' => e = .returned (.slice (some ⟨w.heap.size, 0, none⟩) 512 512) ∧ w' = w.alloc (.cells (bytesC zs512) 5) := by
  have HM := make512 w
  go_enter Tryz.func101, Tryz.ntmps101
  go_wp2_with (refine wpList_make_run _ rfl 24 (.const (.int .i64 512)) (.const (.int .i64 512)) rfl _ _ HM ?_)
  go_ret
  exact ⟨rfl, rfl⟩
/-- The sum fits. -/
def headFits (h : B) (ds : List B) : Bool := decide (val (sub h 12 4) = crc (lay h 12 (low 4 0) ++ ds.flatten))
set_option maxRecDepth 100000 in
theorem good_any (l : B) (ds : List B) (nums : List Nat) (n : Int) (g o c : Nat) (ao : Option Addr) (cap : Nat) (w : World) (hll : l.length = 512) (hsl : SeenAt w g o l) (hg : g < w.heap.size) (hcap : 512 ≤ c ∧ c ≤ 9223372036854775807) (hw : KVars w)
    (hn : headNums n l = some nums) (hne : nums ≠ []) (hds : ds.length = nums.length) (hs : Datas w ao ds) (h5 : ∀ d ∈ ds, d.length = 512) :
    Calls Tryz.prog 135 #[.slice (some ⟨g, o, none⟩) 512 c, .int .i64 n, .slice ao ds.length cap] w fun e w' => e = .returned (.bool (headFits l ds)) ∧ Below w.heap.size w w' := by
  have hle : nums.length ≤ 96 := by
    unfold headNums at hn
    dsimp only at hn
    split at hn
    · cases hn; exact Nat.zero_le _
    · split at hn
      · rename_i h
        cases hn
        rw [numsOf_len]; exact h.2.1
      · cases hn
  have h1 : ¬ ((nums.length : Int) == 0) = true := by
    have : nums.length ≠ 0 := fun h => hne (List.eq_nil_of_length_eq_zero h)
    simp; omega
  have h1' : ((nums.length : Int) == 0) = false := by simpa using h1
  have HN := nums_any l n g o c w hll hsl hcap hw hg
  have hS := Lib.hid hsl
  have hK := Lib.hid hw
  have hD := Lib.hid hs
  have hn := Lib.hid hn
  obtain ⟨b, hb⟩ : ∃ b, headFits l ds = b := ⟨_, rfl⟩
  rw [hb]
  have hb := Lib.hid hb
  have hll := Lib.hid hll
  clear hsl hw hs h1 hne
  go_enter Tryz.func135, Tryz.ntmps135
  go_wp2_with fail
  refine HN.mono ?_
  clear HN
  rintro e w1 ⟨hb1, hm⟩
  rw [hn.out] at hm
  obtain ⟨v, rfl, hown⟩ := hm
  obtain ⟨ao', cap', rfl, hcc, hrow⟩ := Row.of_own hown
  rw [numsV_len]
  have HA := areBlocks_any ds nums.length ao cap w1 (by omega) (hD.out.below hb1) h5
  have hdd : decide ((ds.length : Int) = nums.length) = true := decide_eq_true (by omega)
  rw [hdd] at HA
  have HG := get_at l g o c 12 4 w1 (.inr (.inr rfl)) (hK.out.below hb1) (hS.out.below hg hb1) (by have := hll.out; omega) (by have := hll.out; omega)
  have HS := sumOf_any l ds g o c ao cap w1 hll.out (hS.out.below hg hb1) (hK.out.below hb1) (by omega) (hD.out.below hb1) h5
  rw [hll.out] at HG
  have hv : val (sub l 12 4) < 4294967296 := by have := val_lt (sub l 12 4); rw [sub_len (by have := hll.out; omega)] at this; exact this
  have hcr := crc_lt (lay l 12 (low 4 0) ++ ds.flatten)
  have hbb := hb.out
  unfold headFits at hbb
  generalize val (sub l 12 4) = x at *
  generalize crc (lay l 12 (low 4 0) ++ ds.flatten) = y at *
  have hv' : (x : Int) < 4294967296 := by omega
  have hbe : ((x : Int) == (y : Int)) = b := by
    rw [← hbb]
    by_cases q : x = y
    · simp [q]
    · have : ¬ (x : Int) = y := by omega
      simp [q, this]
  have HB := Lib.hid hb1
  clear hbb hown hrow hcc hdd hb1 hb hcr hds
  go_wp2_with (first | (go_at_call 163; refine HA.mono ?_; clear HA; rintro e w2 ⟨rfl, rfl⟩) | (go_at_call 92; refine HG.mono ?_; clear HG; rintro e w2 ⟨rfl, rfl⟩) | (go_at_call 164; refine HS.mono ?_; clear HS; rintro e w3 ⟨rfl, hb3⟩))
  go_ret
  exact ⟨by simp, HB.out.trans (hb3.mono HB.out.size)⟩
end Ck
end Go.Proofs.YtegplehbcdeeoaaGreatDoor
