/- A law: a drawn region of a deferred closure that recovers: each of its orders is walked in turn. No program in sight. -/
import Derived.Recover
import Derived.Orders
import Derived.Tactics
import Derived.Test.YtegplehbcdeeoaaGreatDoorChkB08
import Derived.Defers
namespace Go.Proofs.YtegplehbcdeeoaaGreatDoor
open Go

namespace Dr
variable {P : Program} {ops : Array Oper} {Q : Exit → Act → List Frame → World → Prop} {a : Act} {cs : List Frame} {w : World}
/-- All orders that a region may come up with. -/
def allOrders (md : Region.Mode) (ops : Array Oper) : Nat → Array Bool → List (List Nat)
  | 0, _ => [[]]
  | fuel + 1, listed => match Region.ready md ops listed with
    | [] => [[]]
    | i :: r => (i :: r).flatMap fun j => (allOrders md ops fuel (listed.setIfInBounds j true)).map (j :: ·)
theorem linearise_mem (md : Region.Mode) (ops : Array Oper) : ∀ (fuel t : Nat) (listed : Array Bool), Region.linearise.go md ops fuel t listed [] ∈ allOrders md ops fuel listed := by
  intro fuel
  induction fuel with
  | zero => intro t listed; simp [Region.linearise.go, allOrders]
  | succ fuel ih =>
    intro t listed
    simp only [Region.linearise.go]
    change (match (Region.ready md ops listed)[t % (Region.ready md ops listed).length]? with
      | some i => Region.linearise.go md ops fuel (t / (Region.ready md ops listed).length) (listed.setIfInBounds i true) [i]
      | none => [].reverse) ∈ _
    unfold allOrders
    cases hr : Region.ready md ops listed with
    | nil => simp
    | cons x xs =>
      have hlt : t % (x :: xs).length < (x :: xs).length := Nat.mod_lt _ (by simp)
      rw [List.getElem?_eq_getElem hlt]
      simp only []
      rw [linearise_go_acc, List.reverse_singleton, List.singleton_append]
      refine List.mem_flatMap.2 ⟨_, List.getElem_mem hlt, List.mem_map.2 ⟨_, ih _ _, rfl⟩⟩
theorem wpS_region_draw {id : Nat} (hm : P.follows .mixedOrders = true) (os : List (List Nat)) (ho : allOrders .any ops ops.size (Array.replicate ops.size false) = os) (h : ∀ o ∈ os, wpOpsS P ops Q o a cs { w with drawn := w.drawn + 1 }) :
    (Code.region id ops true).wpS P Q a cs w := by
  intro b k hb hr
  have hs : Region.schedule (P.follows .mixedOrders) ops (w.tape w.drawn (.order b.fn id)) ∈ os := by
    simp only [Region.schedule, hm, Bool.true_or, if_true]
    rw [← ho]
    exact linearise_mem .any ops ops.size _ _
  obtain ⟨e, a', cs', w', q, r⟩ := wp_opsS _ a cs _ (h _ hs) b k hb hr
  exact ⟨e, a', cs', w', q, .of_steps (.one step_region_draw) r⟩
theorem wpOps_list {Q : Exit → Act → World → Prop} : ∀ (o : List Nat) (l : List Oper), o.map (fun i => ops[i]?) = l.map some → wpOps P ops Q o = wpList P ops Q l
  | [], [], _ => by funext a w; simp [wpOps, wpList]
  | [], x :: l, e => by cases e
  | i :: o, [], e => by cases e
  | i :: o, x :: l, e => by
    simp only [List.map_cons, List.cons.injEq] at e
    have ih := wpOps_list (Q := Q) o l e.2
    have h0 := e.1
    funext a w
    simp only [wpOps, h0, wpList, ih]
/-- The operations of an order. -/
def pick (l : List Oper) : List Nat → List Oper
  | [] => []
  | i :: r => (l.drop i).take 1 ++ pick l r
theorem map_pick : ∀ (o : List Nat), (o.all fun i => decide (i < ops.size)) = true → o.map (fun i => ops[i]?) = (pick ops.toList o).map some
  | [], _ => rfl
  | i :: o, h => by
    rw [List.all_cons, Bool.and_eq_true] at h
    have hi : i < ops.size := of_decide_eq_true h.1
    have e : (ops.toList.drop i).take 1 = [ops[i]] := by
      rw [List.drop_eq_getElem_cons (by simpa using hi)]
      simp
    rw [List.map_cons, map_pick o h.2, pick, e]
    simp [hi]
/-- A drawn region, each of its orders walked in turn. -/
theorem wp_region_orders {Q : Exit → Act → World → Prop} {id : Nat} (hm : P.follows .mixedOrders = true) (os : List (List Nat)) (ho : allOrders .any ops ops.size (Array.replicate ops.size false) = os) (hl : (os.all fun o => o.all fun i => decide (i < ops.size)) = true)
    (h : ∀ o ∈ os, wpList P ops Q (pick ops.toList o) a w.drew) : (Code.region id ops true).wp P Q a w := by
  refine wp_region_draw fun t => ?_
  have hs : Region.schedule (P.follows .mixedOrders) ops t ∈ os := by
    simp only [Region.schedule, hm, Bool.true_or, if_true]
    rw [← ho]
    exact linearise_mem .any ops ops.size _ _
  rw [wpOps_list _ _ (map_pick _ (List.all_eq_true.1 hl _ hs))]
  exact h _ hs
end Dr
end Go.Proofs.YtegplehbcdeeoaaGreatDoor
/- The log, read: plain parts, small walks. -/
namespace Go.Proofs.YtegplehbcdeeoaaGreatDoor
open Go.RowKit

namespace Ck
open Pk Pw
/-- The log's blocks. -/
def dataOf (l : B) (k : Nat) : List B := (List.range k).map fun i => blk l (2 + i)
/-- The numbers of the log. -/
def logP (n : Nat) (l : B) : Option (List Nat) :=
  match headNums n (blk l 1) with
  | some nums => if nums = [] ∨ headFits (blk l 1) (dataOf l nums.length) = true then some nums else none
  | none => none
abbrev gaveW (x : Int) : List PanicEntry := [{ v := .iface 202 (.int .i64 x), recovered := false }]
theorem mustW_ok (x : Int) (w : World) : Calls Tryz.prog 132 #[.bool true, .int .i64 x] w fun e w' => e = .returned (.tuple #[]) ∧ w = w' := by
  go_enter Tryz.func132, Tryz.ntmps132
  go_wp2
  go_end0
  exact ⟨rfl, rfl⟩
theorem mustW_bad (x : Int) (w : World) : Calls Tryz.prog 132 #[.bool false, .int .i64 x] w fun e w' => e = .panicked (gaveW x) ∧ w = w' := by
  go_enter Tryz.func132, Tryz.ntmps132
  go_wp2
  exact ⟨rfl, rfl, rfl⟩
theorem readW_any {w : World} {d g n : Nat} {l : B} (h : DiskAt w d g n l) (i : Nat) (hi : i < n) : Calls Tryz.prog 100 #[.pointer (some ⟨d, 0, none⟩), .int .i64 i] w fun e w' =>
    e = .returned (.slice (some ⟨w.heap.size, 0, none⟩) 512 512) ∧ Blk w' w.heap.size (bytesC (blk l i)) 156 ∧ Below w.heap.size w w' := by
  have HR := read_any h i hi
  clear h
  go_enter Tryz.func100, Tryz.ntmps100
  go_wp2_with fail
  refine HR.mono ?_
  clear HR
  rintro e w1 ⟨rfl, hb, hb1⟩
  have HM := mustW_ok 0 w1
  have HB := Lib.hid (And.intro hb hb1)
  clear hb hb1
  go_wp2_with (go_at_call 132; refine HM.mono ?_; clear HM; rintro e w2 ⟨rfl, rfl⟩)
  go_ret
  exact ⟨rfl, HB.out⟩
/-- A slice of a whole block. -/
abbrev sl (g : Nat) : Value := .slice (some ⟨g, 0, none⟩) 512 512
/-- The cells of blocks and their numbers. -/
def rowsOf : List Nat → List Nat → List Value
  | n :: ns, g :: gs => .int .i64 n :: sl g :: rowsOf ns gs
  | _, _ => []
theorem rowsOf_app : ∀ {ns gs : List Nat} (_ : ns.length = gs.length) (n g : Nat), rowsOf (ns ++ [n]) (gs ++ [g]) = rowsOf ns gs ++ [.int .i64 n, sl g]
  | [], [], _, _, _ => rfl
  | a :: ns, b :: gs, h, n, g => by
    simp only [List.cons_append, rowsOf]
    rw [rowsOf_app (by simpa using h)]
/-- The log, while it is read. -/
structure HeldS (l : B) (base : Nat) (w : World) (v6 v7 : Value) (ns gs : List Nat) : Prop where
  own6 : w.ownsRow base 162 2 v6 gs.length (rowsOf ns gs)
  own7 : w.ownsRow base 24 1 v7 gs.length (gs.map sl)
  len : ns.length = gs.length
  dis : ∀ g, v6.ownBlock = some g → v7.ownBlock ≠ some g
  blks : ∀ j g, gs[j]? = some g → base ≤ g ∧ Blk w g (bytesC (blk l (2 + j))) 156 ∧ v6.ownBlock ≠ some g ∧ v7.ownBlock ≠ some g
theorem HeldS.below {l : B} {base : Nat} {w w' : World} {v6 v7 : Value} {ns gs : List Nat} (h : HeldS l base w v6 v7 ns gs) (hb : Below w.heap.size w w') : HeldS l base w' v6 v7 ns gs :=
  ⟨own_below h.own6 hb, own_below h.own7 hb, h.len, h.dis, fun j g hg => ⟨(h.blks j g hg).1, (h.blks j g hg).2.1.same (hb.block _ (h.blks j g hg).2.1.lt), (h.blks j g hg).2.2⟩⟩
theorem alloc_size (w : World) (o : Obj) : (w.alloc o).heap.size = w.heap.size + 1 := by unfold World.alloc; exact Array.size_push _
theorem alloc_at (w : World) (o : Obj) {g : Nat} (h : g < w.heap.size) : (w.alloc o).heap[g]? = w.heap[g]? := ((Below.refl _ _).alloc (Nat.le_refl _) _).block g h
/-- A block that neither append writes. -/
theorem two_grown {w w2 w3 : World} {o1 o2 : Obj} {a b : Option Nat} {g : Nat} (hg2 : (w.alloc o1).grownBy w2 a) (hg3 : (w2.alloc o2).grownBy w3 b) (hg : g < w.heap.size) (ha : a ≠ some g) (hb : b ≠ some g) : w3.heap[g]? = w.heap[g]? := by
  have h1 := hg2.size
  rw [alloc_size] at h1
  rw [hg3.block g (by rw [alloc_size]; omega) (fun e => hb e.symm), alloc_at _ _ (by omega), hg2.block g (by rw [alloc_size]; omega) (fun e => ha e.symm), alloc_at _ _ hg]
/-- Behind the first append, and a new block. -/
theorem HeldS.mid {l : B} {base : Nat} {w w2 : World} {v6 v7 : Value} {ns gs : List Nat} (h : HeldS l base w v6 v7 ns gs) (o1 o2 : Obj) (hg : (w.alloc o1).grownBy w2 v6.ownBlock) : (w2.alloc o2).ownsRow base 24 1 v7 gs.length (gs.map sl) :=
  own_same h.own7 fun g e => by
    have hlt := (h.own7.lt g e).2
    have h2 : w2.heap[g]? = w.heap[g]? := (hg.block g (by rw [alloc_size]; omega) (fun e' => h.dis g e'.symm e)).trans (alloc_at _ _ hlt)
    rw [← h2]
    exact alloc_at _ _ (by have := hg.size; rw [alloc_size] at this; omega)
theorem HeldS.step {l : B} {base : Nat} {w w2 w3 : World} {v6 v7 v6' v7' : Value} {ns gs : List Nat} (h : HeldS l base w v6 v7 ns gs) {o1 o2 : Obj} {n g : Nat} (hg2 : (w.alloc o1).grownBy w2 v6.ownBlock)
    (own6 : w2.ownsRow base 162 2 v6' (gs.length + 1) (rowsOf ns gs ++ [.int .i64 n, sl g])) (loc6 : v6'.ownBlock = v6.ownBlock ∨ v6'.ownBlock = some (w.alloc o1).heap.size)
    (hg3 : (w2.alloc o2).grownBy w3 v7.ownBlock) (own7 : w3.ownsRow base 24 1 v7' (gs.length + 1) (gs.map sl ++ [sl g])) (loc7 : v7'.ownBlock = v7.ownBlock ∨ v7'.ownBlock = some (w2.alloc o2).heap.size)
    (hb : base ≤ g) (hblk : Blk w g (bytesC (blk l (2 + gs.length))) 156) (n6 : v6.ownBlock ≠ some g) (n7 : v7.ownBlock ≠ some g) : HeldS l base w3 v6' v7' (ns ++ [n]) (gs ++ [g]) := by
  have s2 := hg2.size
  rw [alloc_size] at s2 loc6
  rw [alloc_size] at loc7
  have h7 : ∀ b, v7.ownBlock = some b → b < w.heap.size := fun b e => (h.own7.lt b e).2
  have h67 : ∀ b, v6'.ownBlock = some b → v7.ownBlock ≠ some b := by
    intro b e
    rcases loc6 with k | k
    · exact h.dis b (k ▸ e)
    · intro e7
      rw [k] at e
      cases e
      have := h7 _ e7
      omega
  have hfar : ∀ x, x < w.heap.size → v6.ownBlock ≠ some x → v6'.ownBlock ≠ some x := by
    intro x hx ne
    rcases loc6 with k | k
    · rw [k]; exact ne
    · rw [k]; intro e; cases e; omega
  have hfar7 : ∀ x, x < w.heap.size → v7.ownBlock ≠ some x → v7'.ownBlock ≠ some x := by
    intro x hx ne
    rcases loc7 with k | k
    · rw [k]; exact ne
    · rw [k]; intro e; cases e; omega
  refine ⟨?_, ?_, by simp [h.len], ?_, ?_⟩
  · rw [rowsOf_app h.len, List.length_append]
    refine own_same own6 fun b e => ?_
    have hb2 := (own6.lt b e).2
    rw [hg3.block b (by rw [alloc_size]; omega) (fun k => h67 b e k.symm), alloc_at _ _ hb2]
  · rw [List.map_append, List.length_append]
    exact own7
  · intro b e
    have hb2 := (own6.lt b e).2
    rcases loc7 with k | k
    · rw [k]; exact h67 b e
    · rw [k]; intro k2; cases k2; omega
  · intro j x hx
    rw [List.getElem?_append] at hx
    split at hx
    · rename_i hj
      obtain ⟨q1, q2, q3, q4⟩ := h.blks j x hx
      exact ⟨q1, q2.same (two_grown hg2 hg3 q2.lt q3 q4), hfar x q2.lt q3, hfar7 x q2.lt q4⟩
    · rename_i hj
      have hj0 : j = gs.length := by
        have := (List.getElem?_eq_some_iff.1 hx).1
        simp at this
        omega
      subst hj0
      simp only [Nat.sub_self, List.getElem?_cons_zero, Option.some.injEq] at hx
      subst hx
      exact ⟨hb, hblk.same (two_grown hg2 hg3 hblk.lt n6 n7), hfar _ hblk.lt n6, hfar7 _ hblk.lt n7⟩
end Ck
end Go.Proofs.YtegplehbcdeeoaaGreatDoor
/- The log, read. -/
namespace Go.Proofs.YtegplehbcdeeoaaGreatDoor
open Go.RowKit

namespace Ck
open Pk Pw
/-- What held comes to. -/
def HeldP (n : Nat) (l : B) (w : World) (e : Ending) (w' : World) : Prop :=
  Below w.heap.size w w' ∧ match logP n l with
  | some nums => ∃ v gs, e = .returned v ∧ w'.ownsRow w.heap.size 162 2 v gs.length (rowsOf nums gs) ∧ nums.length = gs.length ∧ ∀ j g, gs[j]? = some g → w.heap.size ≤ g ∧ Blk w' g (bytesC (blk l (2 + j))) 156
  | none => e = .panicked (gaveW 41)
theorem info_block : (Tryz.prog.info? 162).map (fun i => (i.zero, i.size, i.bytes)) = some (some (.agg #[.int .i64 0, .slice none 0 0]), 2, 32) := by kernel_rfl
theorem info_bss : (Tryz.prog.info? 24).map (fun i => (i.zero, i.size, i.bytes)) = some (some (.slice none 0 0), 1, 24) := by kernel_rfl
theorem nums_len {n : Int} {h : B} {nums : List Nat} (e : headNums n h = some nums) : nums.length ≤ 96 := by
  unfold headNums at e
  dsimp only at e
  split at e
  · cases e; exact Nat.zero_le _
  · split at e
    · rename_i k
      cases e
      rw [numsOf_len]; exact k.2.1
    · cases e
theorem dataOf_get (l : B) {k j : Nat} (h : j < k) : (dataOf l k)[j]? = some (blk l (2 + j)) := by
  unfold dataOf
  rw [List.getElem?_map, List.getElem?_range h]
  rfl
theorem dataOf_len (l : B) (k : Nat) : (dataOf l k).length = k := by simp [dataOf]
theorem dataOf_512 {l : B} {n k : Nat} (hl : l.length = 512 * n) (hk : 2 + k ≤ n) : ∀ x ∈ dataOf l k, x.length = 512 := by
  intro x hx
  unfold dataOf at hx
  rw [List.mem_map] at hx
  obtain ⟨i, hi, rfl⟩ := hx
  rw [List.mem_range] at hi
  exact sub_len (by omega)
theorem HeldS.datas {l : B} {n base : Nat} {w : World} {v6 : Value} {ao : Option Addr} {cap : Nat} {ns gs : List Nat} (h : HeldS l base w v6 (.slice ao gs.length cap) ns gs) (hl : l.length = 512 * n) (hk : 2 + gs.length ≤ n) : Datas w ao (dataOf l gs.length) := by
  intro j d hd
  have hj : j < gs.length := by have := (List.getElem?_eq_some_iff.1 hd).1; rw [dataOf_len] at this; exact this
  rw [dataOf_get l hj] at hd
  cases hd
  obtain ⟨x, hx⟩ : ∃ x, gs[j]? = some x := ⟨_, List.getElem?_eq_getElem hj⟩
  obtain ⟨q1, q2, _⟩ := h.blks j x hx
  obtain ⟨ao', cap', e, _, hrow⟩ := Row.of_own h.own7
  simp only [Value.slice.injEq] at e
  obtain ⟨rfl, _, rfl⟩ := e
  obtain ⟨g, o, rfl, h1, h2⟩ := hrow j (sl x) (by rw [List.getElem?_map, hx]; rfl)
  refine ⟨g, o, x, 0, 512, rfl, h1, ?_, q2.lt, SeenAt.of_blk q2⟩
  rw [h2, show (blk l (2 + j)).length = 512 from sub_len (by omega)]
set_option maxRecDepth 100000 in
set_option maxHeartbeats 1000000 in
theorem held_any {w : World} {d g n : Nat} {l : B} (h : DiskAt w d g n l) (h1 : 128 ≤ n) (h2 : n ≤ 16384) (hw : KVars w) : Calls Tryz.prog 98 #[.pointer (some ⟨d, 0, none⟩)] w fun e w' => HeldP n l w e w' := by
  have HD := down_any h
  have HB := blocks_any h
  have HR := readW_any h 1 (by omega)
  have hlen : (blk l 1).length = 512 := sub_len (by have := h.len; omega)
  have hge : (98 : Int) ≤ n := by omega
  have hD := Lib.hid h
  have hK := Lib.hid hw
  have hlen := Lib.hid hlen
  clear h hw
  go_enter Tryz.func98, Tryz.ntmps98
  go_wp2_with (first | (go_at_call 133; refine HD.mono ?_; rintro e w1 ⟨rfl, rfl⟩) | (go_at_call 99; refine HB.mono ?_; rintro e w1 ⟨rfl, rfl⟩) | (go_at_call 132; refine (mustW_ok _ _).mono ?_; rintro e w1 ⟨rfl, rfl⟩))
  refine HR.mono ?_
  clear HR HB HD
  rintro e w1 ⟨rfl, hb, hb1⟩
  have hD1 := Lib.hid (hD.out.below hb1)
  have hK1 := Lib.hid (hK.out.below hb1)
  have HB := blocks_any hD1.out
  have HN := nums_any (blk l 1) n w.heap.size 0 512 w1 hlen.out (SeenAt.of_blk hb) (by omega) hK1.out hb.lt
  have hbh := Lib.hid hb
  have hbb := Lib.hid hb1
  clear hb hb1
  go_wp2_with (go_at_call 99; refine HB.mono ?_; clear HB; rintro e w2 ⟨rfl, rfl⟩)
  refine HN.mono ?_
  clear HN
  rintro e w2 ⟨hb2, hm⟩
  cases hn : headNums n (blk l 1) with
  | none =>
    rw [hn] at hm
    obtain rfl := hm
    have hp : logP n l = none := by unfold logP; rw [hn]
    have HM := mustW_bad 41 w2
    have hbe := Lib.hid (hbb.out.trans (hb2.mono hbb.out.size))
    clear hb2 hn
    go_wp2_with (go_at_call 132; refine HM.mono ?_; clear HM; rintro e w3 ⟨rfl, rfl⟩)
    exact ⟨rfl, by unfold HeldP; rw [hp]; exact ⟨hbe.out, rfl⟩⟩
  | some nums =>
    rw [hn] at hm
    obtain ⟨v, rfl, hown⟩ := hm
    have hnl := nums_len hn
    obtain ⟨ao, cap, rfl, hcc, hrow⟩ := Row.of_own hown
    have hnv := numsV_len nums
    rw [hnv] at hcc
    rw [hnv]
    have hD2 := Lib.hid (hD1.out.below hb2)
    have hK2 := Lib.hid (hK1.out.below hb2)
    have hB2 := Lib.hid (hbb.out.trans (hb2.mono hbb.out.size))
    have hbh2 := Lib.hid (Blk.same hbh.out (hb2.block _ hbh.out.lt))
    have hR2 := Lib.hid hrow
    have hn := Lib.hid hn
    have hwl : w.heap.size < w2.heap.size := hbh2.out.lt
    obtain ⟨i0, hi, hz0, hz1, hz2⟩ := info_parts info_block
    obtain ⟨j0, hj, hy0, hy1, hy2⟩ := info_parts info_bss
    clear hown hrow hb2 hnv
    go_wp2_with (go_at_call 132; refine (mustW_ok _ _).mono ?_; rintro e w3 ⟨rfl, rfl⟩)
    go_loopw [33, 6, 7] (fun iv v6 v7 wr => ∃ gs : List Nat, iv = .int .i64 gs.length ∧ gs.length ≤ nums.length ∧ Hid (HeldS l w2.heap.size wr v6 v7 (nums.take gs.length) gs) ∧ Below w2.heap.size w2 wr) (fun iv _ _ _ => nums.length - (intOf iv).toNat)
    case atStart =>
      exact ⟨[], rfl, Nat.zero_le _, Lib.hid ⟨World.ownsRow_nil _ _ _ _, World.ownsRow_nil _ _ _ _, rfl, fun g e => (by cases e), fun j g e => (by cases e)⟩, Below.refl _ _⟩
    case round =>
      obtain ⟨gs, rfl, hgl, hH, hbw⟩ := hrel
      by_cases c : gs.length < nums.length
      · obtain ⟨x, hx⟩ : ∃ x, nums[gs.length]? = some x := ⟨_, List.getElem?_eq_getElem c⟩
        obtain ⟨g', o', rfl, hg', hcell⟩ := (hR2.out.below hbw) gs.length (.int .i64 x) (by unfold numsV; rw [List.getElem?_map, hx]; rfl)
        have hci : (gs.length : Int) < (nums.length : Int) := by omega
        have HR := readW_any (hD2.out.below hbw) (2 + gs.length) (by omega)
        rw [show ((2 + gs.length : Nat) : Int) = 2 + (gs.length : Int) by omega] at HR
        go_wp2_with fail
        refine HR.mono ?_
        clear HR
        rintro e w3 ⟨rfl, hb3, hbb3⟩
        have hH3 := hH.out.below hbb3
        have hlt := hb3.lt
        have n6 : u6.ownBlock ≠ some wr.heap.size := fun e => by have := (hH.out.own6.lt _ e).2; omega
        have n7 : u7.ownBlock ≠ some wr.heap.size := fun e => by have := (hH.out.own7.lt _ e).2; omega
        have hbase := hbw.size
        have h6 := hH3.own6.alloc (.cells #[.int .i64 x, sl wr.heap.size] 162)
        have HB3 := Lib.hid hb3
        have HBB3 := Lib.hid hbb3
        clear hb3 hbb3
        have HH3 := Lib.hid hH3
        clear hH3
        go_wp2_with (first | (at_builtin; refine wpList_append_own_at _ rfl (.tmp 42) (.tmp 46) 158 rfl w2.heap.size 162 i0 (.agg #[.int .i64 0, .slice none 0 0]) 2 32 Tryz.underlying158 hi hz0 hz1 hz2 rfl (by decide) u6 gs.length (rowsOf (nums.take gs.length) gs) rfl h6 ⟨w3.heap.size, 0, none⟩ 1 1 [.int .i64 x, sl wr.heap.size] rfl rfl (news_new w3 [.int .i64 x, sl wr.heap.size] _) (by simp [Value.oneCell']) (by unfold maxLen; omega) (by omega) (by rw [alloc_size]; omega) ?_; intro v6' w4 own6' hg4 _ loc6; have h7 := HH3.out.mid (.cells #[.int .i64 x, sl wr.heap.size] 162) (.cells #[sl wr.heap.size] 24) hg4; have hs4 := hg4.size; rw [alloc_size] at hs4; have HG4 := Lib.hid hg4; have HO6 := Lib.hid own6'; have HL6 := Lib.hid loc6; clear hg4 own6' loc6) | (at_builtin; refine wpList_append_own_at _ rfl (.tmp 48) (.tmp 50) 126 rfl w2.heap.size 24 j0 (.slice none 0 0) 1 24 Tryz.underlying126 hj hy0 hy1 hy2 rfl (by decide) u7 gs.length (gs.map sl) rfl h7 ⟨w4.heap.size, 0, none⟩ 1 1 [sl wr.heap.size] rfl rfl (news_new w4 [sl wr.heap.size] _) (by simp [Value.oneCell']) (by unfold maxLen; omega) (by omega) (by rw [alloc_size]; omega) ?_; intro v7' w5 own7' hg5 _ loc7))
        go_roundw
        case rel =>
          refine ⟨gs ++ [wr.heap.size], by rw [List.length_append]; rfl, by rw [List.length_append]; exact c, Lib.hid ?_, ?_⟩
          · have : nums.take (gs ++ [wr.heap.size]).length = nums.take gs.length ++ [x] := by rw [List.length_append, List.length_singleton, List.take_add_one, hx]; rfl
            rw [this]
            exact HH3.out.step HG4.out HO6.out HL6.out hg5 own7' loc7 hbase HB3.out n6 n7
          · refine ⟨hg5.os.trans (HG4.out.os.trans (HBB3.out.os.trans hbw.os)), hg5.tape.trans (HG4.out.tape.trans (HBB3.out.tape.trans hbw.tape)), hg5.output.trans (HG4.out.output.trans (HBB3.out.output.trans hbw.output)), ?_, fun k hk => ?_⟩
            · have := hg5.size
              rw [alloc_size] at this
              omega
            · rw [two_grown HG4.out hg5 (by omega) (fun e => by have := (HH3.out.own6.lt _ e).1; omega) (fun e => by have := (HH3.out.own7.lt _ e).1; omega), HBB3.out.block k (by omega), hbw.block k hk]
        case measure => simp only [intOf]; omega
      · obtain hge' : gs.length = nums.length := by omega
        have hci : ¬ (gs.length : Int) < (nums.length : Int) := by omega
        have hHo := hH.out
        rw [hge', List.take_length] at hHo
        have hO6 := Lib.hid hHo
        have hbw2 := Lib.hid (hB2.out.trans (hbw.mono (by omega)))
        have hKw := hK2.out.below hbw
        have hDw := hD2.out.below hbw
        have HB := blocks_any hDw
        have hbhw := Blk.same hbh2.out (hbw.block _ hbh2.out.lt)
        have hend : ∀ W, Below wr.heap.size wr W → logP n l = some nums → HeldP n l w (.returned u6) W := by
          intro W hW hp
          unfold HeldP
          rw [hp]
          have hX := hO6.out.below hW
          exact ⟨hbw2.out.trans (hW.mono hbw2.out.size), u6, gs, rfl, own_base hX.own6 (by omega), hge'.symm, fun j x hx => by
            obtain ⟨q1, q2, _⟩ := hX.blks j x hx
            exact ⟨by omega, q2⟩⟩
        by_cases k0 : nums = []
        · have hp : logP n l = some nums := by unfold logP; rw [hn.out]; dsimp only; rw [if_pos (.inl k0)]
          have hend := Lib.hid (hend wr (Below.refl _ _) hp)
          have hl0 : ((nums.length : Int) == 0) = true := by rw [k0]; rfl
          have HM := mustW_ok 41 wr
          clear hKw hDw hbhw hHo hp k0 hbw hH
          go_wp2_with (go_at_call 132; refine HM.mono ?_; clear HM; rintro e w3 ⟨rfl, rfl⟩)
          go_ret
          exact hend.out
        · have hl0 : ((nums.length : Int) == 0) = false := by
            have : nums.length ≠ 0 := fun h => k0 (List.eq_nil_of_length_eq_zero h)
            simp; omega
          have hp : logP n l = if headFits (blk l 1) (dataOf l gs.length) = true then some nums else none := by
            unfold logP
            rw [hn.out, hge']
            dsimp only
            by_cases q : headFits (blk l 1) (dataOf l nums.length) = true
            · rw [if_pos (.inr q), if_pos q]
            · rw [if_neg (fun h => h.elim k0 q), if_neg q]
          obtain ⟨ao7, cap7, rfl, hc7, _⟩ := Row.of_own hO6.out.own7
          rw [List.length_map] at hc7 hO6 ⊢
          have HG := good_any (blk l 1) (dataOf l gs.length) nums n w.heap.size 0 512 ao7 cap7 wr hlen.out (SeenAt.of_blk hbhw) hbhw.lt (by omega) hKw hn.out k0 (by rw [dataOf_len, hge']) (hO6.out.datas hDw.len (by omega)) (dataOf_512 hDw.len (by omega))
          rw [dataOf_len] at HG
          have hp := Lib.hid hp
          have hend := Lib.hid hend
          generalize headFits (blk l 1) (dataOf l gs.length) = fits at *
          rw [hge'] at HG
          clear hKw hDw hbhw hHo k0 hbw hH
          cases fits
          · go_wp2_with (first | (go_at_call 99; refine HB.mono ?_; clear HB; rintro e w3 ⟨rfl, rfl⟩) | (go_at_call 135; refine HG.mono ?_; clear HG; rintro e w3 ⟨rfl, hb3⟩) | (go_at_call 132; refine (mustW_bad 41 _).mono ?_; rintro e w4 ⟨rfl, rfl⟩))
            exact ⟨rfl, by unfold HeldP; rw [hp.out]; exact ⟨hbw2.out.trans (hb3.mono hbw2.out.size), rfl⟩⟩
          · go_wp2_with (first | (go_at_call 99; refine HB.mono ?_; clear HB; rintro e w3 ⟨rfl, rfl⟩) | (go_at_call 135; refine HG.mono ?_; clear HG; rintro e w3 ⟨rfl, hb3⟩) | (go_at_call 132; refine (mustW_ok 41 _).mono ?_; rintro e w4 ⟨rfl, rfl⟩))
            go_ret
            exact hend.out _ hb3 (by rw [hp.out]; rfl)
end Ck
end Go.Proofs.YtegplehbcdeeoaaGreatDoor
/- The image behind the log: what catches, what is laid. -/
namespace Go.Proofs.YtegplehbcdeeoaaGreatDoor
open Go.RowKit

namespace Ck
open Pk Pw
set_option maxRecDepth 100000 in
theorem caughtW_none (ec : Int) (w : World) : Calls Tryz.prog 97 #[.nilIface, .int .i64 ec] w fun e w' => e = .returned (.int .i64 ec) ∧ w' = w := by
  have hnil : ∀ w : World, (binOp BinOp.eql 20 .nilIface .nilIface).run Tryz.prog w = .ok (.bool true) w := fun _ => by kernel_rfl
  go_enter Tryz.func97, Tryz.ntmps97
  go_wp2
  go_ret
  exact ⟨rfl, rfl⟩
set_option maxRecDepth 100000 in
theorem caughtW_gave (x ec : Int) (w : World) : Calls Tryz.prog 97 #[.iface 202 (.int .i64 x), .int .i64 ec] w fun e w' => e = .returned (.int .i64 x) ∧ w' = w := by
  have hta : ∀ w : World, (Instr.typeAssert (.iface 202 (.int .i64 x)) 20 202 true).run Tryz.prog w = .ok (.tuple #[.int .i64 x, .bool true]) w := fun _ => by kernel_rfl
  go_enter Tryz.func97, Tryz.ntmps97
  go_wp2
  go_ret
  exact ⟨rfl, rfl⟩
set_option maxRecDepth 100000 in
/-- The closure that catches, in a frame that returns: nothing turns. -/
theorem catchW_idle (pe : Addr) (w : World) (n : Int) (h : w.cell? pe = some (.int .i64 n)) (hf : w.frozen? pe = false) :
    CallsD Tryz.prog 96 #[.pointer (some pe)] .returning w fun e u' w' => e = .returned (.tuple #[]) ∧ u' = .returning ∧ w' = (w.setCell pe (.int .i64 n)).drew := by
  have HC := fun W => caughtW_none n W
  refine callsD_of_wpS Tryz.func96 rfl fun c₀ cs hu => ?_
  refine Dr.wpS_region_draw (by kernel_rfl) [[0, 1, 2, 3], [1, 0, 2, 3]] (by kernel_rfl) ?_
  intro o ho
  simp only [List.mem_cons, List.not_mem_nil, or_false] at ho
  rcases ho with rfl | rfl
  all_goals
    simp [wpOpsS, go_sem, recoverD, hu, Tryz.ntmps96, h]
    refine (HC _).mono ?_
    rintro e w' ⟨rfl, rfl⟩
    simp [go_sem, h, hf]
    cases c₀
    simp_all [bodyPostS, results, Tryz.results96]
set_option maxRecDepth 100000 in
/-- .. in a frame that gave up. -/
theorem catchW_err (pe : Addr) (w : World) (n x : Int) (older : List PanicEntry) (h : w.cell? pe = some (.int .i64 n)) (hf : w.frozen? pe = false) :
    CallsD Tryz.prog 96 #[.pointer (some pe)] (.panicking ({ v := .iface 202 (.int .i64 x), recovered := false } :: older)) w fun e u' w' => e = .returned (.tuple #[]) ∧ u' = .panicking ({ v := .iface 202 (.int .i64 x), recovered := true } :: older) ∧ w' = (w.setCell pe (.int .i64 x)).drew := by
  have HC := fun W => caughtW_gave x n W
  refine callsD_of_wpS Tryz.func96 rfl fun c₀ cs hu => ?_
  refine Dr.wpS_region_draw (by kernel_rfl) [[0, 1, 2, 3], [1, 0, 2, 3]] (by kernel_rfl) ?_
  intro o ho
  simp only [List.mem_cons, List.not_mem_nil, or_false] at ho
  rcases ho with rfl | rfl
  all_goals
    simp [wpOpsS, go_sem, recoverD, hu, Tryz.ntmps96, h]
    refine (HC _).mono ?_
    rintro e w' ⟨rfl, rfl⟩
    simp [go_sem, h, hf]
    cases c₀
    simp_all [bodyPostS, results, Tryz.results96]
/-- What is deferred. -/
abbrev defsW (pe : Addr) : List Deferred := [{ target := .fn (.func 96) #[.pointer (some pe)], args := #[] }]
theorem doorW_results {tmps : Array Value} {W : World} {pe : Addr} {v : Value} {n : Int} (h2 : tmps[2]? = some v) (h3 : tmps[3]? = some (.pointer (some pe))) (he : W.cell? pe = some (.int .i64 n)) :
    (results Tryz.f56 tmps).run Tryz.prog W = .ok (.tuple #[v, .int .i64 n]) W := by
  simp [results, Tryz.results56, go_sem, h2, h3, he]
set_option maxRecDepth 100000 in
theorem doorW_gave {R : Ending → World → Prop} {tmps : Array Value} {W : World} {pe : Addr} {v : Value} {n x : Int} (h2 : tmps[2]? = some v) (h3 : tmps[3]? = some (.pointer (some pe)))
    (he : W.cell? pe = some (.int .i64 n)) (fe : W.frozen? pe = false) (hR : R (.returned (.tuple #[v, .int .i64 x])) (W.setCell pe (.int .i64 x)).drew) :
    bodyPostD Tryz.prog Tryz.f56 R (Exit.panic (gaveW x)) { tmps := tmps, defers := defsW pe } W := by
  refine leaves_cons (f := 96) (args := #[.pointer (some pe)]) (by simp) (by simp [go_sem]) ?_
  refine (catchW_err pe W n x [] he fe).mono ?_
  rintro e u' w' ⟨rfl, rfl, rfl⟩
  exact ⟨_, doorW_results h2 h3 (World.cell?_setCell_same _ _ _ he), hR⟩
set_option maxRecDepth 100000 in
theorem doorW_yes {R : Ending → World → Prop} {tmps : Array Value} {W : World} {pe : Addr} {v : Value} {n : Int} (h2 : tmps[2]? = some v) (h3 : tmps[3]? = some (.pointer (some pe)))
    (he : W.cell? pe = some (.int .i64 n)) (fe : W.frozen? pe = false) (hR : R (.returned (.tuple #[v, .int .i64 n])) (W.setCell pe (.int .i64 n)).drew) :
    bodyPostD Tryz.prog Tryz.f56 R Exit.ret { tmps := tmps, defers := defsW pe } W := by
  refine leaves_cons (f := 96) (args := #[.pointer (some pe)]) (by simp) (by simp [go_sem]) ?_
  refine (catchW_idle pe W n he fe).mono ?_
  rintro e u' w' ⟨rfl, rfl, rfl⟩
  exact ⟨_, doorW_results h2 h3 (World.cell?_setCell_same _ _ _ he), hR⟩
end Ck
end Go.Proofs.YtegplehbcdeeoaaGreatDoor
