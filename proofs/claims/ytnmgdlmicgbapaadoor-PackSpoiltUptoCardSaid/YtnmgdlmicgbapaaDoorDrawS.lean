/- A law: a drawn region of a deferred closure that recovers: each of its orders is walked in turn. No program in sight. -/
import Derived.Recover
import Derived.Orders
import Derived.Tactics
namespace Go.Proofs.YtnmgdlmicgbapaaDoor
open Go

namespace Dr
variable {P : Program} {ops : Array Oper} {Q : Exit → Act → List Frame → World → Prop} {a : Act} {cs : List Frame} {w : World}
/-- All orders that a region may come up with. -/
def allOrders (md : Region.Mode) (ops : Array Oper) : Nat → Array Bool → List (List Nat)
  | 0, _ => [[]]
  | fuel + 1, listed => match Region.ready md ops listed with
    | [] => [[]]
    | i :: r => (i :: r).flatMap fun j => (allOrders md ops fuel (listed.setIfInBounds j true)).map (j :: ·)
theorem linearise_mem (md : Region.Mode) (ops : Array Oper) : ∀ (fuel t : Nat) (listed : Array Bool), Region.linearise.go md ops fuel t listed [] ∈ allOrders md ops fuel listed := by
  intro fuel
  induction fuel with
  | zero => intro t listed; simp [Region.linearise.go, allOrders]
  | succ fuel ih =>
    intro t listed
    simp only [Region.linearise.go]
    change (match (Region.ready md ops listed)[t % (Region.ready md ops listed).length]? with
      | some i => Region.linearise.go md ops fuel (t / (Region.ready md ops listed).length) (listed.setIfInBounds i true) [i]
      | none => [].reverse) ∈ _
    unfold allOrders
    cases hr : Region.ready md ops listed with
    | nil => simp
    | cons x xs =>
      have hlt : t % (x :: xs).length < (x :: xs).length := Nat.mod_lt _ (by simp)
      rw [List.getElem?_eq_getElem hlt]
      simp only []
      rw [linearise_go_acc, List.reverse_singleton, List.singleton_append]
      refine List.mem_flatMap.2 ⟨_, List.getElem_mem hlt, List.mem_map.2 ⟨_, ih _ _, rfl⟩⟩
theorem wpS_region_draw {id : Nat} (hm : P.follows .mixedOrders = true) (os : List (List Nat)) (ho : allOrders .any ops ops.size (Array.replicate ops.size false) = os) (h : ∀ o ∈ os, wpOpsS P ops Q o a cs { w with drawn := w.drawn + 1 }) :
    (Code.region id ops true).wpS P Q a cs w := by
  intro b k hb hr
  have hs : Region.schedule (P.follows .mixedOrders) ops (w.tape w.drawn (.order b.fn id)) ∈ os := by
    simp only [Region.schedule, hm, Bool.true_or, if_true]
    rw [← ho]
    exact linearise_mem .any ops ops.size _ _
  obtain ⟨e, a', cs', w', q, r⟩ := wp_opsS _ a cs _ (h _ hs) b k hb hr
  exact ⟨e, a', cs', w', q, .of_steps (.one step_region_draw) r⟩
theorem wpOps_list {Q : Exit → Act → World → Prop} : ∀ (o : List Nat) (l : List Oper), o.map (fun i => ops[i]?) = l.map some → wpOps P ops Q o = wpList P ops Q l
  | [], [], _ => by funext a w; simp [wpOps, wpList]
  | [], x :: l, e => by cases e
  | i :: o, [], e => by cases e
  | i :: o, x :: l, e => by
    simp only [List.map_cons, List.cons.injEq] at e
    have ih := wpOps_list (Q := Q) o l e.2
    have h0 := e.1
    funext a w
    simp only [wpOps, h0, wpList, ih]
/-- The operations of an order. -/
def pick (l : List Oper) : List Nat → List Oper
  | [] => []
  | i :: r => (l.drop i).take 1 ++ pick l r
theorem map_pick : ∀ (o : List Nat), (o.all fun i => decide (i < ops.size)) = true → o.map (fun i => ops[i]?) = (pick ops.toList o).map some
  | [], _ => rfl
  | i :: o, h => by
    rw [List.all_cons, Bool.and_eq_true] at h
    have hi : i < ops.size := of_decide_eq_true h.1
    have e : (ops.toList.drop i).take 1 = [ops[i]] := by
      rw [List.drop_eq_getElem_cons (by simpa using hi)]
      simp
    rw [List.map_cons, map_pick o h.2, pick, e]
    simp [hi]
/-- A drawn region, each of its orders walked in turn. -/
theorem wp_region_orders {Q : Exit → Act → World → Prop} {id : Nat} (hm : P.follows .mixedOrders = true) (os : List (List Nat)) (ho : allOrders .any ops ops.size (Array.replicate ops.size false) = os) (hl : (os.all fun o => o.all fun i => decide (i < ops.size)) = true)
    (h : ∀ o ∈ os, wpList P ops Q (pick ops.toList o) a w.drew) : (Code.region id ops true).wp P Q a w := by
  refine wp_region_draw fun t => ?_
  have hs : Region.schedule (P.follows .mixedOrders) ops t ∈ os := by
    simp only [Region.schedule, hm, Bool.true_or, if_true]
    rw [← ho]
    exact linearise_mem .any ops ops.size _ _
  rw [wpOps_list _ _ (map_pick _ (List.all_eq_true.1 hl _ hs))]
  exact h _ hs
end Dr
end Go.Proofs.YtnmgdlmicgbapaaDoor
