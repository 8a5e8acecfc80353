/- The walk of the statement's own 'own': a call with zero in what isn't its kind's; and of bare, the statement's own. -/
import Derived.Test.YtjloonijnbfhhaaDoorRKnown
import Derived.RegionTactic
import Derived.ChangeAlike
namespace Go.Proofs.YtjloonijnbfhhaaDoor
open Go.RowKit Go.Maps Go.WideShapes Qw

namespace Rw

set_option maxRecDepth 100000 in
theorem own_1 (c : Cl.PCall) (w : World) : Calls Tryd.prog 21 #[.agg #[.int .i64 1, .string (mk c.path), .string (mk c.other), .int .i64 c.off, .int .i64 c.size, .string (mk c.data)]] w fun e w' => e = .returned (.agg #[.int .i64 1, .string (mk c.path), .string ⟨#[]⟩, .int .i64 0, .int .i64 0, .string ⟨#[]⟩]) ∧ Below w.heap.size w w' := by
  skip
  go_enter Tryd.func21, Tryd.ntmps21
  go_wp2
  all_goals
    refine bodyPost_ret (v := .agg #[.int .i64 1, .string (mk c.path), .string ⟨#[]⟩, .int .i64 0, .int .i64 0, .string ⟨#[]⟩]) (by simp [results, Tryd.results21, go_sem]) rfl ⟨rfl, ?_⟩
    repeat (first | exact Below.refl _ _ | refine Below.drew ?_ | refine Below.alloc ?_ (by first | (simp; done) | (simp; omega) | omega) _ | refine Below.setCell ?_ (by first | (simp; done) | (simp; omega) | omega) _)

set_option maxRecDepth 100000 in
theorem own_2 (c : Cl.PCall) (w : World) : Calls Tryd.prog 21 #[.agg #[.int .i64 2, .string (mk c.path), .string (mk c.other), .int .i64 c.off, .int .i64 c.size, .string (mk c.data)]] w fun e w' => e = .returned (.agg #[.int .i64 2, .string (mk c.path), .string ⟨#[]⟩, .int .i64 0, .int .i64 0, .string ⟨#[]⟩]) ∧ Below w.heap.size w w' := by
  skip
  go_enter Tryd.func21, Tryd.ntmps21
  go_wp2
  all_goals
    refine bodyPost_ret (v := .agg #[.int .i64 2, .string (mk c.path), .string ⟨#[]⟩, .int .i64 0, .int .i64 0, .string ⟨#[]⟩]) (by simp [results, Tryd.results21, go_sem]) rfl ⟨rfl, ?_⟩
    repeat (first | exact Below.refl _ _ | refine Below.drew ?_ | refine Below.alloc ?_ (by first | (simp; done) | (simp; omega) | omega) _ | refine Below.setCell ?_ (by first | (simp; done) | (simp; omega) | omega) _)

set_option maxRecDepth 100000 in
theorem own_3 (c : Cl.PCall) (w : World) : Calls Tryd.prog 21 #[.agg #[.int .i64 3, .string (mk c.path), .string (mk c.other), .int .i64 c.off, .int .i64 c.size, .string (mk c.data)]] w fun e w' => e = .returned (.agg #[.int .i64 3, .string (mk c.path), .string ⟨#[]⟩, .int .i64 c.off, .int .i64 c.size, .string ⟨#[]⟩]) ∧ Below w.heap.size w w' := by
  skip
  go_enter Tryd.func21, Tryd.ntmps21
  go_wp2
  go_region
  all_goals go_wp2
  all_goals
    refine bodyPost_ret (v := .agg #[.int .i64 3, .string (mk c.path), .string ⟨#[]⟩, .int .i64 c.off, .int .i64 c.size, .string ⟨#[]⟩]) (by simp [results, Tryd.results21, go_sem]) rfl ⟨rfl, ?_⟩
    repeat (first | exact Below.refl _ _ | refine Below.drew ?_ | refine Below.alloc ?_ (by first | (simp; done) | (simp; omega) | omega) _ | refine Below.setCell ?_ (by first | (simp; done) | (simp; omega) | omega) _)

set_option maxRecDepth 100000 in
theorem own_4 (c : Cl.PCall) (w : World) : Calls Tryd.prog 21 #[.agg #[.int .i64 4, .string (mk c.path), .string (mk c.other), .int .i64 c.off, .int .i64 c.size, .string (mk c.data)]] w fun e w' => e = .returned (.agg #[.int .i64 4, .string (mk c.path), .string ⟨#[]⟩, .int .i64 c.off, .int .i64 0, .string (mk c.data)]) ∧ Below w.heap.size w w' := by
  skip
  go_enter Tryd.func21, Tryd.ntmps21
  go_wp2
  go_region
  all_goals go_wp2
  all_goals
    refine bodyPost_ret (v := .agg #[.int .i64 4, .string (mk c.path), .string ⟨#[]⟩, .int .i64 c.off, .int .i64 0, .string (mk c.data)]) (by simp [results, Tryd.results21, go_sem]) rfl ⟨rfl, ?_⟩
    repeat (first | exact Below.refl _ _ | refine Below.drew ?_ | refine Below.alloc ?_ (by first | (simp; done) | (simp; omega) | omega) _ | refine Below.setCell ?_ (by first | (simp; done) | (simp; omega) | omega) _)

set_option maxRecDepth 100000 in
theorem own_5 (c : Cl.PCall) (w : World) : Calls Tryd.prog 21 #[.agg #[.int .i64 5, .string (mk c.path), .string (mk c.other), .int .i64 c.off, .int .i64 c.size, .string (mk c.data)]] w fun e w' => e = .returned (.agg #[.int .i64 5, .string (mk c.path), .string ⟨#[]⟩, .int .i64 0, .int .i64 c.size, .string ⟨#[]⟩]) ∧ Below w.heap.size w w' := by
  skip
  go_enter Tryd.func21, Tryd.ntmps21
  go_wp2
  all_goals
    refine bodyPost_ret (v := .agg #[.int .i64 5, .string (mk c.path), .string ⟨#[]⟩, .int .i64 0, .int .i64 c.size, .string ⟨#[]⟩]) (by simp [results, Tryd.results21, go_sem]) rfl ⟨rfl, ?_⟩
    repeat (first | exact Below.refl _ _ | refine Below.drew ?_ | refine Below.alloc ?_ (by first | (simp; done) | (simp; omega) | omega) _ | refine Below.setCell ?_ (by first | (simp; done) | (simp; omega) | omega) _)

set_option maxRecDepth 100000 in
theorem own_6 (c : Cl.PCall) (w : World) : Calls Tryd.prog 21 #[.agg #[.int .i64 6, .string (mk c.path), .string (mk c.other), .int .i64 c.off, .int .i64 c.size, .string (mk c.data)]] w fun e w' => e = .returned (.agg #[.int .i64 6, .string (mk c.path), .string ⟨#[]⟩, .int .i64 0, .int .i64 0, .string ⟨#[]⟩]) ∧ Below w.heap.size w w' := by
  skip
  go_enter Tryd.func21, Tryd.ntmps21
  go_wp2
  all_goals
    refine bodyPost_ret (v := .agg #[.int .i64 6, .string (mk c.path), .string ⟨#[]⟩, .int .i64 0, .int .i64 0, .string ⟨#[]⟩]) (by simp [results, Tryd.results21, go_sem]) rfl ⟨rfl, ?_⟩
    repeat (first | exact Below.refl _ _ | refine Below.drew ?_ | refine Below.alloc ?_ (by first | (simp; done) | (simp; omega) | omega) _ | refine Below.setCell ?_ (by first | (simp; done) | (simp; omega) | omega) _)

set_option maxRecDepth 100000 in
theorem own_7 (c : Cl.PCall) (w : World) : Calls Tryd.prog 21 #[.agg #[.int .i64 7, .string (mk c.path), .string (mk c.other), .int .i64 c.off, .int .i64 c.size, .string (mk c.data)]] w fun e w' => e = .returned (.agg #[.int .i64 7, .string (mk c.path), .string ⟨#[]⟩, .int .i64 0, .int .i64 0, .string ⟨#[]⟩]) ∧ Below w.heap.size w w' := by
  skip
  go_enter Tryd.func21, Tryd.ntmps21
  go_wp2
  all_goals
    refine bodyPost_ret (v := .agg #[.int .i64 7, .string (mk c.path), .string ⟨#[]⟩, .int .i64 0, .int .i64 0, .string ⟨#[]⟩]) (by simp [results, Tryd.results21, go_sem]) rfl ⟨rfl, ?_⟩
    repeat (first | exact Below.refl _ _ | refine Below.drew ?_ | refine Below.alloc ?_ (by first | (simp; done) | (simp; omega) | omega) _ | refine Below.setCell ?_ (by first | (simp; done) | (simp; omega) | omega) _)

set_option maxRecDepth 100000 in
theorem own_8 (c : Cl.PCall) (w : World) : Calls Tryd.prog 21 #[.agg #[.int .i64 8, .string (mk c.path), .string (mk c.other), .int .i64 c.off, .int .i64 c.size, .string (mk c.data)]] w fun e w' => e = .returned (.agg #[.int .i64 8, .string (mk c.path), .string (mk c.other), .int .i64 0, .int .i64 0, .string ⟨#[]⟩]) ∧ Below w.heap.size w w' := by
  skip
  go_enter Tryd.func21, Tryd.ntmps21
  go_wp2
  all_goals
    refine bodyPost_ret (v := .agg #[.int .i64 8, .string (mk c.path), .string (mk c.other), .int .i64 0, .int .i64 0, .string ⟨#[]⟩]) (by simp [results, Tryd.results21, go_sem]) rfl ⟨rfl, ?_⟩
    repeat (first | exact Below.refl _ _ | refine Below.drew ?_ | refine Below.alloc ?_ (by first | (simp; done) | (simp; omega) | omega) _ | refine Below.setCell ?_ (by first | (simp; done) | (simp; omega) | omega) _)

set_option maxRecDepth 100000 in
theorem own_9 (c : Cl.PCall) (w : World) : Calls Tryd.prog 21 #[.agg #[.int .i64 9, .string (mk c.path), .string (mk c.other), .int .i64 c.off, .int .i64 c.size, .string (mk c.data)]] w fun e w' => e = .returned (.agg #[.int .i64 9, .string (mk c.path), .string (mk c.other), .int .i64 0, .int .i64 0, .string ⟨#[]⟩]) ∧ Below w.heap.size w w' := by
  skip
  go_enter Tryd.func21, Tryd.ntmps21
  go_wp2
  all_goals
    refine bodyPost_ret (v := .agg #[.int .i64 9, .string (mk c.path), .string (mk c.other), .int .i64 0, .int .i64 0, .string ⟨#[]⟩]) (by simp [results, Tryd.results21, go_sem]) rfl ⟨rfl, ?_⟩
    repeat (first | exact Below.refl _ _ | refine Below.drew ?_ | refine Below.alloc ?_ (by first | (simp; done) | (simp; omega) | omega) _ | refine Below.setCell ?_ (by first | (simp; done) | (simp; omega) | omega) _)

set_option maxRecDepth 100000 in
theorem own_10 (c : Cl.PCall) (w : World) : Calls Tryd.prog 21 #[.agg #[.int .i64 10, .string (mk c.path), .string (mk c.other), .int .i64 c.off, .int .i64 c.size, .string (mk c.data)]] w fun e w' => e = .returned (.agg #[.int .i64 10, .string (mk c.path), .string (mk c.other), .int .i64 0, .int .i64 0, .string ⟨#[]⟩]) ∧ Below w.heap.size w w' := by
  skip
  go_enter Tryd.func21, Tryd.ntmps21
  go_wp2
  all_goals
    refine bodyPost_ret (v := .agg #[.int .i64 10, .string (mk c.path), .string (mk c.other), .int .i64 0, .int .i64 0, .string ⟨#[]⟩]) (by simp [results, Tryd.results21, go_sem]) rfl ⟨rfl, ?_⟩
    repeat (first | exact Below.refl _ _ | refine Below.drew ?_ | refine Below.alloc ?_ (by first | (simp; done) | (simp; omega) | omega) _ | refine Below.setCell ?_ (by first | (simp; done) | (simp; omega) | omega) _)

set_option maxRecDepth 100000 in
theorem own_11 (c : Cl.PCall) (w : World) : Calls Tryd.prog 21 #[.agg #[.int .i64 11, .string (mk c.path), .string (mk c.other), .int .i64 c.off, .int .i64 c.size, .string (mk c.data)]] w fun e w' => e = .returned (.agg #[.int .i64 11, .string (mk c.path), .string ⟨#[]⟩, .int .i64 0, .int .i64 0, .string ⟨#[]⟩]) ∧ Below w.heap.size w w' := by
  skip
  go_enter Tryd.func21, Tryd.ntmps21
  go_wp2
  all_goals
    refine bodyPost_ret (v := .agg #[.int .i64 11, .string (mk c.path), .string ⟨#[]⟩, .int .i64 0, .int .i64 0, .string ⟨#[]⟩]) (by simp [results, Tryd.results21, go_sem]) rfl ⟨rfl, ?_⟩
    repeat (first | exact Below.refl _ _ | refine Below.drew ?_ | refine Below.alloc ?_ (by first | (simp; done) | (simp; omega) | omega) _ | refine Below.setCell ?_ (by first | (simp; done) | (simp; omega) | omega) _)

set_option maxRecDepth 100000 in
theorem own_12 (c : Cl.PCall) (w : World) : Calls Tryd.prog 21 #[.agg #[.int .i64 12, .string (mk c.path), .string (mk c.other), .int .i64 c.off, .int .i64 c.size, .string (mk c.data)]] w fun e w' => e = .returned (.agg #[.int .i64 12, .string (mk c.path), .string ⟨#[]⟩, .int .i64 0, .int .i64 0, .string ⟨#[]⟩]) ∧ Below w.heap.size w w' := by
  skip
  go_enter Tryd.func21, Tryd.ntmps21
  go_wp2
  all_goals
    refine bodyPost_ret (v := .agg #[.int .i64 12, .string (mk c.path), .string ⟨#[]⟩, .int .i64 0, .int .i64 0, .string ⟨#[]⟩]) (by simp [results, Tryd.results21, go_sem]) rfl ⟨rfl, ?_⟩
    repeat (first | exact Below.refl _ _ | refine Below.drew ?_ | refine Below.alloc ?_ (by first | (simp; done) | (simp; omega) | omega) _ | refine Below.setCell ?_ (by first | (simp; done) | (simp; omega) | omega) _)

set_option maxRecDepth 100000 in
theorem own_13 (c : Cl.PCall) (w : World) : Calls Tryd.prog 21 #[.agg #[.int .i64 13, .string (mk c.path), .string (mk c.other), .int .i64 c.off, .int .i64 c.size, .string (mk c.data)]] w fun e w' => e = .returned (.agg #[.int .i64 13, .string (mk c.path), .string ⟨#[]⟩, .int .i64 0, .int .i64 0, .string ⟨#[]⟩]) ∧ Below w.heap.size w w' := by
  skip
  go_enter Tryd.func21, Tryd.ntmps21
  go_wp2
  all_goals
    refine bodyPost_ret (v := .agg #[.int .i64 13, .string (mk c.path), .string ⟨#[]⟩, .int .i64 0, .int .i64 0, .string ⟨#[]⟩]) (by simp [results, Tryd.results21, go_sem]) rfl ⟨rfl, ?_⟩
    repeat (first | exact Below.refl _ _ | refine Below.drew ?_ | refine Below.alloc ?_ (by first | (simp; done) | (simp; omega) | omega) _ | refine Below.setCell ?_ (by first | (simp; done) | (simp; omega) | omega) _)

set_option maxRecDepth 100000 in
theorem own_14 (c : Cl.PCall) (w : World) : Calls Tryd.prog 21 #[.agg #[.int .i64 14, .string (mk c.path), .string (mk c.other), .int .i64 c.off, .int .i64 c.size, .string (mk c.data)]] w fun e w' => e = .returned (.agg #[.int .i64 14, .string (mk c.path), .string ⟨#[]⟩, .int .i64 0, .int .i64 0, .string ⟨#[]⟩]) ∧ Below w.heap.size w w' := by
  skip
  go_enter Tryd.func21, Tryd.ntmps21
  go_wp2
  all_goals
    refine bodyPost_ret (v := .agg #[.int .i64 14, .string (mk c.path), .string ⟨#[]⟩, .int .i64 0, .int .i64 0, .string ⟨#[]⟩]) (by simp [results, Tryd.results21, go_sem]) rfl ⟨rfl, ?_⟩
    repeat (first | exact Below.refl _ _ | refine Below.drew ?_ | refine Below.alloc ?_ (by first | (simp; done) | (simp; omega) | omega) _ | refine Below.setCell ?_ (by first | (simp; done) | (simp; omega) | omega) _)

set_option maxRecDepth 100000 in
theorem own_15 (c : Cl.PCall) (w : World) : Calls Tryd.prog 21 #[.agg #[.int .i64 15, .string (mk c.path), .string (mk c.other), .int .i64 c.off, .int .i64 c.size, .string (mk c.data)]] w fun e w' => e = .returned (.agg #[.int .i64 15, .string ⟨#[]⟩, .string ⟨#[]⟩, .int .i64 0, .int .i64 0, .string ⟨#[]⟩]) ∧ Below w.heap.size w w' := by
  skip
  go_enter Tryd.func21, Tryd.ntmps21
  go_wp2
  all_goals
    refine bodyPost_ret (v := .agg #[.int .i64 15, .string ⟨#[]⟩, .string ⟨#[]⟩, .int .i64 0, .int .i64 0, .string ⟨#[]⟩]) (by simp [results, Tryd.results21, go_sem]) rfl ⟨rfl, ?_⟩
    repeat (first | exact Below.refl _ _ | refine Below.drew ?_ | refine Below.alloc ?_ (by first | (simp; done) | (simp; omega) | omega) _ | refine Below.setCell ?_ (by first | (simp; done) | (simp; omega) | omega) _)

theorem own_any (c : Cl.PCall) (w : World) (h1 : 1 ≤ c.kind) (h2 : c.kind ≤ 15) : Calls Tryd.prog 21 #[cv c] w fun e w' => e = .returned (cv (Cl.own c)) ∧ Below w.heap.size w w' := by
  rcases (show c.kind = 1 ∨ c.kind = 2 ∨ c.kind = 3 ∨ c.kind = 4 ∨ c.kind = 5 ∨ c.kind = 6 ∨ c.kind = 7 ∨ c.kind = 8 ∨ c.kind = 9 ∨ c.kind = 10 ∨ c.kind = 11 ∨ c.kind = 12 ∨ c.kind = 13 ∨ c.kind = 14 ∨ c.kind = 15 by omega) with h | h | h | h | h | h | h | h | h | h | h | h | h | h | h
  · have e : Cl.own c = ⟨1, c.path, [], [], 0, 0⟩ := by unfold Cl.own; rw [h]; rfl
    rw [e, cv, h]
    exact own_1 c w
  · have e : Cl.own c = ⟨2, c.path, [], [], 0, 0⟩ := by unfold Cl.own; rw [h]; rfl
    rw [e, cv, h]
    exact own_2 c w
  · have e : Cl.own c = ⟨3, c.path, [], [], c.off, c.size⟩ := by unfold Cl.own; rw [h]; rfl
    rw [e, cv, h]
    exact own_3 c w
  · have e : Cl.own c = ⟨4, c.path, [], c.data, c.off, 0⟩ := by unfold Cl.own; rw [h]; rfl
    rw [e, cv, h]
    exact own_4 c w
  · have e : Cl.own c = ⟨5, c.path, [], [], 0, c.size⟩ := by unfold Cl.own; rw [h]; rfl
    rw [e, cv, h]
    exact own_5 c w
  · have e : Cl.own c = ⟨6, c.path, [], [], 0, 0⟩ := by unfold Cl.own; rw [h]; rfl
    rw [e, cv, h]
    exact own_6 c w
  · have e : Cl.own c = ⟨7, c.path, [], [], 0, 0⟩ := by unfold Cl.own; rw [h]; rfl
    rw [e, cv, h]
    exact own_7 c w
  · have e : Cl.own c = ⟨8, c.path, c.other, [], 0, 0⟩ := by unfold Cl.own; rw [h]; rfl
    rw [e, cv, h]
    exact own_8 c w
  · have e : Cl.own c = ⟨9, c.path, c.other, [], 0, 0⟩ := by unfold Cl.own; rw [h]; rfl
    rw [e, cv, h]
    exact own_9 c w
  · have e : Cl.own c = ⟨10, c.path, c.other, [], 0, 0⟩ := by unfold Cl.own; rw [h]; rfl
    rw [e, cv, h]
    exact own_10 c w
  · have e : Cl.own c = ⟨11, c.path, [], [], 0, 0⟩ := by unfold Cl.own; rw [h]; rfl
    rw [e, cv, h]
    exact own_11 c w
  · have e : Cl.own c = ⟨12, c.path, [], [], 0, 0⟩ := by unfold Cl.own; rw [h]; rfl
    rw [e, cv, h]
    exact own_12 c w
  · have e : Cl.own c = ⟨13, c.path, [], [], 0, 0⟩ := by unfold Cl.own; rw [h]; rfl
    rw [e, cv, h]
    exact own_13 c w
  · have e : Cl.own c = ⟨14, c.path, [], [], 0, 0⟩ := by unfold Cl.own; rw [h]; rfl
    rw [e, cv, h]
    exact own_14 c w
  · have e : Cl.own c = ⟨15, [], [], [], 0, 0⟩ := by unfold Cl.own; rw [h]; rfl
    rw [e, cv, h]
    exact own_15 c w
end Rw
end Go.Proofs.YtjloonijnbfhhaaDoor
