/- The image without a thing opens as itself. -/
import Derived.Test.YtegplehbcdeeoaaGreatDoorChkB29
namespace Go.Proofs.YtegplehbcdeeoaaGreatDoor
open Go.RowKit

namespace Ck
open Pk Pw
theorem sub_left {A X : B} {i n : Nat} (h : i + n ≤ A.length) : sub (A ++ X) i n = sub A i n := by
  unfold sub
  rw [List.drop_append_of_le_length (by omega), List.take_append_of_le_length (by rw [List.length_drop]; omega)]
theorem sub_right {A X : B} {i n : Nat} (k : Nat) (h : i = A.length + k) : sub (A ++ X) i n = sub X k n := by
  subst h
  unfold sub
  rw [List.drop_append, List.drop_of_length_le (by omega), List.nil_append, show A.length + k - A.length = k by omega]
theorem sub_zs {m i n : Nat} (h : i + n ≤ m) : sub (zs m) i n = zs n := by
  unfold sub zs
  rw [List.drop_replicate, List.take_replicate, Nat.min_eq_left (by omega)]
theorem lay_same {l x : B} {i : Nat} (h : sub l i x.length = x) : lay l i x = l := by
  unfold lay
  have h2 : l.drop i = x ++ l.drop (i + x.length) := by
    have h3 := List.take_append_drop x.length (l.drop i)
    rw [show (l.drop i).take x.length = x from h, List.drop_drop] at h3
    exact h3.symm
  rw [List.append_assoc, ← h2, List.take_append_drop]
theorem mapA_block {i : Nat} (h0 : 1 ≤ i) (h : i < 98) : blk mapA i = zs 512 := by
  unfold blk mapA
  rw [sub_right (512 * i - 512) (by rw [super_len]; omega), sub_zs (by omega)]
theorem base_block {i : Nat} (h0 : 1 ≤ i) (h : i < 98) : blk (baseP 128) i = zs 512 := by
  have hA := mapA_len
  rw [base_form, ← mapA_block h0 h]
  exact sub_left (by omega)
theorem base_super : sub (baseP 128) 0 512 = superP 128 := by
  have hA := mapA_len
  rw [base_form, sub_left (by omega), mapA, sub_left (by rw [super_len]; omega)]
  have := sub_all (superP 128)
  rw [super_len] at this
  exact this
theorem allZero_zs (n : Nat) : allZero (zs n) = true := by
  unfold allZero
  rw [List.all_eq_true]
  intro c hc
  rw [show c = 0 from List.eq_of_mem_replicate hc]
  rfl
/-- An image whose superblock is its size's and whose log is zero opens as itself. -/
theorem open_self {l : B} {n : Nat} (h1 : 128 ≤ n) (h2 : n ≤ 16384) (hl : l.length = 512 * n) (hs : sub l 0 512 = superP n) (hz : blk l 1 = zs 512) : openP l = .ok l := by
  have hn : l.length / 512 = n := by omega
  have hlog : logP n l = some [] := by
    unfold logP headNums
    rw [hz, if_pos (allZero_zs 512)]
    rfl
  have hb : behindP n l = some l := by
    unfold behindP
    rw [hlog]
    show some (lay l 512 zs512) = some l
    rw [lay_same]
    have h512 : (zs 512).length = 512 := List.length_replicate
    unfold zs512
    rw [h512]
    exact hz
  unfold openP
  rw [hn, if_pos ⟨by unfold okLen; omega, hs⟩, hb]
theorem base_open : openP (baseP 128) = .ok (baseP 128) := open_self (by omega) (by omega) (baseP_len 128 (by omega)) base_super (base_block (by omega) (by omega))
end Ck
end Go.Proofs.YtegplehbcdeeoaaGreatDoor
/- The image without a thing: its bitmap and its records. -/
namespace Go.Proofs.YtegplehbcdeeoaaGreatDoor
open Go.RowKit

namespace Ck
open Pk Pw
theorem base_map : sub (baseP 128) 50176 512 = mapM := by
  have hA := mapA_len
  have hM := mapM_len
  rw [base_form, sub_right 0 (by omega), sub_left (by omega)]
  have := sub_all mapM
  rw [hM] at this
  exact this
theorem base_mapB : mapB 128 (baseP 128) = mapM := by
  unfold mapB
  rw [show 512 * ((128 + 4095) / 4096) = 512 by decide]
  exact base_map
theorem metaS_none {n : Nat} {l : B} {s : St} : ∀ k, (∀ i, i < k → (!isDataP n i && !bitAt (mapB n l) i) = false) → metaS n l s k = s
  | 0, _ => rfl
  | k + 1, h => by
    rw [metaS_succ, h k (by omega), metaS_none k (fun i hi => h i (by omega))]
    rfl
theorem base_meta (s : St) : metaS 128 (baseP 128) s 4096 = s := by
  refine metaS_none 4096 fun i hi => ?_
  rw [base_mapB, mapM_at i hi]
  unfold isDataP
  rw [show dataN 128 = 101 by decide]
  by_cases c : i < 101 ∨ 128 ≤ i
  · rw [decide_eq_true c]; simp
  · have c1 : 101 ≤ i := by omega
    have c2 : i < 128 := by omega
    rw [decide_eq_true c1, decide_eq_true c2]
    simp
end Ck
end Go.Proofs.YtegplehbcdeeoaaGreatDoor
/- The image without a thing: its records' bytes. -/
namespace Go.Proofs.YtegplehbcdeeoaaGreatDoor
open Go.RowKit

namespace Ck
open Pk Pw
theorem sub_set_out {l : B} {k i n : Nat} (c : UInt8) (h : i + n ≤ k ∨ k < i) : sub (l.set k c) i n = sub l i n := by
  apply List.ext_getElem?
  intro j
  by_cases hj : j < n
  · rw [sub_get hj, sub_get hj, List.getElem?_set_ne (by omega)]
  · have hn : ∀ x : B, (sub x i n)[j]? = none := fun x => by
      rw [List.getElem?_eq_none_iff]
      unfold sub
      rw [List.length_take]
      omega
    rw [hn, hn]
theorem base_rec (j : Nat) : recB 128 (baseP 128) j = sub mapC (64 * j) 64 := by
  have hA := mapA_len
  have hM := mapM_len
  unfold recB
  rw [show 512 * inodesN 128 = 50688 by decide, base_form, sub_right (512 + 64 * j) (by omega), sub_right (64 * j) (by omega)]
theorem base_rec_zero {j : Nat} (hj : j < 16) (h1 : j ≠ 1) : recB 128 (baseP 128) j = zs 64 := by
  rw [base_rec]
  unfold mapC
  rw [sub_set_out _ (by omega), sub_set_out _ (by omega), sub_zs (by omega)]
theorem base_rec_one : recB 128 (baseP 128) 1 = [2, 0, 2] ++ zs 61 := by
  rw [base_rec]
  have h : mapC = zs 64 ++ ([2, 0, 2] ++ (zs 61 ++ zs 14720)) := by
    unfold mapC
    have hz : (zs 64).length = 64 := List.length_replicate
    rw [show (14848 : Nat) = 64 + (3 + (61 + 14720)) by omega, zs_add, zs_add, zs_add, set_off (zs 64) _ 64 0 _ (by omega), set_off (zs 64) _ 66 2 _ (by omega)]
    rfl
  have hz : (zs 64).length = 64 := List.length_replicate
  have h61 : (zs 61).length = 61 := List.length_replicate
  rw [h, sub_right 0 (by omega), ← List.append_assoc, sub_left (by simp [h61])]
  have := sub_all ([2, 0, 2] ++ zs 61)
  rw [List.length_append, h61] at this
  exact this
end Ck
end Go.Proofs.YtegplehbcdeeoaaGreatDoor
/- The image without a thing: its records, decoded. -/
namespace Go.Proofs.YtegplehbcdeeoaaGreatDoor
open Go.RowKit

namespace Ck
open Pk Pw
theorem dec_zero : decP (zs 64) = some (recOf (zs 64)) ∧ (recOf (zs 64)).all.all (· == 0) = true ∧ (recOf (zs 64)).kind = 0 := by decide +kernel
theorem dec_one : decP ([2, 0, 2] ++ zs 61) = some (recOf ([2, 0, 2] ++ zs 61)) ∧ (recOf ([2, 0, 2] ++ zs 61)).kind = 2 := by decide +kernel
def rootP : Rc := recOf ([2, 0, 2] ++ zs 61)
theorem base_record_zero {j : Nat} (hj : j < 16) (h1 : j ≠ 1) (s : St) : recordS 128 (baseP 128) s j = s := by
  obtain ⟨d1, d2, d3⟩ := dec_zero
  unfold recordS
  rw [base_rec_zero hj h1, d1]
  show (if j = 0 ∧ ¬ (recOf (zs 64)).all.all (· == 0) = true then _ else if (recOf (zs 64)).kind ≠ 0 then _ else s) = s
  rw [if_neg (fun h => h.2 d2), if_neg (fun h => h d3)]
theorem record_one {n : Nat} {l : B} {j : Nat} (hj : j ≠ 0) {x : Rc} (hx : decP (recB n l j) = some x) (hk : x.kind ≠ 0) (s : St) : recordS n l s j = { s with nodes := fun i => if i = j then some x else s.nodes i } := by
  unfold recordS
  rw [hx]
  show (if j = 0 ∧ ¬ x.all.all (· == 0) = true then _ else if x.kind ≠ 0 then _ else s) = _
  rw [if_neg (fun h => hj h.1), if_pos hk]
end Ck
end Go.Proofs.YtegplehbcdeeoaaGreatDoor
/- The image without a thing, and the same with two faults: all that is found in them. -/
namespace Go.Proofs.YtegplehbcdeeoaaGreatDoor
open Go.RowKit

namespace Ck
open Pk Pw
theorem meetS_zero (n : Nat) (s : St) (nd : Nat) : meetS n s nd 0 = (s, false) := by unfold meetS; rw [if_pos rfl]
theorem ownS_zero (n : Nat) (l : B) (s : St) (nd size k : Nat) : ownS n l s nd size k 0 = s := by
  unfold ownS
  rw [meetS_zero]
  rfl
theorem tableS_zero (n : Nat) (l : B) (f : St → Nat → Nat → St) (s : St) (nd : Nat) : tableS n l f s nd 0 = s := by
  unfold tableS
  rw [meetS_zero]
  rfl
/-- A record without numbers meets none. -/
theorem numbersS_zero (n : Nat) (l : B) (nd : Nat) (k lk sz : Nat) (s : St) : numbersS n l nd ⟨k, lk, sz, List.replicate 10 0, 0, 0⟩ s = s := by
  unfold numbersS directS
  rw [tableS_zero, tableS_zero]
  have : ∀ j, (List.replicate 10 (0 : Nat)).getD j 0 = 0 := fun j => by
    rw [List.getD_eq_getElem?_getD, List.getElem?_replicate]
    split <;> rfl
  have h : ∀ (r : List Nat) (s : St), r.foldl (fun s j => own1 n l nd ⟨k, lk, sz, List.replicate 10 0, 0, 0⟩ 0 s j ((List.replicate 10 (0 : Nat)).getD j 0)) s = s := by
    intro r
    induction r with
    | nil => intro s; rfl
    | cons x r ih =>
      intro s
      rw [List.foldl_cons, this]
      unfold own1
      rw [ownS_zero]
      exact ih s
  exact h _ s
def rootR : Rc := ⟨2, 2, 0, List.replicate 10 0, 0, 0⟩
def fileR : Rc := ⟨1, 0, 0, List.replicate 10 0, 0, 0⟩
theorem root_is : recOf ([2, 0, 2] ++ zs 61) = rootR := by decide +kernel
theorem file_is : recOf ([1] ++ zs 63) = fileR ∧ decP ([1] ++ zs 63) = some (recOf ([1] ++ zs 63)) := by decide +kernel
theorem takenS_none {n : Nat} {l : B} {s : St} (hh : ∀ i, s.had i = none) : ∀ k, (∀ j, j < k → bitAt (mapB n l) (dataN n + j) = false) → takenS n l s k = s
  | 0, _ => rfl
  | k + 1, h => by
    rw [takenS_succ, takenS_none hh k (fun j hj => h j (by omega))]
    unfold takeS
    rw [hh, if_neg (by decide), h k (by omega), if_neg (by decide)]
/-- What an image of 128 blocks must say so that no block but the superblock counts. -/
structure Img (l : B) (F : List Fnd) (N : Nat → Option Rc) : Prop where
  len : l.length = 65536
  opn : openP l = .ok l
  met : metaS 128 l s00 4096 = { s00 with found := F }
  recs : ∀ s : St, s.nodes = (fun _ => none) → recordsS 128 l s 16 = { s with nodes := N }
  map : ∀ j, j < 27 → bitAt (mapB 128 l) (101 + j) = false
  num : (eachTo N 16).foldl (nums1 128 l) = fun s => s
theorem Img.image {l : B} {F : List Fnd} {N : Nat → Option Rc} (h : Img l F N) : imageP l = (endsS 128 (deepS 128 (reachS (thingsS 128 l { s00 with found := F, nodes := N })))).found := by
  have hA : stA 128 l = { s00 with found := F } := h.met
  have hB : stB 128 l = { s00 with found := F, nodes := N } := by
    unfold stB
    rw [hA]
    exact h.recs _ rfl
  have hC : stC 128 l = { s00 with found := F, nodes := N } := by
    unfold stC
    rw [hB]
    exact congrFun h.num _
  have hD : stD 128 l = { s00 with found := F, nodes := N } := by
    unfold stD
    rw [hC]
    exact takenS_none (fun _ => rfl) 27 h.map
  unfold imageP
  rw [h.opn]
  dsimp only
  rw [h.len]
  unfold stH stG stF stE
  rw [hD]
def nodesA : Nat → Option Rc := fun i => if i = 1 then some rootR else none
def nodesB : Nat → Option Rc := fun i => if i = 2 then some fileR else if i = 1 then some rootR else none
theorem eachA : eachTo nodesA 16 = [(1, rootR)] := by rfl
theorem eachB : eachTo nodesB 16 = [(1, rootR), (2, fileR)] := by rfl
theorem endA_is (l : B) : (endsS 128 (deepS 128 (reachS (thingsS 128 l { s00 with found := [], nodes := nodesA })))).found = [] := by kernel_rfl
theorem endB_is (l : B) : (endsS 128 (deepS 128 (reachS (thingsS 128 l { s00 with found := [⟨3, 0, 0, []⟩], nodes := nodesB })))).found = [⟨3, 0, 0, []⟩, ⟨18, 2, 0, []⟩] := by kernel_rfl
theorem numA (l : B) : (eachTo nodesA 16).foldl (nums1 128 l) = fun s => s := by
  funext s
  rw [eachA]
  exact numbersS_zero 128 l 1 2 2 0 s
theorem numB (l : B) : (eachTo nodesB 16).foldl (nums1 128 l) = fun s => s := by
  funext s
  rw [eachB]
  show numbersS 128 l 2 fileR (numbersS 128 l 1 rootR s) = s
  rw [show numbersS 128 l 1 rootR s = s from numbersS_zero 128 l 1 2 2 0 s]
  exact numbersS_zero 128 l 2 1 0 0 s
/-- An image in three parts. -/
def tri (M C : B) : B := mapA ++ (M ++ C)
theorem tri_len {M C : B} (hM : M.length = 512) (hC : C.length = 14848) : (tri M C).length = 65536 := by
  have := mapA_len
  unfold tri
  rw [List.length_append, List.length_append]
  omega
theorem tri_open {M C : B} (hM : M.length = 512) (hC : C.length = 14848) : openP (tri M C) = .ok (tri M C) := by
  have hA := mapA_len
  refine open_self (n := 128) (by omega) (by omega) (by rw [tri_len hM hC]) ?_ ?_
  · unfold tri
    rw [sub_left (by omega), mapA, sub_left (by rw [super_len]; omega)]
    have := sub_all (superP 128)
    rw [super_len] at this
    exact this
  · rw [← mapA_block (i := 1) (by omega) (by omega)]
    exact sub_left (by omega)
theorem tri_map {M C : B} (hM : M.length = 512) : mapB 128 (tri M C) = M := by
  have hA := mapA_len
  unfold mapB tri
  rw [show 512 * ((128 + 4095) / 4096) = 512 by decide, sub_right 0 (by omega), sub_left (by omega)]
  have := sub_all M
  rw [hM] at this
  exact this
theorem tri_rec {M C : B} (hM : M.length = 512) (j : Nat) : recB 128 (tri M C) j = sub C (64 * j) 64 := by
  have hA := mapA_len
  unfold recB tri
  rw [show 512 * inodesN 128 = 50688 by decide, sub_right (512 + 64 * j) (by omega), sub_right (64 * j) (by omega)]
theorem rec_zero {l : B} {j : Nat} (h : recB 128 l j = zs 64) (s : St) : recordS 128 l s j = s := by
  obtain ⟨d1, d2, d3⟩ := dec_zero
  unfold recordS
  rw [h, d1]
  show (if j = 0 ∧ ¬ (recOf (zs 64)).all.all (· == 0) = true then _ else if (recOf (zs 64)).kind ≠ 0 then _ else s) = s
  rw [if_neg (fun h => h.2 d2), if_neg (fun h => h d3)]
theorem rest_zero {l : B} {s : St} {m : Nat} : ∀ k, (∀ j, m ≤ j → j < m + k → recB 128 l j = zs 64) → recordsS 128 l s (m + k) = recordsS 128 l s m
  | 0, _ => rfl
  | k + 1, h => by
    rw [← Nat.add_assoc, recordsS_succ, rest_zero k (fun j h1 h2 => h j h1 (by omega))]
    exact rec_zero (h _ (by omega) (by omega)) _
theorem root_dec : decP ([2, 0, 2] ++ zs 61) = some rootR := by rw [dec_one.1, root_is]
theorem file_dec : decP ([1] ++ zs 63) = some fileR := by rw [file_is.2, file_is.1]
theorem recsA {l : B} (h0 : recB 128 l 0 = zs 64) (h1 : recB 128 l 1 = [2, 0, 2] ++ zs 61) (h2 : ∀ j, 2 ≤ j → j < 16 → recB 128 l j = zs 64) (s : St) (hs : s.nodes = fun _ => none) : recordsS 128 l s 16 = { s with nodes := nodesA } := by
  have a := rest_zero (l := l) (s := s) (m := 2) 14 (fun j x y => h2 j x (by omega))
  rw [show 2 + 14 = 16 from rfl] at a
  rw [a, recordsS_succ, recordsS_succ, rec_zero h0, record_one (j := 1) (by decide) (x := rootR) (by rw [h1]; exact root_dec) (by decide)]
  show St.mk _ (fun i => if i = 1 then some rootR else (recordsS 128 l s 0).nodes i) _ _ _ _ _ _ = _
  rw [show recordsS 128 l s 0 = s from rfl, hs]
  rfl
theorem recsB {l : B} (h0 : recB 128 l 0 = zs 64) (h1 : recB 128 l 1 = [2, 0, 2] ++ zs 61) (hf : recB 128 l 2 = [1] ++ zs 63) (h2 : ∀ j, 3 ≤ j → j < 16 → recB 128 l j = zs 64) (s : St) (hs : s.nodes = fun _ => none) : recordsS 128 l s 16 = { s with nodes := nodesB } := by
  have a := rest_zero (l := l) (s := s) (m := 3) 13 (fun j x y => h2 j x (by omega))
  rw [show 3 + 13 = 16 from rfl] at a
  rw [a, recordsS_succ, recordsS_succ, recordsS_succ, rec_zero h0, record_one (j := 2) (by decide) (x := fileR) (by rw [hf]; exact file_dec) (by decide), record_one (j := 1) (by decide) (x := rootR) (by rw [h1]; exact root_dec) (by decide)]
  show St.mk _ (fun i => if i = 2 then some fileR else if i = 1 then some rootR else (recordsS 128 l s 0).nodes i) _ _ _ _ _ _ = _
  rw [show recordsS 128 l s 0 = s from rfl, hs]
  rfl
theorem mapC_is : mapC = zs 64 ++ ([2, 0, 2] ++ (zs 61 ++ zs 14720)) := by
  unfold mapC
  have hz : (zs 64).length = 64 := List.length_replicate
  rw [show (14848 : Nat) = 64 + (3 + (61 + 14720)) by omega, zs_add, zs_add, zs_add, set_off (zs 64) _ 64 0 _ (by omega), set_off (zs 64) _ 66 2 _ (by omega)]
  rfl
theorem mapC_len : mapC.length = 14848 := by
  unfold mapC
  rw [List.length_set, List.length_set]
  exact List.length_replicate
theorem mapC_rec0 {j : Nat} (hj : j < 16) (h1 : j ≠ 1) : sub mapC (64 * j) 64 = zs 64 := by
  unfold mapC
  rw [sub_set_out _ (by omega), sub_set_out _ (by omega), sub_zs (by omega)]
theorem mapC_rec1 : sub mapC (64 * 1) 64 = [2, 0, 2] ++ zs 61 := by
  have hz : (zs 64).length = 64 := List.length_replicate
  have h61 : (zs 61).length = 61 := List.length_replicate
  rw [mapC_is, sub_right 0 (by omega), ← List.append_assoc, sub_left (by simp [h61])]
  have := sub_all ([2, 0, 2] ++ zs 61)
  rw [List.length_append, h61] at this
  exact this
theorem imgA : Img (tri mapM mapC) [] nodesA := by
  have hM := mapM_len
  have hC := mapC_len
  refine ⟨tri_len hM hC, tri_open hM hC, ?_, fun s hs => recsA ?_ ?_ ?_ s hs, ?_, numA _⟩
  · refine metaS_none 4096 fun i hi => ?_
    rw [tri_map hM, mapM_at i hi]
    unfold isDataP
    rw [show dataN 128 = 101 by decide]
    by_cases c : i < 101 ∨ 128 ≤ i
    · rw [decide_eq_true c]; simp
    · have c1 : 101 ≤ i := by omega
      have c2 : i < 128 := by omega
      rw [decide_eq_true c1, decide_eq_true c2]
      simp
  · rw [tri_rec hM]; exact mapC_rec0 (by omega) (by omega)
  · rw [tri_rec hM]; exact mapC_rec1
  · intro j h1 h2; rw [tri_rec hM]; exact mapC_rec0 (by omega) (by omega)
  · intro j hj
    rw [tri_map hM, mapM_at _ (by omega), decide_eq_false (by omega)]
theorem image_base : imageP (baseP 128) = [] := by
  rw [base_form]
  exact imgA.image.trans (endA_is _)
end Ck
end Go.Proofs.YtegplehbcdeeoaaGreatDoor
/- The image with two faults: all that is found in it. -/
namespace Go.Proofs.YtegplehbcdeeoaaGreatDoor
open Go.RowKit

namespace Ck
open Pk Pw
theorem metaS_add {n : Nat} {l : B} {s : St} {m : Nat} : ∀ k, (∀ i, m ≤ i → i < m + k → (!isDataP n i && !bitAt (mapB n l) i) = false) → metaS n l s (m + k) = metaS n l s m
  | 0, _ => rfl
  | k + 1, h => by
    rw [← Nat.add_assoc, metaS_succ, h (m + k) (by omega) (by omega), metaS_add k (fun i h1 h2 => h i h1 (by omega))]
    rfl
/-- The bitmap with its first bit off. -/
def mapM1 : B := mapM.set 0 254
theorem mapM1_len : mapM1.length = 512 := by
  unfold mapM1
  rw [List.length_set]
  exact mapM_len
theorem bits254 : ∀ j : Fin 8, ((254 : UInt8).toNat / 2 ^ j.val) % 2 = if j.val = 0 then 0 else 1 := by decide +kernel
theorem mapM1_at (j : Nat) (hj : j < 4096) : bitAt mapM1 j = decide (j ≠ 0 ∧ (j < 101 ∨ 128 ≤ j)) := by
  have hl := mapM_len
  by_cases c : j < 8
  · have h0 : mapM1.getD (j / 8) 0 = 254 := by
      unfold mapM1
      rw [show j / 8 = 0 by omega, List.getD_eq_getElem?_getD, List.getElem?_set_self (by omega)]
      rfl
    have hb := bits254 ⟨j % 8, by omega⟩
    unfold bitAt
    rw [h0]
    simp only at hb
    rw [hb]
    by_cases e : j = 0
    · subst e; rfl
    · rw [if_neg (by omega), decide_eq_true ⟨e, by omega⟩]; rfl
  · have h0 : bitAt mapM1 j = bitAt mapM j := by
      unfold bitAt mapM1
      rw [List.getD_eq_getElem?_getD, List.getElem?_set_ne (by omega), ← List.getD_eq_getElem?_getD]
    rw [h0, mapM_at j hj]
    by_cases e : j < 101 ∨ 128 ≤ j
    · rw [decide_eq_true e, decide_eq_true ⟨by omega, e⟩]
    · rw [decide_eq_false e, decide_eq_false (fun h => e h.2)]
def mapC1 : B := mapC.set 128 1
theorem mapC1_len : mapC1.length = 14848 := by
  unfold mapC1
  rw [List.length_set]
  exact mapC_len
theorem mapC1_rec {j : Nat} (h : j ≠ 2) : sub mapC1 (64 * j) 64 = sub mapC (64 * j) 64 := by
  unfold mapC1
  exact sub_set_out _ (by omega)
theorem mapC1_two : sub mapC1 (64 * 2) 64 = [1] ++ zs 63 := by
  have hz : (zs 64).length = 64 := List.length_replicate
  have h61 : (zs 61).length = 61 := List.length_replicate
  have h63 : (zs 63).length = 63 := List.length_replicate
  have e : mapC1 = (zs 64 ++ ([2, 0, 2] ++ zs 61)) ++ (([1] ++ zs 63) ++ zs 14656) := by
    unfold mapC1
    rw [mapC_is, show zs 64 ++ ([2, 0, 2] ++ (zs 61 ++ zs 14720)) = (zs 64 ++ ([2, 0, 2] ++ zs 61)) ++ zs 14720 by simp, set_off _ (zs 14720) 128 0 _ (by simp [hz, h61]), show (14720 : Nat) = 1 + (63 + 14656) by omega, zs_add, zs_add, List.append_assoc [1]]
    rfl
  rw [e, sub_right 0 (by simp [hz, h61]), sub_left (by simp [h63])]
  have := sub_all ([1] ++ zs 63)
  rw [List.length_append, h63] at this
  exact this
theorem imgB : Img (tri mapM1 mapC1) [⟨3, 0, 0, []⟩] nodesB := by
  have hM := mapM1_len
  have hC := mapC1_len
  refine ⟨tri_len hM hC, tri_open hM hC, ?_, fun s hs => recsB ?_ ?_ ?_ ?_ s hs, ?_, numB _⟩
  · have h := metaS_add (n := 128) (l := tri mapM1 mapC1) (s := s00) (m := 1) 4095 fun i h0 hi => by
      rw [tri_map hM, mapM1_at i (by omega)]
      unfold isDataP
      rw [show dataN 128 = 101 by decide]
      by_cases c : i < 101 ∨ 128 ≤ i
      · rw [decide_eq_true (show i ≠ 0 ∧ (i < 101 ∨ 128 ≤ i) from ⟨by omega, c⟩)]; simp
      · have c1 : 101 ≤ i := by omega
        have c2 : i < 128 := by omega
        rw [decide_eq_true c1, decide_eq_true c2]
        simp
    rw [show 1 + 4095 = 4096 from rfl] at h
    rw [h, metaS_succ, tri_map hM, mapM1_at 0 (by omega)]
    rfl
  · rw [tri_rec hM, mapC1_rec (by omega)]; exact mapC_rec0 (by omega) (by omega)
  · rw [tri_rec hM, mapC1_rec (by omega)]; exact mapC_rec1
  · rw [tri_rec hM]; exact mapC1_two
  · intro j h1 h2; rw [tri_rec hM, mapC1_rec (by omega)]; exact mapC_rec0 (by omega) (by omega)
  · intro j hj
    rw [tri_map hM, mapM1_at _ (by omega), decide_eq_false (by omega)]
theorem poked_two (z : B) : pokedP z po2 = pokeTo (pokeTo z ⟨98, 0, [254]⟩ 1) ⟨99, 128, [1]⟩ 1 := rfl
theorem poked_form : pokedP (tri mapM mapC) po2 = tri mapM1 mapC1 := by
  have hM := mapM_len
  have hC := mapC_len
  have hA := mapA_len
  have hl := tri_len hM hC
  have h1 : pokeTo (tri mapM mapC) ⟨98, 0, [254]⟩ 1 = tri mapM1 mapC := by
    rw [pokeTo_succ, if_neg (by decide)]
    have h0 : pokeTo (tri mapM mapC) ⟨98, 0, [254]⟩ 0 = tri mapM mapC := by unfold pokeTo; rw [if_neg (by decide)]; rfl
    rw [h0, hl, if_pos (by decide)]
    show (tri mapM mapC).set 50176 254 = _
    unfold tri mapM1
    rw [set_off mapA _ 50176 0 _ (by omega), List.set_append_left _ _ (by omega)]
  have h2 : pokeTo (tri mapM1 mapC) ⟨99, 128, [1]⟩ 1 = tri mapM1 mapC1 := by
    have hM1 := mapM1_len
    rw [pokeTo_succ, if_neg (by decide)]
    have h0 : pokeTo (tri mapM1 mapC) ⟨99, 128, [1]⟩ 0 = tri mapM1 mapC := by unfold pokeTo; rw [if_neg (by decide)]; rfl
    rw [h0, tri_len hM1 hC, if_pos (by decide)]
    show (tri mapM1 mapC).set 50816 1 = _
    unfold tri mapC1
    rw [set_off mapA _ 50816 640 _ (by omega), set_off mapM1 _ 640 128 _ (by omega)]
  rw [poked_two, h1, h2]
theorem image_poked : imageP (pokedP (baseP 128) po2) = [⟨3, 0, 0, []⟩, ⟨18, 2, 0, []⟩] := by
  rw [base_form, show mapA ++ (mapM ++ mapC) = tri mapM mapC from rfl, poked_form]
  exact imgB.image.trans (endB_is _)
end Ck
end Go.Proofs.YtegplehbcdeeoaaGreatDoor
