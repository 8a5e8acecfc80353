/- link, Unlink, rmdir. -/
import Derived.Test.YtlnnbjgfpiefdaaGreatRamB19
namespace Go.Proofs.YtlnnbjgfpiefdaaGreat
open Go.RowKit Go.Maps Go.Shelf

namespace Fs
/-- What a call that gives an error alone comes to. -/
def Errd (fb : Nat) (n : Int) (nb : Nat) (W : World) (L : Lay) (uv : Value) (r : Tree × Except Int Int) (e : Ending) (W' : World) : Prop :=
  ∃ L', Sim W' L' fb n nb (.slice none 0 0) [] ∧ WF L' nb ∧ stOf L' nb = r.1 ∧ Step W (Mine L uv) W' (Mine L' (.slice none 0 0)) ∧
    match r.2 with
    | .error z => e = .returned (.int .i64 z) ∧ z ≠ 0
    | .ok _ => e = .returned (.int .i64 0)
/-- With a number that none asks for. -/
def Errd2 (fb : Nat) (n : Int) (nb : Nat) (W : World) (L : Lay) (uv : Value) (r : Tree × Except Int Int) (e : Ending) (W' : World) : Prop :=
  ∃ L' o, Sim W' L' fb n nb (.slice none 0 0) [] ∧ WF L' nb ∧ stOf L' nb = r.1 ∧ Step W (Mine L uv) W' (Mine L' (.slice none 0 0)) ∧
    match r.2 with
    | .error z => e = .returned (.tuple #[.int .i64 o, .int .i64 z]) ∧ z ≠ 0
    | .ok _ => e = .returned (.tuple #[.int .i64 o, .int .i64 0])
section
variable {W : World} {L : Lay} {fb : Nat} {n : Int} {nb : Nat} {uv : Value} {vals : List Value}
set_option maxRecDepth 100000 in
set_option maxHeartbeats 4000000 in
theorem link_st (h : Sim W L fb n nb uv vals) (hw : WF L nb) (hF : Fit (stOf L nb)) (hn1 : 128 ≤ n) (hn2 : n ≤ 16384) (old other : Tx) (ho : old.length ≤ 140737488355328) (hr : other.length ≤ 140737488355328)
    (hto : ∀ s' t v, linkD (stOf L nb) old other = .ok (s', t, v) → TOk s') :
    Calls Tryz.prog 32 #[.pointer (some ⟨fb, 0, none⟩), .string (mk old), .string (mk other)] W fun e W' => Errd fb n nb W L uv (fin n (stOf L nb) (linkD (stOf L nb) old other)) e W' := by
  obtain ⟨W1, hW1⟩ : ∃ x, x = ((W.alloc (.cells #[evP fb] 23)).alloc (.cells #[.string (mk old)] 9)).alloc (.cells #[.string (mk other)] 9) := ⟨_, rfl⟩
  have hb1 : Below W.heap.size W W1 := by rw [hW1]; exact (((Below.refl _ _).alloc (Nat.le_refl _) _).alloc (by simp) _).alloc (by simp; omega) _
  have S1 := h.below hb1
  have hs1 : W1.heap.size = W.heap.size + 3 := by rw [hW1]; simp
  have hoff : ∀ x, W.heap.size ≤ x → ¬ Mine L uv x := fun x hx => h.not_mine hx
  have bf1 : Blk W1 W.heap.size #[evP fb] 23 := by rw [hW1]; exact ((Blk.newAt _ _ rfl).alloc _).alloc _
  have bo1 : Blk W1 (W.heap.size + 1) #[.string (mk old)] 9 := by rw [hW1]; exact (Blk.newAt _ _ (by simp)).alloc _
  have bn1 : Blk W1 (W.heap.size + 2) #[.string (mk other)] 9 := by rw [hW1]; exact Blk.newAt _ _ (by simp)
  have HC := call_st S1 hw hn1 hn2 58 #[evP (W.heap.size + 1), evP (W.heap.size + 2), evP W.heap.size] (enters_of Tryz.func58 (by kernel_rfl) rfl) (fun _ => False)
    (fun x hx => hx.elim) (fun _ _ => True) (fun v w w' hv hx => trivial) (linkD (stOf L nb) old other) (fun w Sw Tw hsz => by
      have o : ∀ (x : Nat) (xs : Array Value) (t : TypeId), W.heap.size ≤ x → Blk W1 x xs t → Off w L (.slice none 0 0) x xs t := fun x xs t hx hb => Off.step ⟨hb, hoff x hx⟩ Tw
      exact link1_st Sw hw hF old other ho hr (W.heap.size + 1) (W.heap.size + 2) W.heap.size (o _ _ _ (by omega) bo1) (o _ _ _ (by omega) bn1) (o _ _ _ (by omega) bf1) hto)
  unfold fnV evP Ended at HC
  rw [hW1] at HC
  unfold evP at HC
  have Hall := Lib.hid (And.intro hb1 (And.intro hs1 (And.intro hoff hW1)))
  clear bf1 bo1 bn1 hto S1 hb1 hs1 hoff hW1
  generalize fin n (stOf L nb) (linkD (stOf L nb) old other) = r at *
  obtain ⟨s', r⟩ := r
  unfold Errd
  dsimp only at HC ⊢
  cases r with
  | error z =>
    go_enter Tryz.func32, Tryz.ntmps32
    go_wp2_with (go_at_call 44; refine HC.mono ?_; rintro e w3 ⟨L3, S3, F3, st3, T3, z3, rfl, hzn, v, hv⟩)
    go_ret
    obtain ⟨hb1, hs1, hoff, hW1⟩ := Hall
    rw [hW1] at hb1
    exact ⟨L3, S3, F3, st3, Step.unz hb1 T3 (fun x hx => hx.elim), rfl, hzn⟩
  | ok v =>
    go_enter Tryz.func32, Tryz.ntmps32
    go_wp2_with (go_at_call 44; refine HC.mono ?_; rintro e w3 ⟨L3, S3, F3, st3, T3, z3, rfl, hv⟩)
    go_ret
    obtain ⟨hb1, hs1, hoff, hW1⟩ := Hall
    rw [hW1] at hb1
    exact ⟨L3, S3, F3, st3, Step.unz hb1 T3 (fun x hx => hx.elim), rfl⟩
set_option maxRecDepth 100000 in
set_option maxHeartbeats 4000000 in
theorem rmdir_st (h : Sim W L fb n nb uv vals) (hw : WF L nb) (hF : Fit (stOf L nb)) (hn1 : 128 ≤ n) (hn2 : n ≤ 16384) (p : Tx) (hp : p.length ≤ 140737488355328)
    (hto : ∀ s' t v, rmdirD (stOf L nb) p = .ok (s', t, v) → TOk s') :
    Calls Tryz.prog 30 #[.pointer (some ⟨fb, 0, none⟩), .string (mk p)] W fun e W' => Errd fb n nb W L uv (fin n (stOf L nb) (rmdirD (stOf L nb) p)) e W' := by
  obtain ⟨W1, hW1⟩ : ∃ x, x = (W.alloc (.cells #[evP fb] 23)).alloc (.cells #[.string (mk p)] 9) := ⟨_, rfl⟩
  have hb1 : Below W.heap.size W W1 := by rw [hW1]; exact ((Below.refl _ _).alloc (Nat.le_refl _) _).alloc (by simp) _
  have S1 := h.below hb1
  have hs1 : W1.heap.size = W.heap.size + 2 := by rw [hW1]; simp
  have hoff : ∀ x, W.heap.size ≤ x → ¬ Mine L uv x := fun x hx => h.not_mine hx
  have bf1 : Blk W1 W.heap.size #[evP fb] 23 := by rw [hW1]; exact (Blk.newAt _ _ rfl).alloc _
  have bp1 : Blk W1 (W.heap.size + 1) #[.string (mk p)] 9 := by rw [hW1]; exact Blk.newAt _ _ (by simp)
  have HC := call_st S1 hw hn1 hn2 52 #[evP W.heap.size, evP (W.heap.size + 1)] (enters_of Tryz.func52 (by kernel_rfl) rfl) (fun _ => False)
    (fun x hx => hx.elim) (fun _ _ => True) (fun v w w' hv hx => trivial) (rmdirD (stOf L nb) p) (fun w Sw Tw hsz => by
      have o : ∀ (x : Nat) (xs : Array Value) (t : TypeId), W.heap.size ≤ x → Blk W1 x xs t → Off w L (.slice none 0 0) x xs t := fun x xs t hx hb => Off.step ⟨hb, hoff x hx⟩ Tw
      exact rmdir1_st Sw hw hF p hp W.heap.size (W.heap.size + 1) (o _ _ _ (by omega) bf1) (o _ _ _ (by omega) bp1) hto)
  unfold fnV evP Ended at HC
  rw [hW1] at HC
  unfold evP at HC
  have Hall := Lib.hid (And.intro hb1 (And.intro hs1 (And.intro hoff hW1)))
  clear bf1 bp1 hto S1 hb1 hs1 hoff hW1
  generalize fin n (stOf L nb) (rmdirD (stOf L nb) p) = r at *
  obtain ⟨s', r⟩ := r
  unfold Errd
  dsimp only at HC ⊢
  cases r with
  | error z =>
    go_enter Tryz.func30, Tryz.ntmps30
    go_wp2_with (go_at_call 44; refine HC.mono ?_; rintro e w3 ⟨L3, S3, F3, st3, T3, z3, rfl, hzn, v, hv⟩)
    go_ret
    obtain ⟨hb1, hs1, hoff, hW1⟩ := Hall
    rw [hW1] at hb1
    exact ⟨L3, S3, F3, st3, Step.unz hb1 T3 (fun x hx => hx.elim), rfl, hzn⟩
  | ok v =>
    go_enter Tryz.func30, Tryz.ntmps30
    go_wp2_with (go_at_call 44; refine HC.mono ?_; rintro e w3 ⟨L3, S3, F3, st3, T3, z3, rfl, hv⟩)
    go_ret
    obtain ⟨hb1, hs1, hoff, hW1⟩ := Hall
    rw [hW1] at hb1
    exact ⟨L3, S3, F3, st3, Step.unz hb1 T3 (fun x hx => hx.elim), rfl⟩
set_option maxRecDepth 100000 in
theorem unlink_results {tmps : Array Value} {bi : Nat} {w : World} {v z : Value} (h6 : tmps[6]? = some (.pointer (some ⟨bi, 0, none⟩))) (h7 : tmps[7]? = some z) (hc : w.cell? ⟨bi, 0, none⟩ = some v) : (results Tryz.f29 tmps).run Tryz.prog w = .ok (.tuple #[v, z]) w := by
  simp [results, Tryz.results29, go_sem, h6, h7, hc]
set_option maxRecDepth 100000 in
set_option maxHeartbeats 4000000 in
theorem unlink_st (h : Sim W L fb n nb uv vals) (hw : WF L nb) (hF : Fit (stOf L nb)) (hn1 : 128 ≤ n) (hn2 : n ≤ 16384) (p : Tx) (hp : p.length ≤ 140737488355328) (hold : Bool)
    (hto : ∀ s' t v, unlinkD (stOf L nb) p hold = .ok (s', t, v) → TOk s') :
    Calls Tryz.prog 29 #[.pointer (some ⟨fb, 0, none⟩), .string (mk p), .bool hold] W fun e W' => Errd2 fb n nb W L uv (fin n (stOf L nb) (unlinkD (stOf L nb) p hold)) e W' := by
  obtain ⟨W1, hW1⟩ : ∃ x, x = (((W.alloc (.cells #[evP fb] 23)).alloc (.cells #[.string (mk p)] 9)).alloc (.cells #[.bool hold] 4)).alloc (.cells #[.int .i64 0] 3) := ⟨_, rfl⟩
  have hb1 : Below W.heap.size W W1 := by rw [hW1]; exact ((((Below.refl _ _).alloc (Nat.le_refl _) _).alloc (by simp) _).alloc (by simp; omega) _).alloc (by simp; omega) _
  have S1 := h.below hb1
  have hs1 : W1.heap.size = W.heap.size + 4 := by rw [hW1]; simp
  have hoff : ∀ x, W.heap.size ≤ x → ¬ Mine L uv x := fun x hx => h.not_mine hx
  have bf1 : Blk W1 W.heap.size #[evP fb] 23 := by rw [hW1]; exact (((Blk.newAt _ _ rfl).alloc _).alloc _).alloc _
  have bp1 : Blk W1 (W.heap.size + 1) #[.string (mk p)] 9 := by rw [hW1]; exact ((Blk.newAt _ _ (by simp)).alloc _).alloc _
  have bh1 : Blk W1 (W.heap.size + 2) #[.bool hold] 4 := by rw [hW1]; exact (Blk.newAt _ _ (by simp)).alloc _
  have bi1 : Blk W1 (W.heap.size + 3) #[.int .i64 0] 3 := by rw [hW1]; exact Blk.newAt _ _ (by simp)
  have HC := call_st S1 hw hn1 hn2 45 #[evP W.heap.size, evP (W.heap.size + 1), evP (W.heap.size + 2), evP (W.heap.size + 3)] (enters_of Tryz.func45 (by kernel_rfl) rfl) (· = W.heap.size + 3)
    (fun x hx => ⟨by omega, hoff x (by omega)⟩) (Holds (W.heap.size + 3) 3) (fun v w w' hv hx => Blk.same hv (hx _ rfl)) (unlinkD (stOf L nb) p hold) (fun w Sw Tw hsz => by
      have o : ∀ (x : Nat) (xs : Array Value) (t : TypeId), W.heap.size ≤ x → Blk W1 x xs t → Off w L (.slice none 0 0) x xs t := fun x xs t hx hb => Off.step ⟨hb, hoff x hx⟩ Tw
      exact unlink1_st Sw hw hF p hp hold W.heap.size (W.heap.size + 1) (W.heap.size + 2) (W.heap.size + 3) (o _ _ _ (by omega) bf1) (o _ _ _ (by omega) bp1) (o _ _ _ (by omega) bh1) (o _ _ _ (by omega) bi1) hto)
  unfold fnV evP Ended at HC
  rw [hW1] at HC
  unfold evP at HC
  have Hall := Lib.hid (And.intro hb1 (And.intro hs1 (And.intro hoff hW1)))
  clear bf1 bp1 bh1 bi1 hto S1 hb1 hs1 hoff hW1
  generalize fin n (stOf L nb) (unlinkD (stOf L nb) p hold) = r at *
  obtain ⟨s', r⟩ := r
  unfold Errd2
  dsimp only at HC ⊢
  cases r with
  | error z =>
    go_enter Tryz.func29, Tryz.ntmps29
    go_wp2_with (go_at_call 44; refine HC.mono ?_; rintro e w3 ⟨L3, S3, F3, st3, T3, z3, rfl, hzn, v, hv⟩; have g0 := hv.cell 0; have g1 := hv.free 0)
    obtain ⟨hb1, hs1, hoff, hW1⟩ := Hall
    rw [hW1] at hb1
    exact bodyPost_ret (v := .tuple #[.int .i64 v, .int .i64 z]) (unlink_results rfl rfl ((hv.set 0 (.int .i64 v)).cell 0)) rfl ⟨L3, v, S3.same (by simp) (fun b hb => Below.heap_setCell _ _ _ _ (fun e => z3 _ rfl (by rw [← show b = W.heap.size + 3 from e]; exact hb))), F3, st3, (Step.unz hb1 T3 (fun x hx => by omega)).beside rfl rfl rfl (by simp) (fun k hk => Below.heap_setCell _ _ _ _ (fun e => by have e' : k = W.heap.size + 3 := e; omega)), rfl, hzn⟩
  | ok v =>
    go_enter Tryz.func29, Tryz.ntmps29
    go_wp2_with (go_at_call 44; refine HC.mono ?_; rintro e w3 ⟨L3, S3, F3, st3, T3, z3, rfl, hv⟩; have g0 := hv.cell 0; have g1 := hv.free 0)
    obtain ⟨hb1, hs1, hoff, hW1⟩ := Hall
    rw [hW1] at hb1
    exact bodyPost_ret (v := .tuple #[.int .i64 v, .int .i64 0]) (unlink_results rfl rfl ((hv.set 0 (.int .i64 v)).cell 0)) rfl ⟨L3, v, S3.same (by simp) (fun b hb => Below.heap_setCell _ _ _ _ (fun e => z3 _ rfl (by rw [← show b = W.heap.size + 3 from e]; exact hb))), F3, st3, (Step.unz hb1 T3 (fun x hx => by omega)).beside rfl rfl rfl (by simp) (fun k hk => Below.heap_setCell _ _ _ _ (fun e => by have e' : k = W.heap.size + 3 := e; omega)), rfl⟩
end
end Fs
end Go.Proofs.YtlnnbjgfpiefdaaGreat
