/- answer: kinds of calls. -/
import Derived.Test.YtlnnbjgfpiefdaaGreatRamB32
namespace Go.Proofs.YtlnnbjgfpiefdaaGreat
open Go.RowKit Go.Maps Go.Shelf

namespace Fs
section
variable {W X w2 w3 : World} {L L2 : Lay} {fb : Nat} {n : Int} {nb : Nat} {uv : Value} {vals : List Value}
set_option maxRecDepth 100000 in
set_option maxHeartbeats 8000000 in
theorem answer6 (h : Sim W L fb n nb (.slice none 0 0) []) (hw : WF L nb) (hR : Asked n (stOf L nb)) (c : Call) (hc : CallOk c) (hk : c.kind = 6) (hto : ∀ s' t v, unlinkD (stOf L nb) c.path false = .ok (s', t, v) → TOk s') :
    Calls Tryz.prog 18 #[.pointer (some ⟨fb, 0, none⟩), .agg (callC c)] W fun e W' => Answd fb n nb W L (doC n (stOf L nb) c) e W' := by
  obtain ⟨X, hX⟩ : ∃ x, x = (W.alloc (.cells (callC c) 38)).alloc (.cells #[.int .i64 0, .int .i64 0, .string { data := #[] }, .int .i64 0, .int .i64 0, .int .i64 0, .int .i64 0, .int .i64 0, .slice none 0 0, .int .i64 0, .int .i64 0, .int .i64 0, .int .i64 0] 42) := ⟨_, rfl⟩
  have hbX : Below W.heap.size W X := by rw [hX]; exact ((Below.refl _ _).alloc (Nat.le_refl _) _).alloc (by simp) _
  have bc : Blk X W.heap.size (callC c) 38 := by rw [hX]; exact (Blk.newAt _ _ rfl).alloc _
  have ba : Blk X (W.heap.size + 1) #[.int .i64 0, .int .i64 0, .string { data := #[] }, .int .i64 0, .int .i64 0, .int .i64 0, .int .i64 0, .int .i64 0, .slice none 0 0, .int .i64 0, .int .i64 0, .int .i64 0, .int .i64 0] 42 := by rw [hX]; exact Blk.newAt _ _ (by simp)
  have SX := h.below hbX
  have hla := ba.lt
  have hm : ¬ Mine L (.slice none 0 0) (W.heap.size + 1) := h.not_mine (by omega)
  have HC := unlink_st SX hw hR.snug.toFit hR.n1 hR.n2 c.path hc.path false hto
  rw [doC_6 n _ hk]
  unfold callC at *
  rw [hk] at hX bc ⊢
  have Hk := Lib.hid hk
  clear hk
  generalize fin n (stOf L nb) (unlinkD (stOf L nb) c.path false) = r at *
  obtain ⟨s0, r⟩ := r
  unfold Errd2 at HC
  unfold ansE
  dsimp only at HC ⊢
  cases r with
  | error z =>
    dsimp only at HC ⊢
    go_enter Tryz.func18, Tryz.ntmps18
    go_wp2_with fail
    rw [← hX]
    clear hX
    refine HC.mono ?_
    rintro e w2 ⟨L2, o, S2, F2, st2, T2, rfl, hzn⟩
    have ba2 := ba.same (T2.block _ hla hm).1
    have z0 := ba2.cell 0
    have f0 := ba2.free 0
    have bq : Blk (w2.setCell ⟨W.heap.size + 1, 0, none⟩ (.int .i64 z)) (W.heap.size + 1) #[.int .i64 z, .int .i64 0, .string { data := #[] }, .int .i64 0, .int .i64 0, .int .i64 0, .int .i64 0, .int .i64 0, .slice none 0 0, .int .i64 0, .int .i64 0, .int .i64 0, .int .i64 0] 42 := (ba2.set 0 (.int .i64 z))
    have hld := load_answer bq rfl
    have hst := store_row (ys := #[.int .i64 z, .int .i64 0, .string { data := #[] }, .int .i64 0, .int .i64 0, .int .i64 0, .int .i64 0, .int .i64 0, .slice none 0 0, .int .i64 0, .int .i64 0, .int .i64 0, .int .i64 0]) (ty := 42) bq info_answer rfl (by simp [Value.oneCell'])
    obtain ⟨S3, T3⟩ := answ_end (w3 := (w2.setCell ⟨W.heap.size + 1, 0, none⟩ (.int .i64 z)).setRow (W.heap.size + 1) #[.int .i64 z, .int .i64 0, .string { data := #[] }, .int .i64 0, .int .i64 0, .int .i64 0, .int .i64 0, .int .i64 0, .slice none 0 0, .int .i64 0, .int .i64 0, .int .i64 0, .int .i64 0]) hbX hla h T2 S2 rfl rfl rfl (by simp) (fun b hb => (setRow_heap _ _ _ _ hb).trans (Below.heap_setCell _ _ _ _ hb))
    have Hz := Lib.hid (And.intro S3 (And.intro T3 (And.intro F2 (And.intro st2 bq))))
    clear S3 T3 F2 st2 bq S2 T2 ba2 hm hla ba bc SX hbX h
    go_wp2_with (first | (refine wpList_load_run _ rfl (.tmp 4) 42 rfl _ hld ?_) | (refine wpList_store_run _ rfl (.tmp 4) (.tmp 124) 42 rfl _ hst ?_))
    obtain ⟨S3, T3, F2, st2, bq⟩ := Hz
    exact bodyPost_ret (answer_results rfl (bq.setRow _)) rfl ⟨L2, S3, F2, st2, T3, _, rfl, rfl, rfl, (by simp [Value.oneCell']), fun h0 => absurd h0 hzn⟩
  | ok v =>
    dsimp only at HC ⊢
    go_enter Tryz.func18, Tryz.ntmps18
    go_wp2_with fail
    rw [← hX]
    clear hX
    refine HC.mono ?_
    rintro e w2 ⟨L2, o, S2, F2, st2, T2, rfl⟩
    have ba2 := ba.same (T2.block _ hla hm).1
    have z0 := ba2.cell 0
    have f0 := ba2.free 0
    have bq : Blk (w2.setCell ⟨W.heap.size + 1, 0, none⟩ (.int .i64 0)) (W.heap.size + 1) #[.int .i64 0, .int .i64 0, .string { data := #[] }, .int .i64 0, .int .i64 0, .int .i64 0, .int .i64 0, .int .i64 0, .slice none 0 0, .int .i64 0, .int .i64 0, .int .i64 0, .int .i64 0] 42 := (ba2.set 0 (.int .i64 0))
    have hld := load_answer bq rfl
    have hst := store_row (ys := #[.int .i64 0, .int .i64 0, .string { data := #[] }, .int .i64 0, .int .i64 0, .int .i64 0, .int .i64 0, .int .i64 0, .slice none 0 0, .int .i64 0, .int .i64 0, .int .i64 0, .int .i64 0]) (ty := 42) bq info_answer rfl (by simp [Value.oneCell'])
    obtain ⟨S3, T3⟩ := answ_end (w3 := (w2.setCell ⟨W.heap.size + 1, 0, none⟩ (.int .i64 0)).setRow (W.heap.size + 1) #[.int .i64 0, .int .i64 0, .string { data := #[] }, .int .i64 0, .int .i64 0, .int .i64 0, .int .i64 0, .int .i64 0, .slice none 0 0, .int .i64 0, .int .i64 0, .int .i64 0, .int .i64 0]) hbX hla h T2 S2 rfl rfl rfl (by simp) (fun b hb => (setRow_heap _ _ _ _ hb).trans (Below.heap_setCell _ _ _ _ hb))
    have Hz := Lib.hid (And.intro S3 (And.intro T3 (And.intro F2 (And.intro st2 bq))))
    clear S3 T3 F2 st2 bq S2 T2 ba2 hm hla ba bc SX hbX h
    go_wp2_with (first | (refine wpList_load_run _ rfl (.tmp 4) 42 rfl _ hld ?_) | (refine wpList_store_run _ rfl (.tmp 4) (.tmp 124) 42 rfl _ hst ?_))
    obtain ⟨S3, T3, F2, st2, bq⟩ := Hz
    exact bodyPost_ret (answer_results rfl (bq.setRow _)) rfl ⟨L2, S3, F2, st2, T3, _, rfl, rfl, rfl, (by simp [Value.oneCell']), fun _ => ⟨.slice none 0 0, rfl, World.ownsRow_nil _ _ _ _, by simp, fun g hg => by cases hg⟩⟩
set_option maxRecDepth 100000 in
set_option maxHeartbeats 8000000 in
theorem answer7 (h : Sim W L fb n nb (.slice none 0 0) []) (hw : WF L nb) (hR : Asked n (stOf L nb)) (c : Call) (hc : CallOk c) (hk : c.kind = 7) (hto : ∀ s' t v, rmdirD (stOf L nb) c.path = .ok (s', t, v) → TOk s') :
    Calls Tryz.prog 18 #[.pointer (some ⟨fb, 0, none⟩), .agg (callC c)] W fun e W' => Answd fb n nb W L (doC n (stOf L nb) c) e W' := by
  obtain ⟨X, hX⟩ : ∃ x, x = (W.alloc (.cells (callC c) 38)).alloc (.cells #[.int .i64 0, .int .i64 0, .string { data := #[] }, .int .i64 0, .int .i64 0, .int .i64 0, .int .i64 0, .int .i64 0, .slice none 0 0, .int .i64 0, .int .i64 0, .int .i64 0, .int .i64 0] 42) := ⟨_, rfl⟩
  have hbX : Below W.heap.size W X := by rw [hX]; exact ((Below.refl _ _).alloc (Nat.le_refl _) _).alloc (by simp) _
  have bc : Blk X W.heap.size (callC c) 38 := by rw [hX]; exact (Blk.newAt _ _ rfl).alloc _
  have ba : Blk X (W.heap.size + 1) #[.int .i64 0, .int .i64 0, .string { data := #[] }, .int .i64 0, .int .i64 0, .int .i64 0, .int .i64 0, .int .i64 0, .slice none 0 0, .int .i64 0, .int .i64 0, .int .i64 0, .int .i64 0] 42 := by rw [hX]; exact Blk.newAt _ _ (by simp)
  have SX := h.below hbX
  have hla := ba.lt
  have hm : ¬ Mine L (.slice none 0 0) (W.heap.size + 1) := h.not_mine (by omega)
  have HC := rmdir_st SX hw hR.snug.toFit hR.n1 hR.n2 c.path hc.path hto
  rw [doC_7 n _ hk]
  unfold callC at *
  rw [hk] at hX bc ⊢
  have Hk := Lib.hid hk
  clear hk
  generalize fin n (stOf L nb) (rmdirD (stOf L nb) c.path) = r at *
  obtain ⟨s0, r⟩ := r
  unfold Errd at HC
  unfold ansE
  dsimp only at HC ⊢
  cases r with
  | error z =>
    dsimp only at HC ⊢
    go_enter Tryz.func18, Tryz.ntmps18
    go_wp2_with fail
    rw [← hX]
    clear hX
    refine HC.mono ?_
    rintro e w2 ⟨L2, S2, F2, st2, T2, rfl, hzn⟩
    have ba2 := ba.same (T2.block _ hla hm).1
    have z0 := ba2.cell 0
    have f0 := ba2.free 0
    have bq : Blk (w2.setCell ⟨W.heap.size + 1, 0, none⟩ (.int .i64 z)) (W.heap.size + 1) #[.int .i64 z, .int .i64 0, .string { data := #[] }, .int .i64 0, .int .i64 0, .int .i64 0, .int .i64 0, .int .i64 0, .slice none 0 0, .int .i64 0, .int .i64 0, .int .i64 0, .int .i64 0] 42 := (ba2.set 0 (.int .i64 z))
    have hld := load_answer bq rfl
    have hst := store_row (ys := #[.int .i64 z, .int .i64 0, .string { data := #[] }, .int .i64 0, .int .i64 0, .int .i64 0, .int .i64 0, .int .i64 0, .slice none 0 0, .int .i64 0, .int .i64 0, .int .i64 0, .int .i64 0]) (ty := 42) bq info_answer rfl (by simp [Value.oneCell'])
    obtain ⟨S3, T3⟩ := answ_end (w3 := (w2.setCell ⟨W.heap.size + 1, 0, none⟩ (.int .i64 z)).setRow (W.heap.size + 1) #[.int .i64 z, .int .i64 0, .string { data := #[] }, .int .i64 0, .int .i64 0, .int .i64 0, .int .i64 0, .int .i64 0, .slice none 0 0, .int .i64 0, .int .i64 0, .int .i64 0, .int .i64 0]) hbX hla h T2 S2 rfl rfl rfl (by simp) (fun b hb => (setRow_heap _ _ _ _ hb).trans (Below.heap_setCell _ _ _ _ hb))
    have Hz := Lib.hid (And.intro S3 (And.intro T3 (And.intro F2 (And.intro st2 bq))))
    clear S3 T3 F2 st2 bq S2 T2 ba2 hm hla ba bc SX hbX h
    go_wp2_with (first | (refine wpList_load_run _ rfl (.tmp 4) 42 rfl _ hld ?_) | (refine wpList_store_run _ rfl (.tmp 4) (.tmp 124) 42 rfl _ hst ?_))
    obtain ⟨S3, T3, F2, st2, bq⟩ := Hz
    exact bodyPost_ret (answer_results rfl (bq.setRow _)) rfl ⟨L2, S3, F2, st2, T3, _, rfl, rfl, rfl, (by simp [Value.oneCell']), fun h0 => absurd h0 hzn⟩
  | ok v =>
    dsimp only at HC ⊢
    go_enter Tryz.func18, Tryz.ntmps18
    go_wp2_with fail
    rw [← hX]
    clear hX
    refine HC.mono ?_
    rintro e w2 ⟨L2, S2, F2, st2, T2, rfl⟩
    have ba2 := ba.same (T2.block _ hla hm).1
    have z0 := ba2.cell 0
    have f0 := ba2.free 0
    have bq : Blk (w2.setCell ⟨W.heap.size + 1, 0, none⟩ (.int .i64 0)) (W.heap.size + 1) #[.int .i64 0, .int .i64 0, .string { data := #[] }, .int .i64 0, .int .i64 0, .int .i64 0, .int .i64 0, .int .i64 0, .slice none 0 0, .int .i64 0, .int .i64 0, .int .i64 0, .int .i64 0] 42 := (ba2.set 0 (.int .i64 0))
    have hld := load_answer bq rfl
    have hst := store_row (ys := #[.int .i64 0, .int .i64 0, .string { data := #[] }, .int .i64 0, .int .i64 0, .int .i64 0, .int .i64 0, .int .i64 0, .slice none 0 0, .int .i64 0, .int .i64 0, .int .i64 0, .int .i64 0]) (ty := 42) bq info_answer rfl (by simp [Value.oneCell'])
    obtain ⟨S3, T3⟩ := answ_end (w3 := (w2.setCell ⟨W.heap.size + 1, 0, none⟩ (.int .i64 0)).setRow (W.heap.size + 1) #[.int .i64 0, .int .i64 0, .string { data := #[] }, .int .i64 0, .int .i64 0, .int .i64 0, .int .i64 0, .int .i64 0, .slice none 0 0, .int .i64 0, .int .i64 0, .int .i64 0, .int .i64 0]) hbX hla h T2 S2 rfl rfl rfl (by simp) (fun b hb => (setRow_heap _ _ _ _ hb).trans (Below.heap_setCell _ _ _ _ hb))
    have Hz := Lib.hid (And.intro S3 (And.intro T3 (And.intro F2 (And.intro st2 bq))))
    clear S3 T3 F2 st2 bq S2 T2 ba2 hm hla ba bc SX hbX h
    go_wp2_with (first | (refine wpList_load_run _ rfl (.tmp 4) 42 rfl _ hld ?_) | (refine wpList_store_run _ rfl (.tmp 4) (.tmp 124) 42 rfl _ hst ?_))
    obtain ⟨S3, T3, F2, st2, bq⟩ := Hz
    exact bodyPost_ret (answer_results rfl (bq.setRow _)) rfl ⟨L2, S3, F2, st2, T3, _, rfl, rfl, rfl, (by simp [Value.oneCell']), fun _ => ⟨.slice none 0 0, rfl, World.ownsRow_nil _ _ _ _, by simp, fun g hg => by cases hg⟩⟩
set_option maxRecDepth 100000 in
set_option maxHeartbeats 8000000 in
theorem answer8 (h : Sim W L fb n nb (.slice none 0 0) []) (hw : WF L nb) (hR : Asked n (stOf L nb)) (c : Call) (hc : CallOk c) (hk : c.kind = 8) (hto : ∀ s' t v, renameD (stOf L nb) c.path c.other false = .ok (s', t, v) → TOk s') :
    Calls Tryz.prog 18 #[.pointer (some ⟨fb, 0, none⟩), .agg (callC c)] W fun e W' => Answd fb n nb W L (doC n (stOf L nb) c) e W' := by
  obtain ⟨X, hX⟩ : ∃ x, x = (W.alloc (.cells (callC c) 38)).alloc (.cells #[.int .i64 0, .int .i64 0, .string { data := #[] }, .int .i64 0, .int .i64 0, .int .i64 0, .int .i64 0, .int .i64 0, .slice none 0 0, .int .i64 0, .int .i64 0, .int .i64 0, .int .i64 0] 42) := ⟨_, rfl⟩
  have hbX : Below W.heap.size W X := by rw [hX]; exact ((Below.refl _ _).alloc (Nat.le_refl _) _).alloc (by simp) _
  have bc : Blk X W.heap.size (callC c) 38 := by rw [hX]; exact (Blk.newAt _ _ rfl).alloc _
  have ba : Blk X (W.heap.size + 1) #[.int .i64 0, .int .i64 0, .string { data := #[] }, .int .i64 0, .int .i64 0, .int .i64 0, .int .i64 0, .int .i64 0, .slice none 0 0, .int .i64 0, .int .i64 0, .int .i64 0, .int .i64 0] 42 := by rw [hX]; exact Blk.newAt _ _ (by simp)
  have SX := h.below hbX
  have hla := ba.lt
  have hm : ¬ Mine L (.slice none 0 0) (W.heap.size + 1) := h.not_mine (by omega)
  have HC := rename_st SX hw hR.snug hR.n1 hR.n2 c.path c.other hc.path hc.other false hto
  rw [doC_8 n _ hk]
  unfold callC at *
  rw [hk] at hX bc ⊢
  have Hk := Lib.hid hk
  clear hk
  generalize fin n (stOf L nb) (renameD (stOf L nb) c.path c.other false) = r at *
  obtain ⟨s0, r⟩ := r
  unfold Errd2 at HC
  unfold ansE
  dsimp only at HC ⊢
  cases r with
  | error z =>
    dsimp only at HC ⊢
    go_enter Tryz.func18, Tryz.ntmps18
    go_wp2_with fail
    rw [← hX]
    clear hX
    refine HC.mono ?_
    rintro e w2 ⟨L2, o, S2, F2, st2, T2, rfl, hzn⟩
    have ba2 := ba.same (T2.block _ hla hm).1
    have z0 := ba2.cell 0
    have f0 := ba2.free 0
    have bq : Blk (w2.setCell ⟨W.heap.size + 1, 0, none⟩ (.int .i64 z)) (W.heap.size + 1) #[.int .i64 z, .int .i64 0, .string { data := #[] }, .int .i64 0, .int .i64 0, .int .i64 0, .int .i64 0, .int .i64 0, .slice none 0 0, .int .i64 0, .int .i64 0, .int .i64 0, .int .i64 0] 42 := (ba2.set 0 (.int .i64 z))
    have hld := load_answer bq rfl
    have hst := store_row (ys := #[.int .i64 z, .int .i64 0, .string { data := #[] }, .int .i64 0, .int .i64 0, .int .i64 0, .int .i64 0, .int .i64 0, .slice none 0 0, .int .i64 0, .int .i64 0, .int .i64 0, .int .i64 0]) (ty := 42) bq info_answer rfl (by simp [Value.oneCell'])
    obtain ⟨S3, T3⟩ := answ_end (w3 := (w2.setCell ⟨W.heap.size + 1, 0, none⟩ (.int .i64 z)).setRow (W.heap.size + 1) #[.int .i64 z, .int .i64 0, .string { data := #[] }, .int .i64 0, .int .i64 0, .int .i64 0, .int .i64 0, .int .i64 0, .slice none 0 0, .int .i64 0, .int .i64 0, .int .i64 0, .int .i64 0]) hbX hla h T2 S2 rfl rfl rfl (by simp) (fun b hb => (setRow_heap _ _ _ _ hb).trans (Below.heap_setCell _ _ _ _ hb))
    have Hz := Lib.hid (And.intro S3 (And.intro T3 (And.intro F2 (And.intro st2 bq))))
    clear S3 T3 F2 st2 bq S2 T2 ba2 hm hla ba bc SX hbX h
    go_wp2_with (first | (refine wpList_load_run _ rfl (.tmp 4) 42 rfl _ hld ?_) | (refine wpList_store_run _ rfl (.tmp 4) (.tmp 124) 42 rfl _ hst ?_))
    obtain ⟨S3, T3, F2, st2, bq⟩ := Hz
    exact bodyPost_ret (answer_results rfl (bq.setRow _)) rfl ⟨L2, S3, F2, st2, T3, _, rfl, rfl, rfl, (by simp [Value.oneCell']), fun h0 => absurd h0 hzn⟩
  | ok v =>
    dsimp only at HC ⊢
    go_enter Tryz.func18, Tryz.ntmps18
    go_wp2_with fail
    rw [← hX]
    clear hX
    refine HC.mono ?_
    rintro e w2 ⟨L2, o, S2, F2, st2, T2, rfl⟩
    have ba2 := ba.same (T2.block _ hla hm).1
    have z0 := ba2.cell 0
    have f0 := ba2.free 0
    have bq : Blk (w2.setCell ⟨W.heap.size + 1, 0, none⟩ (.int .i64 0)) (W.heap.size + 1) #[.int .i64 0, .int .i64 0, .string { data := #[] }, .int .i64 0, .int .i64 0, .int .i64 0, .int .i64 0, .int .i64 0, .slice none 0 0, .int .i64 0, .int .i64 0, .int .i64 0, .int .i64 0] 42 := (ba2.set 0 (.int .i64 0))
    have hld := load_answer bq rfl
    have hst := store_row (ys := #[.int .i64 0, .int .i64 0, .string { data := #[] }, .int .i64 0, .int .i64 0, .int .i64 0, .int .i64 0, .int .i64 0, .slice none 0 0, .int .i64 0, .int .i64 0, .int .i64 0, .int .i64 0]) (ty := 42) bq info_answer rfl (by simp [Value.oneCell'])
    obtain ⟨S3, T3⟩ := answ_end (w3 := (w2.setCell ⟨W.heap.size + 1, 0, none⟩ (.int .i64 0)).setRow (W.heap.size + 1) #[.int .i64 0, .int .i64 0, .string { data := #[] }, .int .i64 0, .int .i64 0, .int .i64 0, .int .i64 0, .int .i64 0, .slice none 0 0, .int .i64 0, .int .i64 0, .int .i64 0, .int .i64 0]) hbX hla h T2 S2 rfl rfl rfl (by simp) (fun b hb => (setRow_heap _ _ _ _ hb).trans (Below.heap_setCell _ _ _ _ hb))
    have Hz := Lib.hid (And.intro S3 (And.intro T3 (And.intro F2 (And.intro st2 bq))))
    clear S3 T3 F2 st2 bq S2 T2 ba2 hm hla ba bc SX hbX h
    go_wp2_with (first | (refine wpList_load_run _ rfl (.tmp 4) 42 rfl _ hld ?_) | (refine wpList_store_run _ rfl (.tmp 4) (.tmp 124) 42 rfl _ hst ?_))
    obtain ⟨S3, T3, F2, st2, bq⟩ := Hz
    exact bodyPost_ret (answer_results rfl (bq.setRow _)) rfl ⟨L2, S3, F2, st2, T3, _, rfl, rfl, rfl, (by simp [Value.oneCell']), fun _ => ⟨.slice none 0 0, rfl, World.ownsRow_nil _ _ _ _, by simp, fun g hg => by cases hg⟩⟩
set_option maxRecDepth 100000 in
set_option maxHeartbeats 8000000 in
theorem answer9 (h : Sim W L fb n nb (.slice none 0 0) []) (hw : WF L nb) (hR : Asked n (stOf L nb)) (c : Call) (hc : CallOk c) (hk : c.kind = 9) (hto : ∀ s' t v, linkD (stOf L nb) c.path c.other = .ok (s', t, v) → TOk s') :
    Calls Tryz.prog 18 #[.pointer (some ⟨fb, 0, none⟩), .agg (callC c)] W fun e W' => Answd fb n nb W L (doC n (stOf L nb) c) e W' := by
  obtain ⟨X, hX⟩ : ∃ x, x = (W.alloc (.cells (callC c) 38)).alloc (.cells #[.int .i64 0, .int .i64 0, .string { data := #[] }, .int .i64 0, .int .i64 0, .int .i64 0, .int .i64 0, .int .i64 0, .slice none 0 0, .int .i64 0, .int .i64 0, .int .i64 0, .int .i64 0] 42) := ⟨_, rfl⟩
  have hbX : Below W.heap.size W X := by rw [hX]; exact ((Below.refl _ _).alloc (Nat.le_refl _) _).alloc (by simp) _
  have bc : Blk X W.heap.size (callC c) 38 := by rw [hX]; exact (Blk.newAt _ _ rfl).alloc _
  have ba : Blk X (W.heap.size + 1) #[.int .i64 0, .int .i64 0, .string { data := #[] }, .int .i64 0, .int .i64 0, .int .i64 0, .int .i64 0, .int .i64 0, .slice none 0 0, .int .i64 0, .int .i64 0, .int .i64 0, .int .i64 0] 42 := by rw [hX]; exact Blk.newAt _ _ (by simp)
  have SX := h.below hbX
  have hla := ba.lt
  have hm : ¬ Mine L (.slice none 0 0) (W.heap.size + 1) := h.not_mine (by omega)
  have HC := link_st SX hw hR.snug.toFit hR.n1 hR.n2 c.path c.other hc.path hc.other hto
  rw [doC_9 n _ hk]
  unfold callC at *
  rw [hk] at hX bc ⊢
  have Hk := Lib.hid hk
  clear hk
  generalize fin n (stOf L nb) (linkD (stOf L nb) c.path c.other) = r at *
  obtain ⟨s0, r⟩ := r
  unfold Errd at HC
  unfold ansE
  dsimp only at HC ⊢
  cases r with
  | error z =>
    dsimp only at HC ⊢
    go_enter Tryz.func18, Tryz.ntmps18
    go_wp2_with fail
    rw [← hX]
    clear hX
    refine HC.mono ?_
    rintro e w2 ⟨L2, S2, F2, st2, T2, rfl, hzn⟩
    have ba2 := ba.same (T2.block _ hla hm).1
    have z0 := ba2.cell 0
    have f0 := ba2.free 0
    have bq : Blk (w2.setCell ⟨W.heap.size + 1, 0, none⟩ (.int .i64 z)) (W.heap.size + 1) #[.int .i64 z, .int .i64 0, .string { data := #[] }, .int .i64 0, .int .i64 0, .int .i64 0, .int .i64 0, .int .i64 0, .slice none 0 0, .int .i64 0, .int .i64 0, .int .i64 0, .int .i64 0] 42 := (ba2.set 0 (.int .i64 z))
    have hld := load_answer bq rfl
    have hst := store_row (ys := #[.int .i64 z, .int .i64 0, .string { data := #[] }, .int .i64 0, .int .i64 0, .int .i64 0, .int .i64 0, .int .i64 0, .slice none 0 0, .int .i64 0, .int .i64 0, .int .i64 0, .int .i64 0]) (ty := 42) bq info_answer rfl (by simp [Value.oneCell'])
    obtain ⟨S3, T3⟩ := answ_end (w3 := (w2.setCell ⟨W.heap.size + 1, 0, none⟩ (.int .i64 z)).setRow (W.heap.size + 1) #[.int .i64 z, .int .i64 0, .string { data := #[] }, .int .i64 0, .int .i64 0, .int .i64 0, .int .i64 0, .int .i64 0, .slice none 0 0, .int .i64 0, .int .i64 0, .int .i64 0, .int .i64 0]) hbX hla h T2 S2 rfl rfl rfl (by simp) (fun b hb => (setRow_heap _ _ _ _ hb).trans (Below.heap_setCell _ _ _ _ hb))
    have Hz := Lib.hid (And.intro S3 (And.intro T3 (And.intro F2 (And.intro st2 bq))))
    clear S3 T3 F2 st2 bq S2 T2 ba2 hm hla ba bc SX hbX h
    go_wp2_with (first | (refine wpList_load_run _ rfl (.tmp 4) 42 rfl _ hld ?_) | (refine wpList_store_run _ rfl (.tmp 4) (.tmp 124) 42 rfl _ hst ?_))
    obtain ⟨S3, T3, F2, st2, bq⟩ := Hz
    exact bodyPost_ret (answer_results rfl (bq.setRow _)) rfl ⟨L2, S3, F2, st2, T3, _, rfl, rfl, rfl, (by simp [Value.oneCell']), fun h0 => absurd h0 hzn⟩
  | ok v =>
    dsimp only at HC ⊢
    go_enter Tryz.func18, Tryz.ntmps18
    go_wp2_with fail
    rw [← hX]
    clear hX
    refine HC.mono ?_
    rintro e w2 ⟨L2, S2, F2, st2, T2, rfl⟩
    have ba2 := ba.same (T2.block _ hla hm).1
    have z0 := ba2.cell 0
    have f0 := ba2.free 0
    have bq : Blk (w2.setCell ⟨W.heap.size + 1, 0, none⟩ (.int .i64 0)) (W.heap.size + 1) #[.int .i64 0, .int .i64 0, .string { data := #[] }, .int .i64 0, .int .i64 0, .int .i64 0, .int .i64 0, .int .i64 0, .slice none 0 0, .int .i64 0, .int .i64 0, .int .i64 0, .int .i64 0] 42 := (ba2.set 0 (.int .i64 0))
    have hld := load_answer bq rfl
    have hst := store_row (ys := #[.int .i64 0, .int .i64 0, .string { data := #[] }, .int .i64 0, .int .i64 0, .int .i64 0, .int .i64 0, .int .i64 0, .slice none 0 0, .int .i64 0, .int .i64 0, .int .i64 0, .int .i64 0]) (ty := 42) bq info_answer rfl (by simp [Value.oneCell'])
    obtain ⟨S3, T3⟩ := answ_end (w3 := (w2.setCell ⟨W.heap.size + 1, 0, none⟩ (.int .i64 0)).setRow (W.heap.size + 1) #[.int .i64 0, .int .i64 0, .string { data := #[] }, .int .i64 0, .int .i64 0, .int .i64 0, .int .i64 0, .int .i64 0, .slice none 0 0, .int .i64 0, .int .i64 0, .int .i64 0, .int .i64 0]) hbX hla h T2 S2 rfl rfl rfl (by simp) (fun b hb => (setRow_heap _ _ _ _ hb).trans (Below.heap_setCell _ _ _ _ hb))
    have Hz := Lib.hid (And.intro S3 (And.intro T3 (And.intro F2 (And.intro st2 bq))))
    clear S3 T3 F2 st2 bq S2 T2 ba2 hm hla ba bc SX hbX h
    go_wp2_with (first | (refine wpList_load_run _ rfl (.tmp 4) 42 rfl _ hld ?_) | (refine wpList_store_run _ rfl (.tmp 4) (.tmp 124) 42 rfl _ hst ?_))
    obtain ⟨S3, T3, F2, st2, bq⟩ := Hz
    exact bodyPost_ret (answer_results rfl (bq.setRow _)) rfl ⟨L2, S3, F2, st2, T3, _, rfl, rfl, rfl, (by simp [Value.oneCell']), fun _ => ⟨.slice none 0 0, rfl, World.ownsRow_nil _ _ _ _, by simp, fun g hg => by cases hg⟩⟩
end
end Fs
end Go.Proofs.YtlnnbjgfpiefdaaGreat
