/- answer: kinds of calls. -/
import Derived.Test.YtlnnbjgfpiefdaaGreatRamB32
namespace Go.Proofs.YtlnnbjgfpiefdaaGreat
open Go.RowKit Go.Maps Go.Shelf

namespace Fs
section
variable {W X w2 w3 : World} {L L2 : Lay} {fb : Nat} {n : Int} {nb : Nat} {uv : Value} {vals : List Value}
def readA (s : Tree) (c : Call) : Ans := match readPathR s c with
  | .error z => { err := z }
  | .ok t => { data := t, n := t.length }
theorem read_eq (n : Int) (s : Tree) {c : Call} (hk : c.kind = 3) : doC n s c = (s, readA s c) := by
  rw [doC_3 n s hk]
  unfold readA readPathR
  by_cases c1 : c.off < 0 ∨ c.size < 0 ∨ 16384 < c.size
  · rw [if_pos c1, if_pos c1]
  · rw [if_neg c1, if_neg c1]
    cases fileP s c.path <;> rfl
set_option maxRecDepth 100000 in
set_option maxHeartbeats 8000000 in
theorem answer3 (h : Sim W L fb n nb (.slice none 0 0) []) (hw : WF L nb) (hR : Asked n (stOf L nb)) (c : Call) (hc : CallOk c) (hk : c.kind = 3) :
    Calls Tryz.prog 18 #[.pointer (some ⟨fb, 0, none⟩), .agg (callC c)] W fun e W' => Answd fb n nb W L (doC n (stOf L nb) c) e W' := by
  obtain ⟨X, hX⟩ : ∃ x, x = (W.alloc (.cells (callC c) 38)).alloc (.cells #[.int .i64 0, .int .i64 0, .string { data := #[] }, .int .i64 0, .int .i64 0, .int .i64 0, .int .i64 0, .int .i64 0, .slice none 0 0, .int .i64 0, .int .i64 0, .int .i64 0, .int .i64 0] 42) := ⟨_, rfl⟩
  have hbX : Below W.heap.size W X := by rw [hX]; exact ((Below.refl _ _).alloc (Nat.le_refl _) _).alloc (by simp) _
  have bc : Blk X W.heap.size (callC c) 38 := by rw [hX]; exact (Blk.newAt _ _ rfl).alloc _
  have ba : Blk X (W.heap.size + 1) #[.int .i64 0, .int .i64 0, .string { data := #[] }, .int .i64 0, .int .i64 0, .int .i64 0, .int .i64 0, .int .i64 0, .slice none 0 0, .int .i64 0, .int .i64 0, .int .i64 0, .int .i64 0] 42 := by rw [hX]; exact Blk.newAt _ _ (by simp)
  have SX := h.below hbX
  have hla := ba.lt
  have hm : ¬ Mine L (.slice none 0 0) (W.heap.size + 1) := h.not_mine (by omega)
  have HC := readPath_st SX hw hR.snug.toFit hR.filed hR.sizes c hc
  rw [read_eq n _ hk]
  unfold readA
  unfold callC at *
  rw [hk] at hX bc HC ⊢
  have Hk := Lib.hid hk
  clear hk
  generalize readPathR (stOf L nb) c = r at *
  unfold Answd
  dsimp only at HC ⊢
  cases r with
  | error z =>
    dsimp only at HC ⊢
    have hlen : (mk []).size = 0 := mk_size []
    go_enter Tryz.func18, Tryz.ntmps18
    go_wp2_with fail
    rw [← hX]
    clear hX
    refine HC.mono ?_
    rintro e w2 ⟨hb2, rfl, hzn⟩
    have T2 : Step X (Mine L (.slice none 0 0)) w2 (Mine L (.slice none 0 0)) := Step.of_below hb2
    have S2 := SX.below hb2
    have F2 := hw
    have ba2 := ba.same (T2.block _ hla hm).1
    have z0 := ba2.cell 0
    have f0 := ba2.free 0
    have z1 := ba2.cell 1
    have f1 := ba2.free 1
    have z2 := ba2.cell 2
    have f2 := ba2.free 2
    have bq : Blk (((w2.setCell ⟨W.heap.size + 1, 2, none⟩ (.string (mk []))).setCell ⟨W.heap.size + 1, 0, none⟩ (.int .i64 z)).setCell ⟨W.heap.size + 1, 1, none⟩ (.int .i64 0)) (W.heap.size + 1) #[.int .i64 z, .int .i64 0, .string (mk []), .int .i64 0, .int .i64 0, .int .i64 0, .int .i64 0, .int .i64 0, .slice none 0 0, .int .i64 0, .int .i64 0, .int .i64 0, .int .i64 0] 42 := (((ba2.set 2 (.string (mk []))).set 0 (.int .i64 z)).set 1 (.int .i64 0))
    have hld := load_answer bq rfl
    have hst := store_row (ys := #[.int .i64 z, .int .i64 0, .string (mk []), .int .i64 0, .int .i64 0, .int .i64 0, .int .i64 0, .int .i64 0, .slice none 0 0, .int .i64 0, .int .i64 0, .int .i64 0, .int .i64 0]) (ty := 42) bq info_answer rfl (by simp [Value.oneCell'])
    obtain ⟨S3, T3⟩ := answ_end (w3 := (((w2.setCell ⟨W.heap.size + 1, 2, none⟩ (.string (mk []))).setCell ⟨W.heap.size + 1, 0, none⟩ (.int .i64 z)).setCell ⟨W.heap.size + 1, 1, none⟩ (.int .i64 0)).setRow (W.heap.size + 1) #[.int .i64 z, .int .i64 0, .string (mk []), .int .i64 0, .int .i64 0, .int .i64 0, .int .i64 0, .int .i64 0, .slice none 0 0, .int .i64 0, .int .i64 0, .int .i64 0, .int .i64 0]) hbX hla h T2 S2 rfl rfl rfl (by simp) (fun b hb => (setRow_heap _ _ _ _ hb).trans ((Below.heap_setCell _ _ _ _ hb).trans ( (Below.heap_setCell _ _ _ _ hb).trans (Below.heap_setCell _ _ _ _ hb))))
    have Hz := Lib.hid (And.intro S3 (And.intro T3 (And.intro F2 bq)))
    clear S3 T3 F2 bq S2 T2 ba2 hm hla ba bc SX hbX h
    go_wp2_with (first | (refine wpList_load_run _ rfl (.tmp 4) 42 rfl _ hld ?_) | (refine wpList_store_run _ rfl (.tmp 4) (.tmp 124) 42 rfl _ hst ?_))
    obtain ⟨S3, T3, F2, bq⟩ := Hz
    exact bodyPost_ret (answer_results rfl (bq.setRow _)) rfl ⟨L, S3, F2, rfl, T3, _, rfl, rfl, rfl, (by simp [Value.oneCell']), fun h0 => absurd h0 hzn⟩
  | ok t =>
    dsimp only at HC ⊢
    have hlen : (mk t).size = t.length := mk_size t
    go_enter Tryz.func18, Tryz.ntmps18
    go_wp2_with fail
    rw [← hX]
    clear hX
    refine HC.mono ?_
    rintro e w2 ⟨hb2, rfl⟩
    have T2 : Step X (Mine L (.slice none 0 0)) w2 (Mine L (.slice none 0 0)) := Step.of_below hb2
    have S2 := SX.below hb2
    have F2 := hw
    have ba2 := ba.same (T2.block _ hla hm).1
    have z0 := ba2.cell 0
    have f0 := ba2.free 0
    have z1 := ba2.cell 1
    have f1 := ba2.free 1
    have z2 := ba2.cell 2
    have f2 := ba2.free 2
    have bq : Blk (((w2.setCell ⟨W.heap.size + 1, 2, none⟩ (.string (mk t))).setCell ⟨W.heap.size + 1, 0, none⟩ (.int .i64 0)).setCell ⟨W.heap.size + 1, 1, none⟩ (.int .i64 t.length)) (W.heap.size + 1) #[.int .i64 0, .int .i64 t.length, .string (mk t), .int .i64 0, .int .i64 0, .int .i64 0, .int .i64 0, .int .i64 0, .slice none 0 0, .int .i64 0, .int .i64 0, .int .i64 0, .int .i64 0] 42 := (((ba2.set 2 (.string (mk t))).set 0 (.int .i64 0)).set 1 (.int .i64 t.length))
    have hld := load_answer bq rfl
    have hst := store_row (ys := #[.int .i64 0, .int .i64 t.length, .string (mk t), .int .i64 0, .int .i64 0, .int .i64 0, .int .i64 0, .int .i64 0, .slice none 0 0, .int .i64 0, .int .i64 0, .int .i64 0, .int .i64 0]) (ty := 42) bq info_answer rfl (by simp [Value.oneCell'])
    obtain ⟨S3, T3⟩ := answ_end (w3 := (((w2.setCell ⟨W.heap.size + 1, 2, none⟩ (.string (mk t))).setCell ⟨W.heap.size + 1, 0, none⟩ (.int .i64 0)).setCell ⟨W.heap.size + 1, 1, none⟩ (.int .i64 t.length)).setRow (W.heap.size + 1) #[.int .i64 0, .int .i64 t.length, .string (mk t), .int .i64 0, .int .i64 0, .int .i64 0, .int .i64 0, .int .i64 0, .slice none 0 0, .int .i64 0, .int .i64 0, .int .i64 0, .int .i64 0]) hbX hla h T2 S2 rfl rfl rfl (by simp) (fun b hb => (setRow_heap _ _ _ _ hb).trans ((Below.heap_setCell _ _ _ _ hb).trans ( (Below.heap_setCell _ _ _ _ hb).trans (Below.heap_setCell _ _ _ _ hb))))
    have Hz := Lib.hid (And.intro S3 (And.intro T3 (And.intro F2 bq)))
    clear S3 T3 F2 bq S2 T2 ba2 hm hla ba bc SX hbX h
    go_wp2_with (first | (refine wpList_load_run _ rfl (.tmp 4) 42 rfl _ hld ?_) | (refine wpList_store_run _ rfl (.tmp 4) (.tmp 124) 42 rfl _ hst ?_))
    obtain ⟨S3, T3, F2, bq⟩ := Hz
    exact bodyPost_ret (answer_results rfl (bq.setRow _)) rfl ⟨L, S3, F2, rfl, T3, _, rfl, rfl, rfl, (by simp [Value.oneCell']), fun _ => ⟨.slice none 0 0, rfl, World.ownsRow_nil _ _ _ _, by simp, fun g hg => by cases hg⟩⟩
theorem write_eq (n : Int) (s : Tree) {c : Call} (hk : c.kind = 4) : doC n s c = ansE c.data.length (writePathR n s c) := by
  rw [doC_4 n s hk]
  unfold writePathR writeR
  by_cases c1 : c.off < 0 ∨ 16384 < c.data.length
  · rw [if_pos c1, if_pos c1]; rfl
  · rw [if_neg c1, if_neg c1]
    cases fileP s c.path with
    | error e => rfl
    | ok i =>
      dsimp only
      rw [if_neg c1]
      cases openP s i <;> rfl
set_option maxRecDepth 100000 in
set_option maxHeartbeats 8000000 in
theorem answer4 (h : Sim W L fb n nb (.slice none 0 0) []) (c : Call) (hk : c.kind = 4) (HP : ∀ Y, Sim Y L fb n nb (.slice none 0 0) [] → Calls Tryz.prog 27 #[.pointer (some ⟨fb, 0, none⟩), .agg (callC c)] Y fun e W' => Errd fb n nb Y L (.slice none 0 0) (writePathR n (stOf L nb) c) e W') :
    Calls Tryz.prog 18 #[.pointer (some ⟨fb, 0, none⟩), .agg (callC c)] W fun e W' => Answd fb n nb W L (doC n (stOf L nb) c) e W' := by
  obtain ⟨X, hX⟩ : ∃ x, x = (W.alloc (.cells (callC c) 38)).alloc (.cells #[.int .i64 0, .int .i64 0, .string { data := #[] }, .int .i64 0, .int .i64 0, .int .i64 0, .int .i64 0, .int .i64 0, .slice none 0 0, .int .i64 0, .int .i64 0, .int .i64 0, .int .i64 0] 42) := ⟨_, rfl⟩
  have hbX : Below W.heap.size W X := by rw [hX]; exact ((Below.refl _ _).alloc (Nat.le_refl _) _).alloc (by simp) _
  have bc : Blk X W.heap.size (callC c) 38 := by rw [hX]; exact (Blk.newAt _ _ rfl).alloc _
  have ba : Blk X (W.heap.size + 1) #[.int .i64 0, .int .i64 0, .string { data := #[] }, .int .i64 0, .int .i64 0, .int .i64 0, .int .i64 0, .int .i64 0, .slice none 0 0, .int .i64 0, .int .i64 0, .int .i64 0, .int .i64 0] 42 := by rw [hX]; exact Blk.newAt _ _ (by simp)
  have SX := h.below hbX
  have hla := ba.lt
  have hm : ¬ Mine L (.slice none 0 0) (W.heap.size + 1) := h.not_mine (by omega)
  have HC := HP X.drew (SX.below (Below.refl _ _).drew)
  clear HP
  rw [write_eq n _ hk]
  have hlen : (mk c.data).size = c.data.length := mk_size c.data
  unfold callC at *
  rw [hk] at hX bc HC ⊢
  have Hk := Lib.hid hk
  clear hk
  generalize writePathR n (stOf L nb) c = r at *
  obtain ⟨s0, r⟩ := r
  unfold Errd at HC
  unfold ansE
  dsimp only at HC ⊢
  have hlc := bc.lt
  have hmc : ¬ Mine L (.slice none 0 0) W.heap.size := h.not_mine (Nat.le_refl _)
  have q0 : X.cell? ⟨W.heap.size, 0, none⟩ = some (.int .i64 4) := bc.cell 0
  have q1 : X.cell? ⟨W.heap.size, 1, none⟩ = some (.string (mk c.path)) := bc.cell 1
  have q2 : X.cell? ⟨W.heap.size, 2, none⟩ = some (.string (mk c.other)) := bc.cell 2
  have q3 : X.cell? ⟨W.heap.size, 3, none⟩ = some (.int .i64 c.off) := bc.cell 3
  have q4 : X.cell? ⟨W.heap.size, 4, none⟩ = some (.int .i64 c.size) := bc.cell 4
  have q5 : X.cell? ⟨W.heap.size, 5, none⟩ = some (.string (mk c.data)) := bc.cell 5
  cases r with
  | error z =>
    dsimp only at HC ⊢
    go_enter Tryz.func18, Tryz.ntmps18
    go_wp2_with fail
    rw [← hX]
    clear hX
    have HC' := Lib.hid HC
    clear HC
    go_region_held3 (fun w' => w'.cell? ⟨W.heap.size, 0, none⟩ = some (.int .i64 4) ∧ w'.cell? ⟨W.heap.size, 1, none⟩ = some (.string (mk c.path)) ∧ w'.cell? ⟨W.heap.size, 2, none⟩ = some (.string (mk c.other)) ∧ w'.cell? ⟨W.heap.size, 3, none⟩ = some (.int .i64 c.off) ∧ w'.cell? ⟨W.heap.size, 4, none⟩ = some (.int .i64 c.size) ∧ w'.cell? ⟨W.heap.size, 5, none⟩ = some (.string (mk c.data))) (first | (refine ⟨?_, ?_, ?_, ?_, ?_, ?_⟩ <;> assumption) | go_keep) ((go_at_call 27; have hc' := HC'; unfold Hid at hc'; refine hc'.mono ?_; clear hc'; rintro e w2 ⟨L2, S2, F2, st2, T2, rfl, hzn⟩; have bc2 := bc.same (T2.block _ hlc hmc).1; have ba2 := ba.same (T2.block _ hla hm).1; have p0 := bc2.cell 0; have p1 := bc2.cell 1; have p2 := bc2.cell 2; have p3 := bc2.cell 3; have p4 := bc2.cell 4; have p5 := bc2.cell 5; have z0 := ba2.cell 0; have f0 := ba2.free 0; have z1 := ba2.cell 1; have f1 := ba2.free 1))
    have T2 : Step X (Mine L (.slice none 0 0)) w2 (Mine L2 (.slice none 0 0)) := ⟨T2.os, T2.tape, T2.output, T2.size, T2.block⟩
    have ba2 := ba.same (T2.block _ hla hm).1
    have z0 := ba2.cell 0
    have f0 := ba2.free 0
    have z1 := ba2.cell 1
    have f1 := ba2.free 1
    have bq : Blk ((w2.setCell ⟨W.heap.size + 1, 1, none⟩ (.int .i64 c.data.length)).setCell ⟨W.heap.size + 1, 0, none⟩ (.int .i64 z)) (W.heap.size + 1) #[.int .i64 z, .int .i64 c.data.length, .string { data := #[] }, .int .i64 0, .int .i64 0, .int .i64 0, .int .i64 0, .int .i64 0, .slice none 0 0, .int .i64 0, .int .i64 0, .int .i64 0, .int .i64 0] 42 := ((ba2.set 1 (.int .i64 c.data.length)).set 0 (.int .i64 z))
    have hld := load_answer bq rfl
    have hst := store_row (ys := #[.int .i64 z, .int .i64 c.data.length, .string { data := #[] }, .int .i64 0, .int .i64 0, .int .i64 0, .int .i64 0, .int .i64 0, .slice none 0 0, .int .i64 0, .int .i64 0, .int .i64 0, .int .i64 0]) (ty := 42) bq info_answer rfl (by simp [Value.oneCell'])
    obtain ⟨S3, T3⟩ := answ_end (w3 := ((w2.setCell ⟨W.heap.size + 1, 1, none⟩ (.int .i64 c.data.length)).setCell ⟨W.heap.size + 1, 0, none⟩ (.int .i64 z)).setRow (W.heap.size + 1) #[.int .i64 z, .int .i64 c.data.length, .string { data := #[] }, .int .i64 0, .int .i64 0, .int .i64 0, .int .i64 0, .int .i64 0, .slice none 0 0, .int .i64 0, .int .i64 0, .int .i64 0, .int .i64 0]) hbX hla h T2 S2 rfl rfl rfl (by simp) (fun b hb => (setRow_heap _ _ _ _ hb).trans ((Below.heap_setCell _ _ _ _ hb).trans (Below.heap_setCell _ _ _ _ hb)))
    have Hz := Lib.hid (And.intro S3 (And.intro T3 (And.intro F2 (And.intro st2 bq))))
    clear S3 T3 F2 st2 bq S2 T2 ba2 hm hla ba bc SX hbX h
    go_wp2_with (first | (refine wpList_load_run _ rfl (.tmp 4) 42 rfl _ hld ?_) | (refine wpList_store_run _ rfl (.tmp 4) (.tmp 124) 42 rfl _ hst ?_))
    obtain ⟨S3, T3, F2, st2, bq⟩ := Hz
    exact bodyPost_ret (answer_results rfl (bq.setRow _)) rfl ⟨L2, S3, F2, st2, T3, _, rfl, rfl, rfl, (by simp [Value.oneCell']), fun h0 => absurd h0 hzn⟩
  | ok v =>
    dsimp only at HC ⊢
    go_enter Tryz.func18, Tryz.ntmps18
    go_wp2_with fail
    rw [← hX]
    clear hX
    have HC' := Lib.hid HC
    clear HC
    go_region_held3 (fun w' => w'.cell? ⟨W.heap.size, 0, none⟩ = some (.int .i64 4) ∧ w'.cell? ⟨W.heap.size, 1, none⟩ = some (.string (mk c.path)) ∧ w'.cell? ⟨W.heap.size, 2, none⟩ = some (.string (mk c.other)) ∧ w'.cell? ⟨W.heap.size, 3, none⟩ = some (.int .i64 c.off) ∧ w'.cell? ⟨W.heap.size, 4, none⟩ = some (.int .i64 c.size) ∧ w'.cell? ⟨W.heap.size, 5, none⟩ = some (.string (mk c.data))) (first | (refine ⟨?_, ?_, ?_, ?_, ?_, ?_⟩ <;> assumption) | go_keep) ((go_at_call 27; have hc' := HC'; unfold Hid at hc'; refine hc'.mono ?_; clear hc'; rintro e w2 ⟨L2, S2, F2, st2, T2, rfl⟩; have bc2 := bc.same (T2.block _ hlc hmc).1; have ba2 := ba.same (T2.block _ hla hm).1; have p0 := bc2.cell 0; have p1 := bc2.cell 1; have p2 := bc2.cell 2; have p3 := bc2.cell 3; have p4 := bc2.cell 4; have p5 := bc2.cell 5; have z0 := ba2.cell 0; have f0 := ba2.free 0; have z1 := ba2.cell 1; have f1 := ba2.free 1))
    have T2 : Step X (Mine L (.slice none 0 0)) w2 (Mine L2 (.slice none 0 0)) := ⟨T2.os, T2.tape, T2.output, T2.size, T2.block⟩
    have ba2 := ba.same (T2.block _ hla hm).1
    have z0 := ba2.cell 0
    have f0 := ba2.free 0
    have z1 := ba2.cell 1
    have f1 := ba2.free 1
    have bq : Blk ((w2.setCell ⟨W.heap.size + 1, 1, none⟩ (.int .i64 c.data.length)).setCell ⟨W.heap.size + 1, 0, none⟩ (.int .i64 0)) (W.heap.size + 1) #[.int .i64 0, .int .i64 c.data.length, .string { data := #[] }, .int .i64 0, .int .i64 0, .int .i64 0, .int .i64 0, .int .i64 0, .slice none 0 0, .int .i64 0, .int .i64 0, .int .i64 0, .int .i64 0] 42 := ((ba2.set 1 (.int .i64 c.data.length)).set 0 (.int .i64 0))
    have hld := load_answer bq rfl
    have hst := store_row (ys := #[.int .i64 0, .int .i64 c.data.length, .string { data := #[] }, .int .i64 0, .int .i64 0, .int .i64 0, .int .i64 0, .int .i64 0, .slice none 0 0, .int .i64 0, .int .i64 0, .int .i64 0, .int .i64 0]) (ty := 42) bq info_answer rfl (by simp [Value.oneCell'])
    obtain ⟨S3, T3⟩ := answ_end (w3 := ((w2.setCell ⟨W.heap.size + 1, 1, none⟩ (.int .i64 c.data.length)).setCell ⟨W.heap.size + 1, 0, none⟩ (.int .i64 0)).setRow (W.heap.size + 1) #[.int .i64 0, .int .i64 c.data.length, .string { data := #[] }, .int .i64 0, .int .i64 0, .int .i64 0, .int .i64 0, .int .i64 0, .slice none 0 0, .int .i64 0, .int .i64 0, .int .i64 0, .int .i64 0]) hbX hla h T2 S2 rfl rfl rfl (by simp) (fun b hb => (setRow_heap _ _ _ _ hb).trans ((Below.heap_setCell _ _ _ _ hb).trans (Below.heap_setCell _ _ _ _ hb)))
    have Hz := Lib.hid (And.intro S3 (And.intro T3 (And.intro F2 (And.intro st2 bq))))
    clear S3 T3 F2 st2 bq S2 T2 ba2 hm hla ba bc SX hbX h
    go_wp2_with (first | (refine wpList_load_run _ rfl (.tmp 4) 42 rfl _ hld ?_) | (refine wpList_store_run _ rfl (.tmp 4) (.tmp 124) 42 rfl _ hst ?_))
    obtain ⟨S3, T3, F2, st2, bq⟩ := Hz
    exact bodyPost_ret (answer_results rfl (bq.setRow _)) rfl ⟨L2, S3, F2, st2, T3, _, rfl, rfl, rfl, (by simp [Value.oneCell']), fun _ => ⟨.slice none 0 0, rfl, World.ownsRow_nil _ _ _ _, by simp, fun g hg => by cases hg⟩⟩
theorem cut_eq (n : Int) (s : Tree) {c : Call} (hk : c.kind = 5) : doC n s c = ansE 0 (cutPathR n s c) := by
  rw [doC_5 n s hk]
  unfold cutPathR cutR
  by_cases c1 : c.size < 0
  · rw [if_pos c1, if_pos c1]; rfl
  · rw [if_neg c1, if_neg c1]
    cases fileP s c.path with
    | error e => rfl
    | ok i =>
      dsimp only
      rw [if_neg c1]
      cases openP s i <;> rfl
set_option maxRecDepth 100000 in
set_option maxHeartbeats 8000000 in
theorem answer5 (h : Sim W L fb n nb (.slice none 0 0) []) (c : Call) (hk : c.kind = 5) (HP : ∀ Y, Sim Y L fb n nb (.slice none 0 0) [] → Calls Tryz.prog 28 #[.pointer (some ⟨fb, 0, none⟩), .agg (callC c)] Y fun e W' => Errd fb n nb Y L (.slice none 0 0) (cutPathR n (stOf L nb) c) e W') :
    Calls Tryz.prog 18 #[.pointer (some ⟨fb, 0, none⟩), .agg (callC c)] W fun e W' => Answd fb n nb W L (doC n (stOf L nb) c) e W' := by
  obtain ⟨X, hX⟩ : ∃ x, x = (W.alloc (.cells (callC c) 38)).alloc (.cells #[.int .i64 0, .int .i64 0, .string { data := #[] }, .int .i64 0, .int .i64 0, .int .i64 0, .int .i64 0, .int .i64 0, .slice none 0 0, .int .i64 0, .int .i64 0, .int .i64 0, .int .i64 0] 42) := ⟨_, rfl⟩
  have hbX : Below W.heap.size W X := by rw [hX]; exact ((Below.refl _ _).alloc (Nat.le_refl _) _).alloc (by simp) _
  have bc : Blk X W.heap.size (callC c) 38 := by rw [hX]; exact (Blk.newAt _ _ rfl).alloc _
  have ba : Blk X (W.heap.size + 1) #[.int .i64 0, .int .i64 0, .string { data := #[] }, .int .i64 0, .int .i64 0, .int .i64 0, .int .i64 0, .int .i64 0, .slice none 0 0, .int .i64 0, .int .i64 0, .int .i64 0, .int .i64 0] 42 := by rw [hX]; exact Blk.newAt _ _ (by simp)
  have SX := h.below hbX
  have hla := ba.lt
  have hm : ¬ Mine L (.slice none 0 0) (W.heap.size + 1) := h.not_mine (by omega)
  have HC := HP X SX
  clear HP
  rw [cut_eq n _ hk]
  unfold callC at *
  rw [hk] at hX bc HC ⊢
  have Hk := Lib.hid hk
  clear hk
  generalize cutPathR n (stOf L nb) c = r at *
  obtain ⟨s0, r⟩ := r
  unfold Errd at HC
  unfold ansE
  dsimp only at HC ⊢
  cases r with
  | error z =>
    dsimp only at HC ⊢
    go_enter Tryz.func18, Tryz.ntmps18
    go_wp2_with fail
    rw [← hX]
    clear hX
    refine HC.mono ?_
    rintro e w2 ⟨L2, S2, F2, st2, T2, rfl, hzn⟩
    have ba2 := ba.same (T2.block _ hla hm).1
    have z0 := ba2.cell 0
    have f0 := ba2.free 0
    have bq : Blk (w2.setCell ⟨W.heap.size + 1, 0, none⟩ (.int .i64 z)) (W.heap.size + 1) #[.int .i64 z, .int .i64 0, .string { data := #[] }, .int .i64 0, .int .i64 0, .int .i64 0, .int .i64 0, .int .i64 0, .slice none 0 0, .int .i64 0, .int .i64 0, .int .i64 0, .int .i64 0] 42 := (ba2.set 0 (.int .i64 z))
    have hld := load_answer bq rfl
    have hst := store_row (ys := #[.int .i64 z, .int .i64 0, .string { data := #[] }, .int .i64 0, .int .i64 0, .int .i64 0, .int .i64 0, .int .i64 0, .slice none 0 0, .int .i64 0, .int .i64 0, .int .i64 0, .int .i64 0]) (ty := 42) bq info_answer rfl (by simp [Value.oneCell'])
    obtain ⟨S3, T3⟩ := answ_end (w3 := (w2.setCell ⟨W.heap.size + 1, 0, none⟩ (.int .i64 z)).setRow (W.heap.size + 1) #[.int .i64 z, .int .i64 0, .string { data := #[] }, .int .i64 0, .int .i64 0, .int .i64 0, .int .i64 0, .int .i64 0, .slice none 0 0, .int .i64 0, .int .i64 0, .int .i64 0, .int .i64 0]) hbX hla h T2 S2 rfl rfl rfl (by simp) (fun b hb => (setRow_heap _ _ _ _ hb).trans (Below.heap_setCell _ _ _ _ hb))
    have Hz := Lib.hid (And.intro S3 (And.intro T3 (And.intro F2 (And.intro st2 bq))))
    clear S3 T3 F2 st2 bq S2 T2 ba2 hm hla ba bc SX hbX h
    go_wp2_with (first | (refine wpList_load_run _ rfl (.tmp 4) 42 rfl _ hld ?_) | (refine wpList_store_run _ rfl (.tmp 4) (.tmp 124) 42 rfl _ hst ?_))
    obtain ⟨S3, T3, F2, st2, bq⟩ := Hz
    exact bodyPost_ret (answer_results rfl (bq.setRow _)) rfl ⟨L2, S3, F2, st2, T3, _, rfl, rfl, rfl, (by simp [Value.oneCell']), fun h0 => absurd h0 hzn⟩
  | ok v =>
    dsimp only at HC ⊢
    go_enter Tryz.func18, Tryz.ntmps18
    go_wp2_with fail
    rw [← hX]
    clear hX
    refine HC.mono ?_
    rintro e w2 ⟨L2, S2, F2, st2, T2, rfl⟩
    have ba2 := ba.same (T2.block _ hla hm).1
    have z0 := ba2.cell 0
    have f0 := ba2.free 0
    have bq : Blk (w2.setCell ⟨W.heap.size + 1, 0, none⟩ (.int .i64 0)) (W.heap.size + 1) #[.int .i64 0, .int .i64 0, .string { data := #[] }, .int .i64 0, .int .i64 0, .int .i64 0, .int .i64 0, .int .i64 0, .slice none 0 0, .int .i64 0, .int .i64 0, .int .i64 0, .int .i64 0] 42 := (ba2.set 0 (.int .i64 0))
    have hld := load_answer bq rfl
    have hst := store_row (ys := #[.int .i64 0, .int .i64 0, .string { data := #[] }, .int .i64 0, .int .i64 0, .int .i64 0, .int .i64 0, .int .i64 0, .slice none 0 0, .int .i64 0, .int .i64 0, .int .i64 0, .int .i64 0]) (ty := 42) bq info_answer rfl (by simp [Value.oneCell'])
    obtain ⟨S3, T3⟩ := answ_end (w3 := (w2.setCell ⟨W.heap.size + 1, 0, none⟩ (.int .i64 0)).setRow (W.heap.size + 1) #[.int .i64 0, .int .i64 0, .string { data := #[] }, .int .i64 0, .int .i64 0, .int .i64 0, .int .i64 0, .int .i64 0, .slice none 0 0, .int .i64 0, .int .i64 0, .int .i64 0, .int .i64 0]) hbX hla h T2 S2 rfl rfl rfl (by simp) (fun b hb => (setRow_heap _ _ _ _ hb).trans (Below.heap_setCell _ _ _ _ hb))
    have Hz := Lib.hid (And.intro S3 (And.intro T3 (And.intro F2 (And.intro st2 bq))))
    clear S3 T3 F2 st2 bq S2 T2 ba2 hm hla ba bc SX hbX h
    go_wp2_with (first | (refine wpList_load_run _ rfl (.tmp 4) 42 rfl _ hld ?_) | (refine wpList_store_run _ rfl (.tmp 4) (.tmp 124) 42 rfl _ hst ?_))
    obtain ⟨S3, T3, F2, st2, bq⟩ := Hz
    exact bodyPost_ret (answer_results rfl (bq.setRow _)) rfl ⟨L2, S3, F2, st2, T3, _, rfl, rfl, rfl, (by simp [Value.oneCell']), fun _ => ⟨.slice none 0 0, rfl, World.ownsRow_nil _ _ _ _, by simp, fun g hg => by cases hg⟩⟩
end
end Fs
end Go.Proofs.YtlnnbjgfpiefdaaGreat
