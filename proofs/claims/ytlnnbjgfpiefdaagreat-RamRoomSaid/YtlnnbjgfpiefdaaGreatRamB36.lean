/- answer: kinds of calls. -/
import Derived.Test.YtlnnbjgfpiefdaaGreatRamB32
import Derived.Test.YtlnnbjgfpiefdaaGreatRamB33
import Derived.Test.YtlnnbjgfpiefdaaGreatRamB34
import Derived.Test.YtlnnbjgfpiefdaaGreatRamB35
namespace Go.Proofs.YtlnnbjgfpiefdaaGreat
open Go.RowKit Go.Maps Go.Shelf

namespace Fs
section
variable {W X w2 w3 : World} {L L2 : Lay} {fb : Nat} {n : Int} {nb : Nat} {uv : Value} {vals : List Value}
set_option maxRecDepth 100000 in
set_option maxHeartbeats 8000000 in
theorem answer11 (h : Sim W L fb n nb (.slice none 0 0) []) (hw : WF L nb) (hR : Asked n (stOf L nb)) (c : Call) (hc : CallOk c) (hk : c.kind = 11) :
    Calls Tryz.prog 18 #[.pointer (some ⟨fb, 0, none⟩), .agg (callC c)] W fun e W' => Answd fb n nb W L (doC n (stOf L nb) c) e W' := by
  obtain ⟨X, hX⟩ : ∃ x, x = (W.alloc (.cells (callC c) 38)).alloc (.cells #[.int .i64 0, .int .i64 0, .string { data := #[] }, .int .i64 0, .int .i64 0, .int .i64 0, .int .i64 0, .int .i64 0, .slice none 0 0, .int .i64 0, .int .i64 0, .int .i64 0, .int .i64 0] 42) := ⟨_, rfl⟩
  have hbX : Below W.heap.size W X := by rw [hX]; exact ((Below.refl _ _).alloc (Nat.le_refl _) _).alloc (by simp) _
  have bc : Blk X W.heap.size (callC c) 38 := by rw [hX]; exact (Blk.newAt _ _ rfl).alloc _
  have ba : Blk X (W.heap.size + 1) #[.int .i64 0, .int .i64 0, .string { data := #[] }, .int .i64 0, .int .i64 0, .int .i64 0, .int .i64 0, .int .i64 0, .slice none 0 0, .int .i64 0, .int .i64 0, .int .i64 0, .int .i64 0] 42 := by rw [hX]; exact Blk.newAt _ _ (by simp)
  have SX := h.below hbX
  have hla := ba.lt
  have hm : ¬ Mine L (.slice none 0 0) (W.heap.size + 1) := h.not_mine (by omega)
  have HC := tell11 SX hw hR.snug.toFit hR.filed c hc hk
  rw [doC_tell n _ (by omega)]
  unfold callC at *
  rw [hk] at hX bc HC ⊢
  have Hk := Lib.hid hk
  clear hk
  generalize tell (stOf L nb) c = a at *
  unfold Answd
  dsimp only at HC ⊢
  go_enter Tryz.func18, Tryz.ntmps18
  go_wp2_with fail
  rw [← hX]
  clear hX
  refine HC.mono ?_
  rintro e w2 ⟨⟨v, rfl, hrow, hnil⟩, hb2⟩
  obtain ⟨ao, cp, rfl, _⟩ := own_shape2 hrow
  have T2 : Step X (Mine L (.slice none 0 0)) w2 (Mine L (.slice none 0 0)) := Step.of_below hb2
  have S2 := SX.below hb2
  have ba2 := ba.same (T2.block _ hla hm).1
  have hst := store_row (ys := ansC a (.slice ao a.names.length cp)) (ty := 42) ba2 info_answer rfl (by unfold ansC; simp [Value.oneCell'])
  have bq := ba2.setRow (ansC a (.slice ao a.names.length cp))
  obtain ⟨S3, T3⟩ := answ_end (w3 := w2.setRow (W.heap.size + 1) (ansC a (.slice ao a.names.length cp))) hbX hla h T2 S2 rfl rfl rfl (by simp) (fun b hb => setRow_heap _ _ _ _ hb)
  have Hz := Lib.hid (And.intro S3 (And.intro T3 (And.intro bq (And.intro hrow (And.intro hnil (And.intro h hla))))))
  clear S3 T3 bq S2 T2 ba2 hm hla ba bc SX hbX h hrow hnil hb2
  unfold ansC at hst Hz ⊢
  go_wp2_with (refine wpList_store_run _ rfl (.tmp 4) (.tmp 118) 42 rfl _ hst ?_)
  obtain ⟨S3, T3, bq, hrow, hnil, h, hla⟩ := Hz
  refine bodyPost_ret (answer_results rfl bq) rfl ⟨L, S3, hw, rfl, T3, _, rfl, rfl, rfl, (by simp [Value.oneCell']), fun _ => ⟨.slice ao a.names.length cp, rfl, ?_, hnil, fun g hg => h.not_mine (by have := (hrow.lt g hg).1; omega)⟩⟩
  exact row_base (row_same hrow fun g hg => setRow_heap _ _ _ _ (by have := (hrow.lt g hg).1; omega)) (by omega)
set_option maxRecDepth 100000 in
set_option maxHeartbeats 8000000 in
theorem answer12 (h : Sim W L fb n nb (.slice none 0 0) []) (hw : WF L nb) (hR : Asked n (stOf L nb)) (c : Call) (hc : CallOk c) (hk : c.kind = 12) :
    Calls Tryz.prog 18 #[.pointer (some ⟨fb, 0, none⟩), .agg (callC c)] W fun e W' => Answd fb n nb W L (doC n (stOf L nb) c) e W' := by
  obtain ⟨X, hX⟩ : ∃ x, x = (W.alloc (.cells (callC c) 38)).alloc (.cells #[.int .i64 0, .int .i64 0, .string { data := #[] }, .int .i64 0, .int .i64 0, .int .i64 0, .int .i64 0, .int .i64 0, .slice none 0 0, .int .i64 0, .int .i64 0, .int .i64 0, .int .i64 0] 42) := ⟨_, rfl⟩
  have hbX : Below W.heap.size W X := by rw [hX]; exact ((Below.refl _ _).alloc (Nat.le_refl _) _).alloc (by simp) _
  have bc : Blk X W.heap.size (callC c) 38 := by rw [hX]; exact (Blk.newAt _ _ rfl).alloc _
  have ba : Blk X (W.heap.size + 1) #[.int .i64 0, .int .i64 0, .string { data := #[] }, .int .i64 0, .int .i64 0, .int .i64 0, .int .i64 0, .int .i64 0, .slice none 0 0, .int .i64 0, .int .i64 0, .int .i64 0, .int .i64 0] 42 := by rw [hX]; exact Blk.newAt _ _ (by simp)
  have SX := h.below hbX
  have hla := ba.lt
  have hm : ¬ Mine L (.slice none 0 0) (W.heap.size + 1) := h.not_mine (by omega)
  have HC := tell12 SX hw hR.snug.toFit hR.filed c hc hk
  rw [doC_tell n _ (by omega)]
  unfold callC at *
  rw [hk] at hX bc HC ⊢
  have Hk := Lib.hid hk
  clear hk
  generalize tell (stOf L nb) c = a at *
  unfold Answd
  dsimp only at HC ⊢
  go_enter Tryz.func18, Tryz.ntmps18
  go_wp2_with fail
  rw [← hX]
  clear hX
  refine HC.mono ?_
  rintro e w2 ⟨⟨v, rfl, hrow, hnil⟩, hb2⟩
  obtain ⟨ao, cp, rfl, _⟩ := own_shape2 hrow
  have T2 : Step X (Mine L (.slice none 0 0)) w2 (Mine L (.slice none 0 0)) := Step.of_below hb2
  have S2 := SX.below hb2
  have ba2 := ba.same (T2.block _ hla hm).1
  have hst := store_row (ys := ansC a (.slice ao a.names.length cp)) (ty := 42) ba2 info_answer rfl (by unfold ansC; simp [Value.oneCell'])
  have bq := ba2.setRow (ansC a (.slice ao a.names.length cp))
  obtain ⟨S3, T3⟩ := answ_end (w3 := w2.setRow (W.heap.size + 1) (ansC a (.slice ao a.names.length cp))) hbX hla h T2 S2 rfl rfl rfl (by simp) (fun b hb => setRow_heap _ _ _ _ hb)
  have Hz := Lib.hid (And.intro S3 (And.intro T3 (And.intro bq (And.intro hrow (And.intro hnil (And.intro h hla))))))
  clear S3 T3 bq S2 T2 ba2 hm hla ba bc SX hbX h hrow hnil hb2
  unfold ansC at hst Hz ⊢
  go_wp2_with (refine wpList_store_run _ rfl (.tmp 4) (.tmp 118) 42 rfl _ hst ?_)
  obtain ⟨S3, T3, bq, hrow, hnil, h, hla⟩ := Hz
  refine bodyPost_ret (answer_results rfl bq) rfl ⟨L, S3, hw, rfl, T3, _, rfl, rfl, rfl, (by simp [Value.oneCell']), fun _ => ⟨.slice ao a.names.length cp, rfl, ?_, hnil, fun g hg => h.not_mine (by have := (hrow.lt g hg).1; omega)⟩⟩
  exact row_base (row_same hrow fun g hg => setRow_heap _ _ _ _ (by have := (hrow.lt g hg).1; omega)) (by omega)
set_option maxRecDepth 100000 in
set_option maxHeartbeats 8000000 in
theorem answer13 (h : Sim W L fb n nb (.slice none 0 0) []) (hw : WF L nb) (hR : Asked n (stOf L nb)) (c : Call) (hc : CallOk c) (hk : c.kind = 13) :
    Calls Tryz.prog 18 #[.pointer (some ⟨fb, 0, none⟩), .agg (callC c)] W fun e W' => Answd fb n nb W L (doC n (stOf L nb) c) e W' := by
  obtain ⟨X, hX⟩ : ∃ x, x = (W.alloc (.cells (callC c) 38)).alloc (.cells #[.int .i64 0, .int .i64 0, .string { data := #[] }, .int .i64 0, .int .i64 0, .int .i64 0, .int .i64 0, .int .i64 0, .slice none 0 0, .int .i64 0, .int .i64 0, .int .i64 0, .int .i64 0] 42) := ⟨_, rfl⟩
  have hbX : Below W.heap.size W X := by rw [hX]; exact ((Below.refl _ _).alloc (Nat.le_refl _) _).alloc (by simp) _
  have bc : Blk X W.heap.size (callC c) 38 := by rw [hX]; exact (Blk.newAt _ _ rfl).alloc _
  have ba : Blk X (W.heap.size + 1) #[.int .i64 0, .int .i64 0, .string { data := #[] }, .int .i64 0, .int .i64 0, .int .i64 0, .int .i64 0, .int .i64 0, .slice none 0 0, .int .i64 0, .int .i64 0, .int .i64 0, .int .i64 0] 42 := by rw [hX]; exact Blk.newAt _ _ (by simp)
  have SX := h.below hbX
  have hla := ba.lt
  have hm : ¬ Mine L (.slice none 0 0) (W.heap.size + 1) := h.not_mine (by omega)
  have HC := tell13 SX hw hR.snug.toFit hR.filed c hc hk
  rw [doC_tell n _ (by omega)]
  unfold callC at *
  rw [hk] at hX bc HC ⊢
  have Hk := Lib.hid hk
  clear hk
  generalize tell (stOf L nb) c = a at *
  unfold Answd
  dsimp only at HC ⊢
  go_enter Tryz.func18, Tryz.ntmps18
  go_wp2_with fail
  rw [← hX]
  clear hX
  refine HC.mono ?_
  rintro e w2 ⟨⟨v, rfl, hrow, hnil⟩, hb2⟩
  obtain ⟨ao, cp, rfl, _⟩ := own_shape2 hrow
  have T2 : Step X (Mine L (.slice none 0 0)) w2 (Mine L (.slice none 0 0)) := Step.of_below hb2
  have S2 := SX.below hb2
  have ba2 := ba.same (T2.block _ hla hm).1
  have hst := store_row (ys := ansC a (.slice ao a.names.length cp)) (ty := 42) ba2 info_answer rfl (by unfold ansC; simp [Value.oneCell'])
  have bq := ba2.setRow (ansC a (.slice ao a.names.length cp))
  obtain ⟨S3, T3⟩ := answ_end (w3 := w2.setRow (W.heap.size + 1) (ansC a (.slice ao a.names.length cp))) hbX hla h T2 S2 rfl rfl rfl (by simp) (fun b hb => setRow_heap _ _ _ _ hb)
  have Hz := Lib.hid (And.intro S3 (And.intro T3 (And.intro bq (And.intro hrow (And.intro hnil (And.intro h hla))))))
  clear S3 T3 bq S2 T2 ba2 hm hla ba bc SX hbX h hrow hnil hb2
  unfold ansC at hst Hz ⊢
  go_wp2_with (refine wpList_store_run _ rfl (.tmp 4) (.tmp 118) 42 rfl _ hst ?_)
  obtain ⟨S3, T3, bq, hrow, hnil, h, hla⟩ := Hz
  refine bodyPost_ret (answer_results rfl bq) rfl ⟨L, S3, hw, rfl, T3, _, rfl, rfl, rfl, (by simp [Value.oneCell']), fun _ => ⟨.slice ao a.names.length cp, rfl, ?_, hnil, fun g hg => h.not_mine (by have := (hrow.lt g hg).1; omega)⟩⟩
  exact row_base (row_same hrow fun g hg => setRow_heap _ _ _ _ (by have := (hrow.lt g hg).1; omega)) (by omega)
set_option maxRecDepth 100000 in
set_option maxHeartbeats 8000000 in
theorem answer14 (h : Sim W L fb n nb (.slice none 0 0) []) (hw : WF L nb) (hR : Asked n (stOf L nb)) (c : Call) (hc : CallOk c) (hk : c.kind = 14) :
    Calls Tryz.prog 18 #[.pointer (some ⟨fb, 0, none⟩), .agg (callC c)] W fun e W' => Answd fb n nb W L (doC n (stOf L nb) c) e W' := by
  obtain ⟨X, hX⟩ : ∃ x, x = (W.alloc (.cells (callC c) 38)).alloc (.cells #[.int .i64 0, .int .i64 0, .string { data := #[] }, .int .i64 0, .int .i64 0, .int .i64 0, .int .i64 0, .int .i64 0, .slice none 0 0, .int .i64 0, .int .i64 0, .int .i64 0, .int .i64 0] 42) := ⟨_, rfl⟩
  have hbX : Below W.heap.size W X := by rw [hX]; exact ((Below.refl _ _).alloc (Nat.le_refl _) _).alloc (by simp) _
  have bc : Blk X W.heap.size (callC c) 38 := by rw [hX]; exact (Blk.newAt _ _ rfl).alloc _
  have ba : Blk X (W.heap.size + 1) #[.int .i64 0, .int .i64 0, .string { data := #[] }, .int .i64 0, .int .i64 0, .int .i64 0, .int .i64 0, .int .i64 0, .slice none 0 0, .int .i64 0, .int .i64 0, .int .i64 0, .int .i64 0] 42 := by rw [hX]; exact Blk.newAt _ _ (by simp)
  have SX := h.below hbX
  have hla := ba.lt
  have hm : ¬ Mine L (.slice none 0 0) (W.heap.size + 1) := h.not_mine (by omega)
  have HC := tell14 SX hw hR.snug.toFit hR.filed c hc hk
  rw [doC_tell n _ (by omega)]
  unfold callC at *
  rw [hk] at hX bc HC ⊢
  have Hk := Lib.hid hk
  clear hk
  generalize tell (stOf L nb) c = a at *
  unfold Answd
  dsimp only at HC ⊢
  go_enter Tryz.func18, Tryz.ntmps18
  go_wp2_with fail
  rw [← hX]
  clear hX
  refine HC.mono ?_
  rintro e w2 ⟨⟨v, rfl, hrow, hnil⟩, hb2⟩
  obtain ⟨ao, cp, rfl, _⟩ := own_shape2 hrow
  have T2 : Step X (Mine L (.slice none 0 0)) w2 (Mine L (.slice none 0 0)) := Step.of_below hb2
  have S2 := SX.below hb2
  have ba2 := ba.same (T2.block _ hla hm).1
  have hst := store_row (ys := ansC a (.slice ao a.names.length cp)) (ty := 42) ba2 info_answer rfl (by unfold ansC; simp [Value.oneCell'])
  have bq := ba2.setRow (ansC a (.slice ao a.names.length cp))
  obtain ⟨S3, T3⟩ := answ_end (w3 := w2.setRow (W.heap.size + 1) (ansC a (.slice ao a.names.length cp))) hbX hla h T2 S2 rfl rfl rfl (by simp) (fun b hb => setRow_heap _ _ _ _ hb)
  have Hz := Lib.hid (And.intro S3 (And.intro T3 (And.intro bq (And.intro hrow (And.intro hnil (And.intro h hla))))))
  clear S3 T3 bq S2 T2 ba2 hm hla ba bc SX hbX h hrow hnil hb2
  unfold ansC at hst Hz ⊢
  go_wp2_with (refine wpList_store_run _ rfl (.tmp 4) (.tmp 118) 42 rfl _ hst ?_)
  obtain ⟨S3, T3, bq, hrow, hnil, h, hla⟩ := Hz
  refine bodyPost_ret (answer_results rfl bq) rfl ⟨L, S3, hw, rfl, T3, _, rfl, rfl, rfl, (by simp [Value.oneCell']), fun _ => ⟨.slice ao a.names.length cp, rfl, ?_, hnil, fun g hg => h.not_mine (by have := (hrow.lt g hg).1; omega)⟩⟩
  exact row_base (row_same hrow fun g hg => setRow_heap _ _ _ _ (by have := (hrow.lt g hg).1; omega)) (by omega)
set_option maxRecDepth 100000 in
set_option maxHeartbeats 8000000 in
theorem answer15 (h : Sim W L fb n nb (.slice none 0 0) []) (hw : WF L nb) (hR : Asked n (stOf L nb)) (c : Call) (hk : c.kind = 15) :
    Calls Tryz.prog 18 #[.pointer (some ⟨fb, 0, none⟩), .agg (callC c)] W fun e W' => Answd fb n nb W L (doC n (stOf L nb) c) e W' := by
  obtain ⟨X, hX⟩ : ∃ x, x = (W.alloc (.cells (callC c) 38)).alloc (.cells #[.int .i64 0, .int .i64 0, .string { data := #[] }, .int .i64 0, .int .i64 0, .int .i64 0, .int .i64 0, .int .i64 0, .slice none 0 0, .int .i64 0, .int .i64 0, .int .i64 0, .int .i64 0] 42) := ⟨_, rfl⟩
  have hbX : Below W.heap.size W X := by rw [hX]; exact ((Below.refl _ _).alloc (Nat.le_refl _) _).alloc (by simp) _
  have bc : Blk X W.heap.size (callC c) 38 := by rw [hX]; exact (Blk.newAt _ _ rfl).alloc _
  have ba : Blk X (W.heap.size + 1) #[.int .i64 0, .int .i64 0, .string { data := #[] }, .int .i64 0, .int .i64 0, .int .i64 0, .int .i64 0, .int .i64 0, .slice none 0 0, .int .i64 0, .int .i64 0, .int .i64 0, .int .i64 0] 42 := by rw [hX]; exact Blk.newAt _ _ (by simp)
  have SX := h.below hbX
  have hla := ba.lt
  have hm : ¬ Mine L (.slice none 0 0) (W.heap.size + 1) := h.not_mine (by omega)
  have HC := room_st SX hw hR.n1 hR.n2 hR.filed hR.len hR.t1 hR.t2
  rw [doC_room n _ hk]
  rw [show (⟨n - dataAt n - taken (stOf L nb), n - dataAt n, countOf n - 1 - (stOf L nb).length, countOf n - 1⟩ : Room) = roomN n (stOf L nb) from rfl]
  unfold callC at *
  rw [hk] at hX bc ⊢
  have Hk := Lib.hid hk
  clear hk
  generalize roomN n (stOf L nb) = r at *
  unfold Answd
  dsimp only at HC ⊢
  go_enter Tryz.func18, Tryz.ntmps18
  go_wp2_with fail
  rw [← hX]
  clear hX
  refine HC.mono ?_
  rintro e w2 ⟨rfl, hb2⟩
  have T2 : Step X (Mine L (.slice none 0 0)) w2 (Mine L (.slice none 0 0)) := Step.of_below hb2
  have S2 := SX.below hb2
  have ba2 := ba.same (T2.block _ hla hm).1
  have hst0 : (Instr.storeAt 29 (.pointer (some ⟨W.heap.size + 1, 9, none⟩)) (.agg (roomC r))).run Tryz.prog w2 = .ok () (w2.setRow (W.heap.size + 1) #[.int .i64 0, .int .i64 0, .string { data := #[] }, .int .i64 0, .int .i64 0, .int .i64 0, .int .i64 0, .int .i64 0, .slice none 0 0, .int .i64 r.freeB, .int .i64 r.blocks, .int .i64 r.freeI, .int .i64 r.inodes]) := store_part ba2 info_room (Nat.le_of_ble_eq_true rfl) (by simp [roomC, Value.oneCell'])
  have bq := ba2.setRow #[.int .i64 0, .int .i64 0, .string { data := #[] }, .int .i64 0, .int .i64 0, .int .i64 0, .int .i64 0, .int .i64 0, .slice none 0 0, .int .i64 r.freeB, .int .i64 r.blocks, .int .i64 r.freeI, .int .i64 r.inodes]
  have hld := load_answer bq rfl
  have hst := store_row (ys := #[.int .i64 0, .int .i64 0, .string { data := #[] }, .int .i64 0, .int .i64 0, .int .i64 0, .int .i64 0, .int .i64 0, .slice none 0 0, .int .i64 r.freeB, .int .i64 r.blocks, .int .i64 r.freeI, .int .i64 r.inodes]) (ty := 42) bq info_answer rfl (by simp [Value.oneCell'])
  obtain ⟨S3, T3⟩ := answ_end (w3 := (w2.setRow (W.heap.size + 1) #[.int .i64 0, .int .i64 0, .string { data := #[] }, .int .i64 0, .int .i64 0, .int .i64 0, .int .i64 0, .int .i64 0, .slice none 0 0, .int .i64 r.freeB, .int .i64 r.blocks, .int .i64 r.freeI, .int .i64 r.inodes]).setRow (W.heap.size + 1) #[.int .i64 0, .int .i64 0, .string { data := #[] }, .int .i64 0, .int .i64 0, .int .i64 0, .int .i64 0, .int .i64 0, .slice none 0 0, .int .i64 r.freeB, .int .i64 r.blocks, .int .i64 r.freeI, .int .i64 r.inodes]) hbX hla h T2 S2 rfl rfl rfl (by simp) (fun b hb => (setRow_heap _ _ _ _ hb).trans (setRow_heap _ _ _ _ hb))
  have Hz := Lib.hid (And.intro S3 (And.intro T3 bq))
  clear S3 T3 bq S2 T2 ba2 hm hla ba bc SX hbX h hb2
  go_wp2_with (first | (refine wpList_load_run _ rfl (.tmp 4) 42 rfl _ hld ?_) | (refine wpList_store_run _ rfl (.tmp 123) (.tmp 122) 29 rfl _ hst0 ?_) | (refine wpList_store_run _ rfl (.tmp 4) (.tmp 124) 42 rfl _ hst ?_))
  obtain ⟨S3, T3, bq⟩ := Hz
  exact bodyPost_ret (answer_results rfl (bq.setRow _)) rfl ⟨L, S3, hw, rfl, T3, _, rfl, rfl, rfl, (by simp [Value.oneCell']), fun _ => ⟨.slice none 0 0, rfl, World.ownsRow_nil _ _ _ _, by simp, fun g hg => by cases hg⟩⟩
set_option maxRecDepth 100000 in
set_option maxHeartbeats 8000000 in
theorem answerElse (h : Sim W L fb n nb (.slice none 0 0) []) (hw : WF L nb) (c : Call) (hk : c.kind < 1 ∨ 15 < c.kind) :
    Calls Tryz.prog 18 #[.pointer (some ⟨fb, 0, none⟩), .agg (callC c)] W fun e W' => Answd fb n nb W L (doC n (stOf L nb) c) e W' := by
  obtain ⟨X, hX⟩ : ∃ x, x = (W.alloc (.cells (callC c) 38)).alloc (.cells #[.int .i64 0, .int .i64 0, .string { data := #[] }, .int .i64 0, .int .i64 0, .int .i64 0, .int .i64 0, .int .i64 0, .slice none 0 0, .int .i64 0, .int .i64 0, .int .i64 0, .int .i64 0] 42) := ⟨_, rfl⟩
  have hbX : Below W.heap.size W X := by rw [hX]; exact ((Below.refl _ _).alloc (Nat.le_refl _) _).alloc (by simp) _
  have bc : Blk X W.heap.size (callC c) 38 := by rw [hX]; exact (Blk.newAt _ _ rfl).alloc _
  have ba : Blk X (W.heap.size + 1) #[.int .i64 0, .int .i64 0, .string { data := #[] }, .int .i64 0, .int .i64 0, .int .i64 0, .int .i64 0, .int .i64 0, .slice none 0 0, .int .i64 0, .int .i64 0, .int .i64 0, .int .i64 0] 42 := by rw [hX]; exact Blk.newAt _ _ (by simp)
  have SX := h.below hbX
  have hla := ba.lt
  have hm : ¬ Mine L (.slice none 0 0) (W.heap.size + 1) := h.not_mine (by omega)
  rw [doC_else n _ hk]
  unfold callC at *
  unfold Answd
  dsimp only
  have k1 : (c.kind == 1) = false := beq_eq_false_iff_ne.2 (by omega)
  have k2 : (c.kind == 2) = false := beq_eq_false_iff_ne.2 (by omega)
  have k3 : (c.kind == 3) = false := beq_eq_false_iff_ne.2 (by omega)
  have k4 : (c.kind == 4) = false := beq_eq_false_iff_ne.2 (by omega)
  have k5 : (c.kind == 5) = false := beq_eq_false_iff_ne.2 (by omega)
  have k6 : (c.kind == 6) = false := beq_eq_false_iff_ne.2 (by omega)
  have k7 : (c.kind == 7) = false := beq_eq_false_iff_ne.2 (by omega)
  have k8 : (c.kind == 8) = false := beq_eq_false_iff_ne.2 (by omega)
  have k9 : (c.kind == 9) = false := beq_eq_false_iff_ne.2 (by omega)
  have k10 : (c.kind == 10) = false := beq_eq_false_iff_ne.2 (by omega)
  have k11 : (c.kind == 11) = false := beq_eq_false_iff_ne.2 (by omega)
  have k12 : (c.kind == 12) = false := beq_eq_false_iff_ne.2 (by omega)
  have k13 : (c.kind == 13) = false := beq_eq_false_iff_ne.2 (by omega)
  have k14 : (c.kind == 14) = false := beq_eq_false_iff_ne.2 (by omega)
  have k15 : (c.kind == 15) = false := beq_eq_false_iff_ne.2 (by omega)
  have Hk := Lib.hid hk
  clear hk
  have hB : Below W.heap.size W ((W.alloc (.cells #[.int .i64 c.kind, .string (mk c.path), .string (mk c.other), .int .i64 c.off, .int .i64 c.size, .string (mk c.data)] 38)).alloc (.cells #[.int .i64 1, .int .i64 0, .string { data := #[] }, .int .i64 0, .int .i64 0, .int .i64 0, .int .i64 0, .int .i64 0, .slice none 0 0, .int .i64 0, .int .i64 0, .int .i64 0, .int .i64 0] 42)) := ((Below.refl _ _).alloc (Nat.le_refl _) _).alloc (by simp) _
  have bq : Blk ((W.alloc (.cells #[.int .i64 c.kind, .string (mk c.path), .string (mk c.other), .int .i64 c.off, .int .i64 c.size, .string (mk c.data)] 38)).alloc (.cells #[.int .i64 1, .int .i64 0, .string { data := #[] }, .int .i64 0, .int .i64 0, .int .i64 0, .int .i64 0, .int .i64 0, .slice none 0 0, .int .i64 0, .int .i64 0, .int .i64 0, .int .i64 0] 42)) (W.heap.size + 1) #[.int .i64 1, .int .i64 0, .string { data := #[] }, .int .i64 0, .int .i64 0, .int .i64 0, .int .i64 0, .int .i64 0, .slice none 0 0, .int .i64 0, .int .i64 0, .int .i64 0, .int .i64 0] 42 := Blk.newAt _ _ (by simp)
  have S3 := h.below hB
  have T3 : Step W (Mine L (.slice none 0 0)) _ (Mine L (.slice none 0 0)) := Step.of_below hB
  have Hz := Lib.hid (And.intro S3 (And.intro T3 bq))
  clear S3 T3 bq hm hla ba bc SX hbX h hB hX
  go_enter Tryz.func18, Tryz.ntmps18
  go_wp2_with fail
  obtain ⟨S3, T3, bq⟩ := Hz
  exact bodyPost_ret (answer_results rfl bq) rfl ⟨L, S3, hw, rfl, T3, _, rfl, rfl, rfl, (by simp [Value.oneCell']), fun h0 => absurd h0 (by decide)⟩
end
end Fs
end Go.Proofs.YtlnnbjgfpiefdaaGreat
/- Do: a call as plain data. -/
namespace Go.Proofs.YtlnnbjgfpiefdaaGreat
open Go.RowKit Go.Maps Go.Shelf

namespace Fs
/-- An answer's value in a world; its names in a row of the call's own. -/
def AnsAt (W : World) (base : Nat) (L : Lay) (a : Ans) (v : Value) : Prop := W.ownsRow base 9 1 v a.names.length (strsV a.names) ∧ (v = .slice none 0 0 ↔ a.names = []) ∧ ∀ g, v.ownBlock = some g → ¬ Mine L (.slice none 0 0) g
/-- What a call comes to. -/
def Done (fb : Nat) (n : Int) (nb : Nat) (W : World) (L : Lay) (r : Tree × Ans) (e : Ending) (W' : World) : Prop :=
  ∃ L' v, Sim W' L' fb n nb (.slice none 0 0) [] ∧ WF L' nb ∧ stOf L' nb = r.1 ∧ Step W (Mine L (.slice none 0 0)) W' (Mine L' (.slice none 0 0)) ∧ e = .returned (.agg (ansC r.2 v)) ∧ AnsAt W' W.heap.size L' r.2 v
theorem ansN_err (r : Tree × Except Int Int) (h : (ansN r).2.err ≠ 0) : (ansN r).2 = { err := (ansN r).2.err } := by
  obtain ⟨s, r⟩ := r
  cases r with
  | error z => rfl
  | ok v => exact absurd rfl h
theorem ansE_err (v : Int) (r : Tree × Except Int Int) (h : (ansE v r).2.err ≠ 0) : (ansE v r).2 = { err := (ansE v r).2.err } := by
  obtain ⟨s, r⟩ := r
  cases r with
  | error z => rfl
  | ok v => exact absurd rfl h
/-- What is refused tells nothing. -/
theorem doC_err (n : Int) (s : Tree) (c : Call) (h : (doC n s c).2.err ≠ 0) : (doC n s c).2 = { err := (doC n s c).2.err } := by
  by_cases c1 : c.kind = 1
  · rw [doC_1 n s c1] at h ⊢; exact ansN_err _ h
  by_cases c2 : c.kind = 2
  · rw [doC_2 n s c2] at h ⊢; exact ansN_err _ h
  by_cases c10 : c.kind = 10
  · rw [sym_eq n s c10] at h ⊢; exact ansN_err _ h
  by_cases c3 : c.kind = 3
  · rw [read_eq n s c3] at h ⊢
    unfold readA at h ⊢
    cases hr : readPathR s c with
    | error z => rfl
    | ok t => rw [hr] at h; exact absurd rfl h
  by_cases c4 : c.kind = 4
  · rw [write_eq n s c4] at h ⊢; exact ansE_err _ _ h
  by_cases c5 : c.kind = 5
  · rw [cut_eq n s c5] at h ⊢; exact ansE_err _ _ h
  by_cases c6 : c.kind = 6
  · rw [doC_6 n s c6] at h ⊢; exact ansE_err _ _ h
  by_cases c7 : c.kind = 7
  · rw [doC_7 n s c7] at h ⊢; exact ansE_err _ _ h
  by_cases c8 : c.kind = 8
  · rw [doC_8 n s c8] at h ⊢; exact ansE_err _ _ h
  by_cases c9 : c.kind = 9
  · rw [doC_9 n s c9] at h ⊢; exact ansE_err _ _ h
  by_cases ct : c.kind = 11 ∨ c.kind = 12 ∨ c.kind = 13 ∨ c.kind = 14
  · rw [doC_tell n s ct] at h ⊢
    unfold tell at h ⊢
    cases hq : toP s c.path (decide (c.kind = 12 ∨ c.kind = 14)) with
    | error z => rfl
    | ok q =>
      rw [hq] at h
      dsimp only at h ⊢
      by_cases e1 : c.kind = 11
      · rw [if_pos e1] at h ⊢
        by_cases e2 : (ndAt s q.inode).kind ≠ 3
        · rw [if_pos e2]
        · rw [if_neg e2] at h; exact absurd rfl h
      · rw [if_neg e1] at h ⊢
        by_cases e2 : c.kind = 14
        · rw [if_pos e2] at h ⊢
          by_cases e3 : (ndAt s q.inode).kind ≠ 2
          · rw [if_pos e3]
          · rw [if_neg e3] at h; exact absurd rfl h
        · rw [if_neg e2] at h; exact absurd rfl h
  by_cases c15 : c.kind = 15
  · rw [doC_room n s c15] at h; exact absurd rfl h
  · rw [doC_else n s (by omega)]
set_option maxRecDepth 100000 in
theorem do_results {tmps : Array Value} {w : World} {b : Nat} {v0 v1 v2 v3 v4 v5 v6 v7 v8 v9 v10 v11 v12 : Value} {t : TypeId} (h4 : tmps[4]? = some (.pointer (some ⟨b, 0, none⟩))) (hb : Blk w b #[v0, v1, v2, v3, v4, v5, v6, v7, v8, v9, v10, v11, v12] t) :
    (results Tryz.f11 tmps).run Tryz.prog w = .ok (.agg #[v0, v1, v2, v3, v4, v5, v6, v7, v8, v9, v10, v11, v12]) w := by
  have c0 : w.cell? ⟨b, 0, none⟩ = some v0 := hb.cell 0
  have c1 : w.cell? ⟨b, 1, none⟩ = some v1 := hb.cell 1
  have c2 : w.cell? ⟨b, 2, none⟩ = some v2 := hb.cell 2
  have c3 : w.cell? ⟨b, 3, none⟩ = some v3 := hb.cell 3
  have c4 : w.cell? ⟨b, 4, none⟩ = some v4 := hb.cell 4
  have c5 : w.cell? ⟨b, 5, none⟩ = some v5 := hb.cell 5
  have c6 : w.cell? ⟨b, 6, none⟩ = some v6 := hb.cell 6
  have c7 : w.cell? ⟨b, 7, none⟩ = some v7 := hb.cell 7
  have c8 : w.cell? ⟨b, 8, none⟩ = some v8 := hb.cell 8
  have c9 : w.cell? ⟨b, 9, none⟩ = some v9 := hb.cell 9
  have c10 : w.cell? ⟨b, 10, none⟩ = some v10 := hb.cell 10
  have c11 : w.cell? ⟨b, 11, none⟩ = some v11 := hb.cell 11
  have c12 : w.cell? ⟨b, 12, none⟩ = some v12 := hb.cell 12
  simp [results, Tryz.results11, go_sem, h4, c0, c1, c2, c3, c4, c5, c6, c7, c8, c9, c10, c11, c12]
/-- A whole answer behind an alloc. -/
theorem put_answer {w : World} {cs : Array Value} (hc : cs.size = 13) (h1 : cs.all (·.oneCell') = true) : ∃ Y, (Instr.storeAt 42 (.pointer (some ⟨w.heap.size, 0, none⟩)) (.agg cs)).run Tryz.prog (w.alloc (.cells #[.int .i64 0, .int .i64 0, .string { data := #[] }, .int .i64 0, .int .i64 0, .int .i64 0, .int .i64 0, .int .i64 0, .slice none 0 0, .int .i64 0, .int .i64 0, .int .i64 0, .int .i64 0] 42)) = .ok () Y ∧ Blk Y w.heap.size cs 42 ∧ Below w.heap.size w Y ∧ Y.heap.size = w.heap.size + 1 :=
  ⟨_, store_row (ty := 42) (Blk.new _ _ _) (by rw [hc]; exact info_answer) (by rw [hc]; rfl) h1, (Blk.new _ _ _).setRow cs, below_setRow ((Below.refl _ _).alloc (Nat.le_refl _) _) (Nat.le_refl _) _, by simp⟩
section
variable {W : World} {L : Lay} {fb : Nat} {n : Int} {nb : Nat} {k : Nat}
theorem answer_st (h : Sim W L fb n nb (.slice none 0 0) []) (hw : WF L nb) (hI : Inv n k (stOf L nb)) (hk : k ≤ 900) (hn1 : 128 ≤ n) (hn2 : n ≤ 16384) (c : Call) (hc : CallOk c) :
    Calls Tryz.prog 18 #[.pointer (some ⟨fb, 0, none⟩), .agg (callC c)] W fun e W' => Answd fb n nb W L (doC n (stOf L nb) c) e W' := by
  have hR := hI.asked (by omega) hn1 hn2
  have tok : ∀ {s'}, Inv n (k + 1) s' → TOk s' := fun hi => hi.tok (by omega)
  by_cases c1 : c.kind = 1
  · exact answer1 h hw hR c hc c1 fun s' t v e => tok (fresh_inv hI newFile_inv rfl rfl e)
  by_cases c2 : c.kind = 2
  · exact answer2 h hw hR c hc c2 fun s' t v e => tok (fresh_inv hI newDir_inv rfl rfl e)
  by_cases c10 : c.kind = 10
  · exact answer10 h hw hR c hc c10 fun l hl s' t v e => tok (fresh_inv hI (newLink_inv (textP_len hl)) rfl rfl e)
  by_cases c3 : c.kind = 3
  · exact answer3 h hw hR c hc c3
  by_cases c4 : c.kind = 4
  · refine answer4 h c c4 fun Y hY => ?_
    by_cases c0 : c.off < 0
    · exact writePath_neg hY hw c c0
    · refine writePath_st hY hw hR.snug.toFit hR.filed hn1 hn2 c hc fun i hi s' t v e => ?_
      obtain ⟨x, hx, hxk⟩ := fileP_some hI (by omega) hn1 hn2 hi
      exact tok (write_inv hI hx hxk (by omega) e)
  by_cases c5 : c.kind = 5
  · refine answer5 h c c5 fun Y hY => ?_
    by_cases c0 : c.size < 0
    · exact cutPath_neg hY hw c c0
    · refine cutPath_st hY hw hR.snug.toFit hR.filed hn1 hn2 c hc fun i hi s' t v e => ?_
      obtain ⟨x, hx, hxk⟩ := fileP_some hI (by omega) hn1 hn2 hi
      exact tok (cut_inv hI hx hxk (by omega) e)
  by_cases c6 : c.kind = 6
  · exact answer6 h hw hR c hc c6 fun s' t v e => tok (unlink_inv hI e)
  by_cases c7 : c.kind = 7
  · exact answer7 h hw hR c hc c7 fun s' t v e => tok (rmdir_inv hI e)
  by_cases c8 : c.kind = 8
  · exact answer8 h hw hR c hc c8 fun s' t v e => tok (rename_inv hI e)
  by_cases c9 : c.kind = 9
  · exact answer9 h hw hR c hc c9 fun s' t v e => tok (link_inv hI e)
  by_cases c11 : c.kind = 11
  · exact answer11 h hw hR c hc c11
  by_cases c12 : c.kind = 12
  · exact answer12 h hw hR c hc c12
  by_cases c13 : c.kind = 13
  · exact answer13 h hw hR c hc c13
  by_cases c14 : c.kind = 14
  · exact answer14 h hw hR c hc c14
  by_cases c15 : c.kind = 15
  · exact answer15 h hw hR c c15
  · exact answerElse h hw c (by omega)
set_option maxRecDepth 100000 in
set_option maxHeartbeats 8000000 in
theorem do_st (h : Sim W L fb n nb (.slice none 0 0) []) (hw : WF L nb) (hI : Inv n k (stOf L nb)) (hk : k ≤ 900) (hn1 : 128 ≤ n) (hn2 : n ≤ 16384) (c : Call) (hc : CallOk c) :
    Calls Tryz.prog 11 #[.pointer (some ⟨fb, 0, none⟩), .agg (callC c)] W fun e W' => Done fb n nb W L (doC n (stOf L nb) c) e W' := by
  obtain ⟨X, hX⟩ : ∃ x, x = (W.alloc (.cells (callC c) 38)).alloc (.cells #[.int .i64 0, .int .i64 0, .string { data := #[] }, .int .i64 0, .int .i64 0, .int .i64 0, .int .i64 0, .int .i64 0, .slice none 0 0, .int .i64 0, .int .i64 0, .int .i64 0, .int .i64 0] 42) := ⟨_, rfl⟩
  have hbX : Below W.heap.size W X := by rw [hX]; exact ((Below.refl _ _).alloc (Nat.le_refl _) _).alloc (by simp) _
  have ba : Blk X (W.heap.size + 1) #[.int .i64 0, .int .i64 0, .string { data := #[] }, .int .i64 0, .int .i64 0, .int .i64 0, .int .i64 0, .int .i64 0, .slice none 0 0, .int .i64 0, .int .i64 0, .int .i64 0, .int .i64 0] 42 := by rw [hX]; exact Blk.newAt _ _ (by simp)
  have SX := h.below hbX
  have hla := ba.lt
  have hm : ¬ Mine L (.slice none 0 0) (W.heap.size + 1) := h.not_mine (by omega)
  have HC := answer_st SX hw hI hk hn1 hn2 c hc
  have hde := doC_err n (stOf L nb) c
  generalize doC n (stOf L nb) c = r at *
  obtain ⟨s0, a⟩ := r
  unfold Answd at HC
  unfold Done
  dsimp only at HC hde ⊢
  unfold callC at *
  go_enter Tryz.func11, Tryz.ntmps11
  go_wp2_with fail
  rw [← hX]
  clear hX
  refine HC.mono ?_
  rintro e w2 ⟨L2, S2, F2, st2, T2, cs, rfl, hcs, hc0, hc1, hc2⟩
  have ba2 := ba.same (T2.block _ hla hm).1
  have hl2 : W.heap.size + 1 < w2.heap.size := Nat.lt_of_lt_of_le hla T2.size
  obtain ⟨Y, hst, bn4, hbY, hsY⟩ := put_answer (w := w2) hcs hc1
  have ba4 := ba2.same (hbY.block _ ba2.lt)
  have hn0 : Y.cell? ⟨w2.heap.size, 0, none⟩ = some (.int .i64 a.err) := (bn4.cell 0).trans hc0
  have hnm : ¬ Mine L2 (.slice none 0 0) w2.heap.size := S2.not_mine (Nat.le_refl _)
  have hm2 := (T2.block _ hla hm).2
  -- the end: the answer's block is written
  have END : ∀ ys : Array Value, Sim (Y.setRow (W.heap.size + 1) ys) L2 fb n nb (.slice none 0 0) [] ∧ Step W (Mine L (.slice none 0 0)) (Y.setRow (W.heap.size + 1) ys) (Mine L2 (.slice none 0 0)) := fun ys => by
    have hh : ∀ x, x ≠ W.heap.size + 1 → x < w2.heap.size → (Y.setRow (W.heap.size + 1) ys).heap[x]? = w2.heap[x]? := fun x h1 h2 => by
      rw [setRow_heap _ _ _ _ h1]; exact hbY.block x h2
    refine ⟨S2.same (by rw [setRow_size]; omega) fun b hb => hh b (fun e => hm2 (e ▸ hb)) (S2.mine_lt hb), ?_⟩
    refine ⟨hbY.os.trans (T2.os.trans hbX.os), hbY.tape.trans (T2.tape.trans hbX.tape), hbY.output.trans (T2.output.trans hbX.output), ?_, fun x hx1 hx2 => ?_⟩
    · have := T2.size; have := hbX.size; rw [setRow_size]; omega
    · have h1 := T2.block x (Nat.lt_of_lt_of_le hx1 hbX.size) hx2
      exact ⟨(hh x (by omega) (by omega)).trans (h1.1.trans (hbX.block x hx1)), h1.2⟩
  by_cases he : a.err = 0
  · obtain ⟨v, rfl, hrow, hnil, hown⟩ := hc2 he
    obtain ⟨ao, cp, rfl, _⟩ := own_shape2 hrow
    have hld := load_answer bn4 rfl
    have hst2 := store_row (ys := ansC a (.slice ao a.names.length cp)) (ty := 42) ba4 info_answer rfl hc1
    have bq := ba4.setRow (ansC a (.slice ao a.names.length cp))
    obtain ⟨S5, T5⟩ := END (ansC a (.slice ao a.names.length cp))
    rw [he] at hn0
    clear he
    have Hz := Lib.hid (And.intro S5 (And.intro T5 (And.intro F2 (And.intro st2 (And.intro bq (And.intro hrow (And.intro hnil (And.intro hown (And.intro hla (And.intro T2.size (And.intro hbX.size hbY)))))))))))
    clear S5 T5 bq S2 T2 ba2 hm hla ba SX hbX h bn4 ba4 hc0 hc1 hc2 hrow hnil hown hm2 hnm END hde HC hcs hl2 hbY hsY
    unfold ansC at hst hld hst2 Hz ⊢
    go_wp2_with (first | (refine wpList_load_run _ rfl (.tmp 5) 42 rfl _ hld ?_) | (refine wpList_store_run _ rfl (.tmp 5) (.tmp 8) 42 rfl Y hst ?_) | (refine wpList_store_run _ rfl (.tmp 4) (.tmp 15) 42 rfl _ hst2 ?_))
    obtain ⟨S5, T5, F2, st2, bq, hrow, hnil, hown, hla, g1, g2, hbY⟩ := Hz
    refine bodyPost_ret (do_results rfl bq) rfl ⟨L2, .slice ao a.names.length cp, S5, F2, st2, T5, rfl, ?_, hnil, hown⟩
    exact row_base (row_same hrow fun g hg => by
      have h1 := hrow.lt g hg
      rw [setRow_heap _ _ _ _ (by omega)]
      exact hbY.block g h1.2) (by omega)
  · have hde2 := hde he
    clear hde
    have hde := hde2
    clear hde2
    have hst2 := store_row (ys := #[.int .i64 a.err, .int .i64 0, .string { data := #[] }, .int .i64 0, .int .i64 0, .int .i64 0, .int .i64 0, .int .i64 0, .slice none 0 0, .int .i64 0, .int .i64 0, .int .i64 0, .int .i64 0]) (ty := 42) ba4 info_answer rfl (by simp [Value.oneCell'])
    have bq := ba4.setRow #[.int .i64 a.err, .int .i64 0, .string { data := #[] }, .int .i64 0, .int .i64 0, .int .i64 0, .int .i64 0, .int .i64 0, .slice none 0 0, .int .i64 0, .int .i64 0, .int .i64 0, .int .i64 0]
    obtain ⟨S5, T5⟩ := END #[.int .i64 a.err, .int .i64 0, .string { data := #[] }, .int .i64 0, .int .i64 0, .int .i64 0, .int .i64 0, .int .i64 0, .slice none 0 0, .int .i64 0, .int .i64 0, .int .i64 0, .int .i64 0]
    have heb := bne_iff_ne.2 he
    have Hz := Lib.hid (And.intro S5 (And.intro T5 (And.intro F2 (And.intro st2 (And.intro bq hde)))))
    clear S5 T5 bq S2 T2 ba2 hm hla ba SX hbX h bn4 ba4 hc0 hc1 hc2 hm2 hnm END hde HC hcs hl2 hbY hsY
    go_wp2_with (first | (refine wpList_store_run _ rfl (.tmp 5) (.tmp 8) 42 rfl Y hst ?_) | (refine wpList_store_run _ rfl (.tmp 4) (.tmp 14) 42 rfl _ hst2 ?_))
    obtain ⟨S5, T5, F2, st2, bq, hde⟩ := Hz
    refine bodyPost_ret (do_results rfl bq) rfl ⟨L2, .slice none 0 0, S5, F2, st2, T5, ?_, ?_, ?_, ?_⟩
    · rw [hde]; rfl
    · rw [hde]; exact World.ownsRow_nil _ _ _ _
    · rw [hde]; simp
    · exact fun g hg => by cases hg
end
end Fs
end Go.Proofs.YtlnnbjgfpiefdaaGreat
/- What the calls that only tell tell of a listed thing. No program in sight. -/
namespace Go.Proofs.YtlnnbjgfpiefdaaGreat
namespace Fs
section
variable {n : Int} {k : Nat} {s : Tree}
theorem ndAt_of {i : Int} {x : Nd} (h : get s i = some x) : ndAt s i = x := by unfold ndAt; rw [h]; rfl
theorem kind_ndAt (s : Tree) (i : Int) : (ndAt s i).kind = kindOf s i := by
  unfold ndAt kindOf
  cases get s i <;> rfl
theorem told_lstat (h : Inv n k s) {cs : List Tx} {i : Int} (hw : Way s 1 cs i) : doC n s ⟨13, pathOf cs, [], 0, 0, []⟩ = (s, { stat := statN i (ndAt s i) }) := by
  rw [doC_tell n s (.inr (.inr (.inl rfl)))]
  unfold tell
  obtain ⟨q, h1, h2⟩ := h.toP_way hw (follow := false) (fun e => by cases e)
  dsimp only
  rw [show decide ((13 : Int) = 12 ∨ (13 : Int) = 14) = false from rfl, h1]
  dsimp only
  rw [if_neg (by decide), if_neg (by decide), h2]
theorem told_stat (h : Inv n k s) {cs : List Tx} {i : Int} (hw : Way s 1 cs i) (hk : kindOf s i ≠ 3) : doC n s ⟨12, pathOf cs, [], 0, 0, []⟩ = (s, { stat := statN i (ndAt s i) }) := by
  rw [doC_tell n s (.inr (.inl rfl))]
  unfold tell
  obtain ⟨q, h1, h2⟩ := h.toP_way hw (follow := true) (fun _ => hk)
  dsimp only
  rw [show decide ((12 : Int) = 12 ∨ (12 : Int) = 14) = true from rfl, h1]
  dsimp only
  rw [if_neg (by decide), if_neg (by decide), h2]
theorem told_link (h : Inv n k s) {cs : List Tx} {i : Int} (hw : Way s 1 cs i) (hk : kindOf s i = 3) : doC n s ⟨11, pathOf cs, [], 0, 0, []⟩ = (s, { data := (ndAt s i).text }) := by
  rw [doC_tell n s (.inl rfl)]
  unfold tell
  obtain ⟨q, h1, h2⟩ := h.toP_way hw (follow := false) (fun e => by cases e)
  dsimp only
  rw [show decide ((11 : Int) = 12 ∨ (11 : Int) = 14) = false from rfl, h1]
  dsimp only
  rw [if_pos rfl, h2, if_neg (by rw [kind_ndAt, hk]; decide)]
theorem told_dir (h : Inv n k s) {cs : List Tx} {i : Int} (hw : Way s 1 cs i) (hk : kindOf s i = 2) : doC n s ⟨14, pathOf cs, [], 0, 0, []⟩ = (s, { names := (namesOf s i).map (·.1) }) := by
  rw [doC_tell n s (.inr (.inr (.inr rfl)))]
  unfold tell
  obtain ⟨q, h1, h2⟩ := h.toP_way hw (follow := true) (fun _ => by rw [hk]; decide)
  dsimp only
  rw [show decide ((14 : Int) = 12 ∨ (14 : Int) = 14) = true from rfl, h1]
  dsimp only
  rw [if_neg (by decide), if_pos rfl, h2, if_neg (by rw [kind_ndAt, hk]; decide)]
  obtain ⟨x, hx, _⟩ := kindGet hk (by decide)
  rw [ndAt_of hx, namesGet hx]
theorem told_read (h : Inv n k s) {cs : List Tx} {i : Int} (hw : Way s 1 cs i) (hk : kindOf s i = 1) {off : Int} (ho : 0 ≤ off) : doC n s ⟨3, pathOf cs, [], off, 16384, []⟩ = (s, { data := readN (ndAt s i) off 16384, n := (readN (ndAt s i) off 16384).length }) := by
  rw [doC_3 n s rfl]
  dsimp only
  rw [if_neg (by omega), fileP_way h hw hk]
/-- Which kinds there are. -/
theorem Inv.kinds (h : Inv n k s) {i : Int} (hi : get s i ≠ none) : kindOf s i = 1 ∨ kindOf s i = 2 ∨ kindOf s i = 3 := by
  obtain ⟨x, hx⟩ := Option.ne_none_iff_exists'.1 hi
  rw [kind_of hx]; exact (h.nd i x hx).kind
theorem Inv.nd_at (h : Inv n k s) {i : Int} (hi : get s i ≠ none) : NdInv k (ndAt s i) := by
  obtain ⟨x, hx⟩ := Option.ne_none_iff_exists'.1 hi
  rw [ndAt_of hx]; exact h.nd i x hx
end
end Fs
end Go.Proofs.YtlnnbjgfpiefdaaGreat
