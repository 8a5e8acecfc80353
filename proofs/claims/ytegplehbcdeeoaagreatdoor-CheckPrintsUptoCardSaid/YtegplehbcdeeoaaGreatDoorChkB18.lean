/- The checker meets the number of an index. -/
import Derived.Test.YtegplehbcdeeoaaGreatDoorChkB17
namespace Go.Proofs.YtegplehbcdeeoaaGreatDoor
open Go.RowKit Go.Maps

namespace Ck
open Pk Pw
section
variable {W : World} {A : Adr} {G : Gh} {s : St} {N : Nat}
theorem meet_true {n : Nat} {s : St} {nd i : Nat} (h : (meetS n s nd i).2 = true) : i < n ∧ 0 < i := by
  unfold meetS at h
  split at h
  · cases h
  · rename_i c
    split at h
    · cases h
    · rename_i d
      have : isDataP n i = true := by simpa using d
      unfold isDataP at this
      simp at this
      omega
/-- Where an index's block ends the file. -/
def ownT (l : B) (s1 : St) (nd size k i : Nat) : St :=
  if size / 512 < k ∨ (k = size / 512 ∧ size % 512 = 0) then s1.tell (fnd 9 nd i)
  else if k = size / 512 ∧ ¬ allZero ((sub l (512 * i) 512).drop (size % 512)) = true then s1.tell (fnd 9 nd i)
  else s1
/-- The number of an index is met. -/
def ownS (n : Nat) (l : B) (s : St) (nd size k i : Nat) : St :=
  let r := meetS n s nd i
  if r.2 then
    ownT l { r.1 with blocks := fun p => if p = (nd, k) then some i else r.1.blocks p } nd size k i
  else r.1
theorem seen_drop {w : World} {g o : Nat} {l : B} (h : SeenAt w g o l) (r : Nat) : SeenAt w g (o + r) (l.drop r) := fun j c hj => by
  rw [List.getElem?_drop] at hj
  rw [Nat.add_assoc]
  exact h _ _ hj
theorem block_seen (h : Sim N W A G s) (i : Nat) : SeenAt W A.img (512 * i) (sub A.bytes (512 * i) 512) := by
  have := h.img.part (512 * i) 512
  rwa [Nat.zero_add] at this
set_option maxRecDepth 100000 in
set_option maxHeartbeats 2000000 in
theorem own_any (h : Sim N W A G s) (hN : N ≤ 900000000000) (x : Rc) (hxz : x.size < 4294967296) (nd k i : Nat) (hnd : nd ≤ 1000000000) (hk : k ≤ 1000000000) (hi : i < 4294967296) :
    Calls Tryz.prog 62 #[.pointer (some ⟨A.c, 0, none⟩), .int .i64 nd, .agg (recC x), .int .i64 k, .int .i64 i] W
    fun e W' => e = .returned (.tuple #[]) ∧ ∃ G', Sim (N + 3) W' A G' (ownS A.n A.bytes s nd x.size k i) ∧ Stp W G W' G' := by
  have hX := Blk.new W (recC x) 74
  have h0 := h.alloc (.cells (recC x) 74)
  have hT0 := Stp.of_below (G := G) ((Below.refl _ W).alloc (Nat.le_refl _) (.cells (recC x) 74))
  have ho0 : G.who W.heap.size = .other := h.other_of (.inl (Nat.le_refl _))
  have HM := meet_any h0 (by omega) nd i hi
  have hsz : (recC x)[2]? = some (.int .i64 x.size) := by unfold recC; rw [natC_get]; rfl
  unfold ownS
  have hmt := Lib.hid (meet_true (n := A.n) (s := s) (nd := nd) (i := i))
  obtain ⟨r1, ok, hr⟩ : ∃ r1 ok, meetS A.n s nd i = (r1, ok) := ⟨_, _, rfl⟩
  rw [hr] at HM hmt ⊢
  dsimp only at HM hmt ⊢
  generalize recC x = C at *
  generalize x.size = size at *
  clear hr h h0
  cases ok
  · go_enter Tryz.func62, Tryz.ntmps62
    go_wp2_with (go_at_call 106; refine HM.mono ?_; clear HM; rintro e w1 ⟨rfl, hG1⟩)
    obtain ⟨G1, k1, k2⟩ := hG1
    exact bodyPost_ret (results_none rfl _ _ _) rfl ⟨rfl, G1, k1.mono (by omega), hT0.trans k2⟩
  · have hin := hmt.out rfl
    rw [if_pos rfl]
    obtain ⟨s1, hs1⟩ : ∃ s1 : St, { r1 with blocks := fun p => if p = (nd, k) then some i else r1.blocks p } = s1 := ⟨_, rfl⟩
    rw [hs1]
    obtain ⟨sf, hsf⟩ : ∃ sf, ownT A.bytes s1 nd size k i = sf := ⟨_, rfl⟩
    rw [hsf]
    unfold ownT at hsf
    replace hsf := Lib.hid hsf
    go_enter Tryz.func62, Tryz.ntmps62
    go_wp2_with fail
    refine HM.mono ?_
    clear HM
    rintro e w1 ⟨rfl, G1, h1, t1⟩
    have hX1 := hX.same (t1.block _ hX.lt ho0)
    have ho1 : G1.who W.heap.size = .other := t1.who _ hX.lt ho0
    have hvP : vP (nd, k) := ⟨by dsimp only; omega, by dsimp only; omega⟩
    obtain ⟨W2, u1, u2, u3⟩ := (h1.blocks (by decide)).update kPlace (t := 67) Tryz.underlying67 (by unfold maxLen; omega) (kyP hvP) (injP hvP) (v := i) (val := .int .i64 i) rfl
    obtain ⟨h2, t2⟩ := h1.putBlocks u2 u3
    rw [hs1] at h2
    replace hs1 := Lib.hid hs1
    have hX2 := hX1.same (t2.block _ hX1.lt ho1)
    have ho2 : G1.who W.heap.size = .other := ho1
    have hT2 := hT0.trans (t1.trans t2)
    obtain ⟨m7, m8, m9, _⟩ := chk_maps h1
    have x2 := hX2.cell 2
    rw [hsz] at x2
    have h2d := h2.drew
    have hT2d := hT2.trans (Stp.of_below (G := G1) (Below.refl _ W2).drew)
    have hout : ∀ (P : St → Prop) (p : World → Gh → St → Prop), True := fun _ _ => trivial
    replace h2 := Lib.hid h2
    clear hX hX1 hX2 t1 t2 h1 u2 u3 hT0 hT2 hout
    obtain ⟨q, hq⟩ : ∃ q, size / 512 = q := ⟨_, rfl⟩
    obtain ⟨r, hr⟩ : ∃ r, size % 512 = r := ⟨_, rfl⟩
    have hq' : (size : Int) / 512 = q := by omega
    have hr' : (size : Int) % 512 = r := by omega
    have hr5 : r < 512 := by omega
    have hq9 : q < 4294967296 := by omega
    rw [hq, hr] at hsf
    clear hq hr hxz
    go_wp2_with (refine wpList_update_run _ rfl 67 (.tmp 20) (.tmp 23) (.tmp 24) rfl _ u1 ?_)
    go_still (by kernel_rfl)
    change Exit.then _ _ Exit.normal _ W2.drew
    generalize W2.drew = w3 at *
    have HT := tail_any h2d (by omega) nd i
    by_cases c1 : q < k
    · have c1' : (q : Int) < k := by omega
      have hf := Lib.hid (show sf = s1.tell (fnd 9 nd i) by rw [← hsf.out, if_pos (.inl c1)])
      clear h2d
      go_wp2_with (go_at_call 107; refine HT.mono ?_; clear HT; rintro e w4 ⟨rfl, hG4⟩)
      go_end0
      obtain ⟨G4, k1, k2⟩ := hG4
      exact ⟨rfl, G4, by rw [hf.out]; exact k1, hT2d.trans k2⟩
    · have c1' : ¬ (q : Int) < k := by omega
      by_cases c2 : k = q
      · subst c2
        by_cases c3 : r = 0
        · have c3' : (r : Int) = 0 := by omega
          have hf := Lib.hid (show sf = s1.tell (fnd 9 nd i) by rw [← hsf.out]; simp [c3])
          clear h2d c1 c3
          go_wp2_with (go_at_call 107; refine HT.mono ?_; clear HT; rintro e w4 ⟨rfl, hG4⟩)
          go_end0
          obtain ⟨G4, k1, k2⟩ := hG4
          exact ⟨rfl, G4, by rw [hf.out]; exact k1, hT2d.trans k2⟩
        · have c3' : ¬ (r : Int) = 0 := by omega
          have HB := block_at h2d i hin.1
          have hln : ((sub A.bytes (512 * i) 512).drop (r)).length = 512 - r := by rw [List.length_drop, sub_len (by have := h2d.len; omega)]
          have HZ := fun cap (hc : 512 ≤ cap ∧ cap ≤ 9223372036854775807) => zeros_any ((sub A.bytes (512 * i) 512).drop (r)) A.img (512 * i + r) (cap - r) w3 (seen_drop (block_seen h2d i) _) (by omega) (by omega)
          rw [hln] at HZ
          replace hsf := Lib.hid (show (if ¬ allZero ((sub A.bytes (512 * i) 512).drop (r)) = true then s1.tell (fnd 9 nd i) else s1) = sf by
            rw [← hsf.out]
            simp [c3])
          generalize allZero ((sub A.bytes (512 * i) 512).drop (r)) = z at *
          have z1 : (r : Int) ≤ 512 := by omega
          have z4 : ∀ cap : Nat, 512 ≤ cap → ¬ cap = r := fun cap h => by omega
          clear c1 c3 hln
          go_wp2_with fail
          refine HB.mono ?_
          clear HB
          rintro e w4 ⟨⟨cap, rfl, hc1, hc2⟩, rfl⟩
          have HZ1 := HZ cap ⟨hc1, hc2⟩
          have z4 := z4 cap hc1
          have z5 : (512 : Int) ≤ cap := by omega
          clear HZ
          cases z
          · have hf := Lib.hid (show sf = s1.tell (fnd 9 nd i) from hsf.out.symm)
            clear h2d
            go_wp2_with (first | (go_at_call 108; refine HZ1.mono ?_; clear HZ1; rintro e w5 ⟨rfl, rfl⟩) | (go_at_call 107; refine HT.mono ?_; clear HT; rintro e w4 ⟨rfl, hG4⟩))
            go_end0
            obtain ⟨G4, k1, k2⟩ := hG4
            exact ⟨rfl, G4, by rw [hf.out]; exact k1, hT2d.trans k2⟩
          · have hf := Lib.hid (show sf = s1 from hsf.out.symm)
            replace h2d := Lib.hid h2d
            go_wp2_with (first | (go_at_call 108; refine HZ1.mono ?_; clear HZ1; rintro e w5 ⟨rfl, rfl⟩))
            go_end0
            exact ⟨rfl, G1, by rw [hf.out]; exact h2d.out.mono (Nat.le_succ _), hT2d⟩
      · have c2' : ¬ (k : Int) = (q : Int) := by omega
        have hf := Lib.hid (show sf = s1 by rw [← hsf.out, if_neg (by rintro (h | h); exact c1 h; exact c2 h.1), if_neg (fun h => c2 h.1)])
        replace h2d := Lib.hid h2d
        clear HT
        go_wp2_with fail
        go_end0
        exact ⟨rfl, G1, by rw [hf.out]; exact h2d.out.mono (Nat.le_succ _), hT2d⟩
end
end Ck
end Go.Proofs.YtegplehbcdeeoaaGreatDoor
/- The checker goes through a table's numbers: with each of the closures that it is given. -/
namespace Go.Proofs.YtegplehbcdeeoaaGreatDoor
open Go.RowKit Go.Maps

namespace Ck
open Pk Pw
section
variable {W : World} {A : Adr} {G : Gh} {s : St} {N : Nat}
/-- A table's first k numbers. -/
def throughS (b : B) (f : St → Nat → Nat → St) (s : St) (k : Nat) : St := (List.range k).foldl (fun s j => f s j (val (sub b (4 * j) 4))) s
theorem throughS_succ (b : B) (f : St → Nat → Nat → St) (s : St) (k : Nat) : throughS b f s (k + 1) = f (throughS b f s k) k (val (sub b (4 * k) 4)) := by
  unfold throughS
  rw [List.range_succ, List.foldl_append]
  rfl
/-- The number of a table is met; something is done with each of its numbers. -/
def tableS (n : Nat) (l : B) (f : St → Nat → Nat → St) (s : St) (nd i : Nat) : St :=
  let r := meetS n s nd i
  if r.2 then throughS (sub l (512 * i) 512) f (if allZero (sub l (512 * i) 512) then r.1.tell (fnd 9 nd i) else r.1) 128
  else r.1
set_option maxRecDepth 100000 in
set_option maxHeartbeats 2000000 in
theorem table1 (h : Sim N W A G s) (nd i : Nat) (hi : i < 4294967296) (v0 v1 v2 : Value) (f : St → Nat → Nat → St) (c : Nat) (hN : N + 2 + 128 * c ≤ 1000000000000)
    (hF : ∀ (N' : Nat) (W' : World) (G' : Gh) (s' : St) (k j : Nat), N' ≤ N + 2 + 128 * c → Sim N' W' A G' s' → Stp W G W' G' → k < 128 → j < 4294967296 → Calls Tryz.prog 64 #[.int .i64 k, .int .i64 j, v0, v1, v2] W' fun e W'' => e = .returned (.tuple #[]) ∧ ∃ G'', Sim (N' + c) W'' A G'' (f s' k j) ∧ Stp W' G' W'' G'') :
    Calls Tryz.prog 63 #[.pointer (some ⟨A.c, 0, none⟩), .int .i64 nd, .int .i64 i, .func (.func 64) #[] #[v0, v1, v2]] W
    fun e W' => e = .returned (.tuple #[]) ∧ ∃ G', Sim (N + 2 + 128 * c) W' A G' (tableS A.n A.bytes f s nd i) ∧ Stp W G W' G' := by
  have HM := meet_any h (by omega) nd i hi
  unfold tableS
  have hmt := Lib.hid (meet_true (n := A.n) (s := s) (nd := nd) (i := i))
  obtain ⟨r1, ok, hr⟩ : ∃ r1 ok, meetS A.n s nd i = (r1, ok) := ⟨_, _, rfl⟩
  rw [hr] at HM hmt ⊢
  dsimp only at HM hmt ⊢
  have hl := h.len
  have hn2 := h.n2
  replace hF := Lib.hid hF
  clear hr h
  cases ok
  · go_enter Tryz.func63, Tryz.ntmps63
    go_wp2_with (go_at_call 106; refine HM.mono ?_; clear HM; rintro e w1 ⟨rfl, hG1⟩)
    obtain ⟨G1, k1, k2⟩ := hG1
    exact bodyPost_ret (results_none rfl _ _ _) rfl ⟨rfl, G1, k1.mono (by omega), k2⟩
  · have hin := hmt.out rfl
    rw [if_pos rfl]
    obtain ⟨sf, hsf⟩ : ∃ sf, throughS (sub A.bytes (512 * i) 512) f (if allZero (sub A.bytes (512 * i) 512) then r1.tell (fnd 9 nd i) else r1) 128 = sf := ⟨_, rfl⟩
    rw [hsf]
    replace hsf := Lib.hid hsf
    have hbl : (sub A.bytes (512 * i) 512).length = 512 := sub_len (by omega)
    go_enter Tryz.func63, Tryz.ntmps63
    go_wp2_with fail
    refine HM.mono ?_
    clear HM
    rintro e w1 ⟨rfl, G1, h1, t1⟩
    have HB := block_at h1 i hin.1
    have hbs := block_seen h1 i
    have h1' := Lib.hid h1
    have t1' := Lib.hid t1
    have HT := tail_any h1 (by omega) nd i
    obtain ⟨b, hb⟩ : ∃ b, sub A.bytes (512 * i) 512 = b := ⟨_, rfl⟩
    rw [hb] at hbs hbl
    replace hsf := hsf.out
    rw [hb] at hsf
    replace hsf := Lib.hid hsf
    have hsb : ∀ (W' : World) (G' : Gh) (N' : Nat) (s' : St), Sim N' W' A G' s' → SeenAt W' A.img (512 * i) b := fun _ _ _ _ h => by rw [← hb]; exact block_seen h i
    replace hsb := Lib.hid hsb
    clear h1 t1 hmt hb
    go_wp2_with fail
    refine HB.mono ?_
    clear HB
    rintro e w2 ⟨⟨cap, rfl, hc1, hc2⟩, rfl⟩
    have HZ := zeros_any b A.img (512 * i) cap w1 hbs (by omega) (by omega)
    rw [hbl] at HZ
    clear hbs
    have hlen := Lib.hid hbl
    clear hbl
    cases hz : allZero b with
    | false =>
      rw [hz] at HZ
      replace hsf := Lib.hid (show throughS b f r1 128 = sf by have := hsf.out; rw [hz] at this; exact this)
      clear hz
      go_wp2_with (go_at_call 108; refine HZ.mono ?_; clear HZ; rintro e w5 ⟨rfl, rfl⟩)
      go_loopw [26] (fun iv wr => ∃ j : Nat, iv = .int .i64 j ∧ j ≤ 128 ∧ Hid (∃ G3, Sim (N + 2 + j * c) wr A G3 (throughS b f r1 j) ∧ Stp W G wr G3)) (fun iv _ => 128 - (intOf iv).toNat)
      case atStart => exact ⟨0, rfl, Nat.zero_le _, Lib.hid ⟨G1, by simpa [throughS] using h1'.out.mono (Nat.le_succ _), t1'.out⟩⟩
      case round =>
        obtain ⟨j, rfl, hj, hG⟩ := hrel
        by_cases cj : j < 128
        · have hci : (j : Int) < 128 := by omega
          obtain ⟨G3, hS, hT⟩ := hG.out
          have HG := get_at b A.img (512 * i) cap (4 * j) 4 wr (.inr (.inr rfl)) hS.kv (hsb.out _ _ _ _ hS) (by rw [hlen.out]; omega) (by rw [hlen.out]; omega)
          rw [hlen.out] at HG
          rw [show ((4 * j : Nat) : Int) = 4 * (j : Int) by omega] at HG
          have hvl : val (sub b (4 * j) 4) < 4294967296 := by have := val_lt (sub b (4 * j) 4); rw [sub_len (by rw [hlen.out]; omega)] at this; exact this
          have hsu := Lib.hid (throughS_succ b f r1 j)
          have hmul : j * c ≤ 128 * c := Nat.mul_le_mul_right _ (by omega)
          have HC := hF.out (N + 2 + j * c) wr G3 _ j (val (sub b (4 * j) 4)) (by omega) hS hT cj hvl
          have HM := must_ok wr
          generalize val (sub b (4 * j) 4) = v at *
          have hT' := Lib.hid hT
          have hmul' : (j + 1) * c = j * c + c := Nat.succ_mul j c
          have hNN := Lib.hid (show N + 2 + j * c + c = N + 2 + (j + 1) * c by omega)
          clear hS hT hG hmul hmul'
          go_wp2_with (first | (go_at_call 92; refine HG.mono ?_; clear HG; rintro e w6 ⟨rfl, rfl⟩) | (go_at_call 55; refine HM.mono ?_; clear HM; rintro e w6 ⟨rfl, rfl⟩) | (go_at_call 64; refine HC.mono ?_; clear HC; rintro e w7 ⟨rfl, hG7⟩))
          go_roundw
          case rel =>
            obtain ⟨G7, k1, k2⟩ := hG7
            exact ⟨j + 1, rfl, by omega, Lib.hid ⟨G7, by rw [hsu.out, ← hNN.out]; exact k1, hT'.out.trans k2⟩⟩
          case measure => simp only [intOf]; omega
        · obtain rfl : j = 128 := by omega
          have hci : ¬ ((128 : Nat) : Int) < 128 := by omega
          go_wp2_with fail
          go_end0
          obtain ⟨G3, hS, hT⟩ := hG.out
          exact ⟨rfl, G3, by rw [← hsf.out]; exact hS, hT⟩
    | true =>
      rw [hz] at HZ
      replace hsf := Lib.hid (show throughS b f (r1.tell (fnd 9 nd i)) 128 = sf by have := hsf.out; rw [hz] at this; exact this)
      clear hz
      go_wp2_with (first | (go_at_call 108; refine HZ.mono ?_; clear HZ; rintro e w5 ⟨rfl, rfl⟩) | (go_at_call 107; refine HT.mono ?_; clear HT; rintro e w5 ⟨rfl, hG5⟩; replace hG5 := Lib.hid hG5))
      go_loopw [26] (fun iv wr => ∃ j : Nat, iv = .int .i64 j ∧ j ≤ 128 ∧ Hid (∃ G3, Sim (N + 2 + j * c) wr A G3 (throughS b f (r1.tell (fnd 9 nd i)) j) ∧ Stp W G wr G3)) (fun iv _ => 128 - (intOf iv).toNat)
      case atStart => exact ⟨0, rfl, Nat.zero_le _, Lib.hid (by obtain ⟨G5, k1, k2⟩ := hG5.out; exact ⟨G5, by simpa [throughS] using k1, t1'.out.trans k2⟩)⟩
      case round =>
        obtain ⟨j, rfl, hj, hG⟩ := hrel
        by_cases cj : j < 128
        · have hci : (j : Int) < 128 := by omega
          obtain ⟨G3, hS, hT⟩ := hG.out
          have HG := get_at b A.img (512 * i) cap (4 * j) 4 wr (.inr (.inr rfl)) hS.kv (hsb.out _ _ _ _ hS) (by rw [hlen.out]; omega) (by rw [hlen.out]; omega)
          rw [hlen.out] at HG
          rw [show ((4 * j : Nat) : Int) = 4 * (j : Int) by omega] at HG
          have hvl : val (sub b (4 * j) 4) < 4294967296 := by have := val_lt (sub b (4 * j) 4); rw [sub_len (by rw [hlen.out]; omega)] at this; exact this
          have hsu := Lib.hid (throughS_succ b f (r1.tell (fnd 9 nd i)) j)
          have hmul : j * c ≤ 128 * c := Nat.mul_le_mul_right _ (by omega)
          have HC := hF.out (N + 2 + j * c) wr G3 _ j (val (sub b (4 * j) 4)) (by omega) hS hT cj hvl
          have HM := must_ok wr
          generalize val (sub b (4 * j) 4) = v at *
          have hT' := Lib.hid hT
          have hmul' : (j + 1) * c = j * c + c := Nat.succ_mul j c
          have hNN := Lib.hid (show N + 2 + j * c + c = N + 2 + (j + 1) * c by omega)
          clear hS hT hG hmul hmul'
          go_wp2_with (first | (go_at_call 92; refine HG.mono ?_; clear HG; rintro e w6 ⟨rfl, rfl⟩) | (go_at_call 55; refine HM.mono ?_; clear HM; rintro e w6 ⟨rfl, rfl⟩) | (go_at_call 64; refine HC.mono ?_; clear HC; rintro e w7 ⟨rfl, hG7⟩))
          go_roundw
          case rel =>
            obtain ⟨G7, k1, k2⟩ := hG7
            exact ⟨j + 1, rfl, by omega, Lib.hid ⟨G7, by rw [hsu.out, ← hNN.out]; exact k1, hT'.out.trans k2⟩⟩
          case measure => simp only [intOf]; omega
        · obtain rfl : j = 128 := by omega
          have hci : ¬ ((128 : Nat) : Int) < 128 := by omega
          go_wp2_with fail
          go_end0
          obtain ⟨G3, hS, hT⟩ := hG.out
          exact ⟨rfl, G3, by rw [← hsf.out]; exact hS, hT⟩
set_option maxRecDepth 100000 in
set_option maxHeartbeats 2000000 in
theorem table2 (h : Sim N W A G s) (nd i : Nat) (hi : i < 4294967296) (v0 v1 v2 : Value) (f : St → Nat → Nat → St) (c : Nat) (hN : N + 2 + 128 * c ≤ 1000000000000)
    (hF : ∀ (N' : Nat) (W' : World) (G' : Gh) (s' : St) (k j : Nat), N' ≤ N + 2 + 128 * c → Sim N' W' A G' s' → Stp W G W' G' → k < 128 → j < 4294967296 → Calls Tryz.prog 65 #[.int .i64 k, .int .i64 j, v0, v1, v2] W' fun e W'' => e = .returned (.tuple #[]) ∧ ∃ G'', Sim (N' + c) W'' A G'' (f s' k j) ∧ Stp W' G' W'' G'') :
    Calls Tryz.prog 63 #[.pointer (some ⟨A.c, 0, none⟩), .int .i64 nd, .int .i64 i, .func (.func 65) #[] #[v0, v1, v2]] W
    fun e W' => e = .returned (.tuple #[]) ∧ ∃ G', Sim (N + 2 + 128 * c) W' A G' (tableS A.n A.bytes f s nd i) ∧ Stp W G W' G' := by
  have HM := meet_any h (by omega) nd i hi
  unfold tableS
  have hmt := Lib.hid (meet_true (n := A.n) (s := s) (nd := nd) (i := i))
  obtain ⟨r1, ok, hr⟩ : ∃ r1 ok, meetS A.n s nd i = (r1, ok) := ⟨_, _, rfl⟩
  rw [hr] at HM hmt ⊢
  dsimp only at HM hmt ⊢
  have hl := h.len
  have hn2 := h.n2
  replace hF := Lib.hid hF
  clear hr h
  cases ok
  · go_enter Tryz.func63, Tryz.ntmps63
    go_wp2_with (go_at_call 106; refine HM.mono ?_; clear HM; rintro e w1 ⟨rfl, hG1⟩)
    obtain ⟨G1, k1, k2⟩ := hG1
    exact bodyPost_ret (results_none rfl _ _ _) rfl ⟨rfl, G1, k1.mono (by omega), k2⟩
  · have hin := hmt.out rfl
    rw [if_pos rfl]
    obtain ⟨sf, hsf⟩ : ∃ sf, throughS (sub A.bytes (512 * i) 512) f (if allZero (sub A.bytes (512 * i) 512) then r1.tell (fnd 9 nd i) else r1) 128 = sf := ⟨_, rfl⟩
    rw [hsf]
    replace hsf := Lib.hid hsf
    have hbl : (sub A.bytes (512 * i) 512).length = 512 := sub_len (by omega)
    go_enter Tryz.func63, Tryz.ntmps63
    go_wp2_with fail
    refine HM.mono ?_
    clear HM
    rintro e w1 ⟨rfl, G1, h1, t1⟩
    have HB := block_at h1 i hin.1
    have hbs := block_seen h1 i
    have h1' := Lib.hid h1
    have t1' := Lib.hid t1
    have HT := tail_any h1 (by omega) nd i
    obtain ⟨b, hb⟩ : ∃ b, sub A.bytes (512 * i) 512 = b := ⟨_, rfl⟩
    rw [hb] at hbs hbl
    replace hsf := hsf.out
    rw [hb] at hsf
    replace hsf := Lib.hid hsf
    have hsb : ∀ (W' : World) (G' : Gh) (N' : Nat) (s' : St), Sim N' W' A G' s' → SeenAt W' A.img (512 * i) b := fun _ _ _ _ h => by rw [← hb]; exact block_seen h i
    replace hsb := Lib.hid hsb
    clear h1 t1 hmt hb
    go_wp2_with fail
    refine HB.mono ?_
    clear HB
    rintro e w2 ⟨⟨cap, rfl, hc1, hc2⟩, rfl⟩
    have HZ := zeros_any b A.img (512 * i) cap w1 hbs (by omega) (by omega)
    rw [hbl] at HZ
    clear hbs
    have hlen := Lib.hid hbl
    clear hbl
    cases hz : allZero b with
    | false =>
      rw [hz] at HZ
      replace hsf := Lib.hid (show throughS b f r1 128 = sf by have := hsf.out; rw [hz] at this; exact this)
      clear hz
      go_wp2_with (go_at_call 108; refine HZ.mono ?_; clear HZ; rintro e w5 ⟨rfl, rfl⟩)
      go_loopw [26] (fun iv wr => ∃ j : Nat, iv = .int .i64 j ∧ j ≤ 128 ∧ Hid (∃ G3, Sim (N + 2 + j * c) wr A G3 (throughS b f r1 j) ∧ Stp W G wr G3)) (fun iv _ => 128 - (intOf iv).toNat)
      case atStart => exact ⟨0, rfl, Nat.zero_le _, Lib.hid ⟨G1, by simpa [throughS] using h1'.out.mono (Nat.le_succ _), t1'.out⟩⟩
      case round =>
        obtain ⟨j, rfl, hj, hG⟩ := hrel
        by_cases cj : j < 128
        · have hci : (j : Int) < 128 := by omega
          obtain ⟨G3, hS, hT⟩ := hG.out
          have HG := get_at b A.img (512 * i) cap (4 * j) 4 wr (.inr (.inr rfl)) hS.kv (hsb.out _ _ _ _ hS) (by rw [hlen.out]; omega) (by rw [hlen.out]; omega)
          rw [hlen.out] at HG
          rw [show ((4 * j : Nat) : Int) = 4 * (j : Int) by omega] at HG
          have hvl : val (sub b (4 * j) 4) < 4294967296 := by have := val_lt (sub b (4 * j) 4); rw [sub_len (by rw [hlen.out]; omega)] at this; exact this
          have hsu := Lib.hid (throughS_succ b f r1 j)
          have hmul : j * c ≤ 128 * c := Nat.mul_le_mul_right _ (by omega)
          have HC := hF.out (N + 2 + j * c) wr G3 _ j (val (sub b (4 * j) 4)) (by omega) hS hT cj hvl
          have HM := must_ok wr
          generalize val (sub b (4 * j) 4) = v at *
          have hT' := Lib.hid hT
          have hmul' : (j + 1) * c = j * c + c := Nat.succ_mul j c
          have hNN := Lib.hid (show N + 2 + j * c + c = N + 2 + (j + 1) * c by omega)
          clear hS hT hG hmul hmul'
          go_wp2_with (first | (go_at_call 92; refine HG.mono ?_; clear HG; rintro e w6 ⟨rfl, rfl⟩) | (go_at_call 55; refine HM.mono ?_; clear HM; rintro e w6 ⟨rfl, rfl⟩) | (go_at_call 65; refine HC.mono ?_; clear HC; rintro e w7 ⟨rfl, hG7⟩))
          go_roundw
          case rel =>
            obtain ⟨G7, k1, k2⟩ := hG7
            exact ⟨j + 1, rfl, by omega, Lib.hid ⟨G7, by rw [hsu.out, ← hNN.out]; exact k1, hT'.out.trans k2⟩⟩
          case measure => simp only [intOf]; omega
        · obtain rfl : j = 128 := by omega
          have hci : ¬ ((128 : Nat) : Int) < 128 := by omega
          go_wp2_with fail
          go_end0
          obtain ⟨G3, hS, hT⟩ := hG.out
          exact ⟨rfl, G3, by rw [← hsf.out]; exact hS, hT⟩
    | true =>
      rw [hz] at HZ
      replace hsf := Lib.hid (show throughS b f (r1.tell (fnd 9 nd i)) 128 = sf by have := hsf.out; rw [hz] at this; exact this)
      clear hz
      go_wp2_with (first | (go_at_call 108; refine HZ.mono ?_; clear HZ; rintro e w5 ⟨rfl, rfl⟩) | (go_at_call 107; refine HT.mono ?_; clear HT; rintro e w5 ⟨rfl, hG5⟩; replace hG5 := Lib.hid hG5))
      go_loopw [26] (fun iv wr => ∃ j : Nat, iv = .int .i64 j ∧ j ≤ 128 ∧ Hid (∃ G3, Sim (N + 2 + j * c) wr A G3 (throughS b f (r1.tell (fnd 9 nd i)) j) ∧ Stp W G wr G3)) (fun iv _ => 128 - (intOf iv).toNat)
      case atStart => exact ⟨0, rfl, Nat.zero_le _, Lib.hid (by obtain ⟨G5, k1, k2⟩ := hG5.out; exact ⟨G5, by simpa [throughS] using k1, t1'.out.trans k2⟩)⟩
      case round =>
        obtain ⟨j, rfl, hj, hG⟩ := hrel
        by_cases cj : j < 128
        · have hci : (j : Int) < 128 := by omega
          obtain ⟨G3, hS, hT⟩ := hG.out
          have HG := get_at b A.img (512 * i) cap (4 * j) 4 wr (.inr (.inr rfl)) hS.kv (hsb.out _ _ _ _ hS) (by rw [hlen.out]; omega) (by rw [hlen.out]; omega)
          rw [hlen.out] at HG
          rw [show ((4 * j : Nat) : Int) = 4 * (j : Int) by omega] at HG
          have hvl : val (sub b (4 * j) 4) < 4294967296 := by have := val_lt (sub b (4 * j) 4); rw [sub_len (by rw [hlen.out]; omega)] at this; exact this
          have hsu := Lib.hid (throughS_succ b f (r1.tell (fnd 9 nd i)) j)
          have hmul : j * c ≤ 128 * c := Nat.mul_le_mul_right _ (by omega)
          have HC := hF.out (N + 2 + j * c) wr G3 _ j (val (sub b (4 * j) 4)) (by omega) hS hT cj hvl
          have HM := must_ok wr
          generalize val (sub b (4 * j) 4) = v at *
          have hT' := Lib.hid hT
          have hmul' : (j + 1) * c = j * c + c := Nat.succ_mul j c
          have hNN := Lib.hid (show N + 2 + j * c + c = N + 2 + (j + 1) * c by omega)
          clear hS hT hG hmul hmul'
          go_wp2_with (first | (go_at_call 92; refine HG.mono ?_; clear HG; rintro e w6 ⟨rfl, rfl⟩) | (go_at_call 55; refine HM.mono ?_; clear HM; rintro e w6 ⟨rfl, rfl⟩) | (go_at_call 65; refine HC.mono ?_; clear HC; rintro e w7 ⟨rfl, hG7⟩))
          go_roundw
          case rel =>
            obtain ⟨G7, k1, k2⟩ := hG7
            exact ⟨j + 1, rfl, by omega, Lib.hid ⟨G7, by rw [hsu.out, ← hNN.out]; exact k1, hT'.out.trans k2⟩⟩
          case measure => simp only [intOf]; omega
        · obtain rfl : j = 128 := by omega
          have hci : ¬ ((128 : Nat) : Int) < 128 := by omega
          go_wp2_with fail
          go_end0
          obtain ⟨G3, hS, hT⟩ := hG.out
          exact ⟨rfl, G3, by rw [← hsf.out]; exact hS, hT⟩
set_option maxRecDepth 100000 in
set_option maxHeartbeats 2000000 in
theorem table3 (h : Sim N W A G s) (nd i : Nat) (hi : i < 4294967296) (v0 v1 v2 v3 : Value) (f : St → Nat → Nat → St) (c : Nat) (hN : N + 2 + 128 * c ≤ 1000000000000)
    (hF : ∀ (N' : Nat) (W' : World) (G' : Gh) (s' : St) (k j : Nat), N' ≤ N + 2 + 128 * c → Sim N' W' A G' s' → Stp W G W' G' → k < 128 → j < 4294967296 → Calls Tryz.prog 66 #[.int .i64 k, .int .i64 j, v0, v1, v2, v3] W' fun e W'' => e = .returned (.tuple #[]) ∧ ∃ G'', Sim (N' + c) W'' A G'' (f s' k j) ∧ Stp W' G' W'' G'') :
    Calls Tryz.prog 63 #[.pointer (some ⟨A.c, 0, none⟩), .int .i64 nd, .int .i64 i, .func (.func 66) #[] #[v0, v1, v2, v3]] W
    fun e W' => e = .returned (.tuple #[]) ∧ ∃ G', Sim (N + 2 + 128 * c) W' A G' (tableS A.n A.bytes f s nd i) ∧ Stp W G W' G' := by
  have HM := meet_any h (by omega) nd i hi
  unfold tableS
  have hmt := Lib.hid (meet_true (n := A.n) (s := s) (nd := nd) (i := i))
  obtain ⟨r1, ok, hr⟩ : ∃ r1 ok, meetS A.n s nd i = (r1, ok) := ⟨_, _, rfl⟩
  rw [hr] at HM hmt ⊢
  dsimp only at HM hmt ⊢
  have hl := h.len
  have hn2 := h.n2
  replace hF := Lib.hid hF
  clear hr h
  cases ok
  · go_enter Tryz.func63, Tryz.ntmps63
    go_wp2_with (go_at_call 106; refine HM.mono ?_; clear HM; rintro e w1 ⟨rfl, hG1⟩)
    obtain ⟨G1, k1, k2⟩ := hG1
    exact bodyPost_ret (results_none rfl _ _ _) rfl ⟨rfl, G1, k1.mono (by omega), k2⟩
  · have hin := hmt.out rfl
    rw [if_pos rfl]
    obtain ⟨sf, hsf⟩ : ∃ sf, throughS (sub A.bytes (512 * i) 512) f (if allZero (sub A.bytes (512 * i) 512) then r1.tell (fnd 9 nd i) else r1) 128 = sf := ⟨_, rfl⟩
    rw [hsf]
    replace hsf := Lib.hid hsf
    have hbl : (sub A.bytes (512 * i) 512).length = 512 := sub_len (by omega)
    go_enter Tryz.func63, Tryz.ntmps63
    go_wp2_with fail
    refine HM.mono ?_
    clear HM
    rintro e w1 ⟨rfl, G1, h1, t1⟩
    have HB := block_at h1 i hin.1
    have hbs := block_seen h1 i
    have h1' := Lib.hid h1
    have t1' := Lib.hid t1
    have HT := tail_any h1 (by omega) nd i
    obtain ⟨b, hb⟩ : ∃ b, sub A.bytes (512 * i) 512 = b := ⟨_, rfl⟩
    rw [hb] at hbs hbl
    replace hsf := hsf.out
    rw [hb] at hsf
    replace hsf := Lib.hid hsf
    have hsb : ∀ (W' : World) (G' : Gh) (N' : Nat) (s' : St), Sim N' W' A G' s' → SeenAt W' A.img (512 * i) b := fun _ _ _ _ h => by rw [← hb]; exact block_seen h i
    replace hsb := Lib.hid hsb
    clear h1 t1 hmt hb
    go_wp2_with fail
    refine HB.mono ?_
    clear HB
    rintro e w2 ⟨⟨cap, rfl, hc1, hc2⟩, rfl⟩
    have HZ := zeros_any b A.img (512 * i) cap w1 hbs (by omega) (by omega)
    rw [hbl] at HZ
    clear hbs
    have hlen := Lib.hid hbl
    clear hbl
    cases hz : allZero b with
    | false =>
      rw [hz] at HZ
      replace hsf := Lib.hid (show throughS b f r1 128 = sf by have := hsf.out; rw [hz] at this; exact this)
      clear hz
      go_wp2_with (go_at_call 108; refine HZ.mono ?_; clear HZ; rintro e w5 ⟨rfl, rfl⟩)
      go_loopw [26] (fun iv wr => ∃ j : Nat, iv = .int .i64 j ∧ j ≤ 128 ∧ Hid (∃ G3, Sim (N + 2 + j * c) wr A G3 (throughS b f r1 j) ∧ Stp W G wr G3)) (fun iv _ => 128 - (intOf iv).toNat)
      case atStart => exact ⟨0, rfl, Nat.zero_le _, Lib.hid ⟨G1, by simpa [throughS] using h1'.out.mono (Nat.le_succ _), t1'.out⟩⟩
      case round =>
        obtain ⟨j, rfl, hj, hG⟩ := hrel
        by_cases cj : j < 128
        · have hci : (j : Int) < 128 := by omega
          obtain ⟨G3, hS, hT⟩ := hG.out
          have HG := get_at b A.img (512 * i) cap (4 * j) 4 wr (.inr (.inr rfl)) hS.kv (hsb.out _ _ _ _ hS) (by rw [hlen.out]; omega) (by rw [hlen.out]; omega)
          rw [hlen.out] at HG
          rw [show ((4 * j : Nat) : Int) = 4 * (j : Int) by omega] at HG
          have hvl : val (sub b (4 * j) 4) < 4294967296 := by have := val_lt (sub b (4 * j) 4); rw [sub_len (by rw [hlen.out]; omega)] at this; exact this
          have hsu := Lib.hid (throughS_succ b f r1 j)
          have hmul : j * c ≤ 128 * c := Nat.mul_le_mul_right _ (by omega)
          have HC := hF.out (N + 2 + j * c) wr G3 _ j (val (sub b (4 * j) 4)) (by omega) hS hT cj hvl
          have HM := must_ok wr
          generalize val (sub b (4 * j) 4) = v at *
          have hT' := Lib.hid hT
          have hmul' : (j + 1) * c = j * c + c := Nat.succ_mul j c
          have hNN := Lib.hid (show N + 2 + j * c + c = N + 2 + (j + 1) * c by omega)
          clear hS hT hG hmul hmul'
          go_wp2_with (first | (go_at_call 92; refine HG.mono ?_; clear HG; rintro e w6 ⟨rfl, rfl⟩) | (go_at_call 55; refine HM.mono ?_; clear HM; rintro e w6 ⟨rfl, rfl⟩) | (go_at_call 66; refine HC.mono ?_; clear HC; rintro e w7 ⟨rfl, hG7⟩))
          go_roundw
          case rel =>
            obtain ⟨G7, k1, k2⟩ := hG7
            exact ⟨j + 1, rfl, by omega, Lib.hid ⟨G7, by rw [hsu.out, ← hNN.out]; exact k1, hT'.out.trans k2⟩⟩
          case measure => simp only [intOf]; omega
        · obtain rfl : j = 128 := by omega
          have hci : ¬ ((128 : Nat) : Int) < 128 := by omega
          go_wp2_with fail
          go_end0
          obtain ⟨G3, hS, hT⟩ := hG.out
          exact ⟨rfl, G3, by rw [← hsf.out]; exact hS, hT⟩
    | true =>
      rw [hz] at HZ
      replace hsf := Lib.hid (show throughS b f (r1.tell (fnd 9 nd i)) 128 = sf by have := hsf.out; rw [hz] at this; exact this)
      clear hz
      go_wp2_with (first | (go_at_call 108; refine HZ.mono ?_; clear HZ; rintro e w5 ⟨rfl, rfl⟩) | (go_at_call 107; refine HT.mono ?_; clear HT; rintro e w5 ⟨rfl, hG5⟩; replace hG5 := Lib.hid hG5))
      go_loopw [26] (fun iv wr => ∃ j : Nat, iv = .int .i64 j ∧ j ≤ 128 ∧ Hid (∃ G3, Sim (N + 2 + j * c) wr A G3 (throughS b f (r1.tell (fnd 9 nd i)) j) ∧ Stp W G wr G3)) (fun iv _ => 128 - (intOf iv).toNat)
      case atStart => exact ⟨0, rfl, Nat.zero_le _, Lib.hid (by obtain ⟨G5, k1, k2⟩ := hG5.out; exact ⟨G5, by simpa [throughS] using k1, t1'.out.trans k2⟩)⟩
      case round =>
        obtain ⟨j, rfl, hj, hG⟩ := hrel
        by_cases cj : j < 128
        · have hci : (j : Int) < 128 := by omega
          obtain ⟨G3, hS, hT⟩ := hG.out
          have HG := get_at b A.img (512 * i) cap (4 * j) 4 wr (.inr (.inr rfl)) hS.kv (hsb.out _ _ _ _ hS) (by rw [hlen.out]; omega) (by rw [hlen.out]; omega)
          rw [hlen.out] at HG
          rw [show ((4 * j : Nat) : Int) = 4 * (j : Int) by omega] at HG
          have hvl : val (sub b (4 * j) 4) < 4294967296 := by have := val_lt (sub b (4 * j) 4); rw [sub_len (by rw [hlen.out]; omega)] at this; exact this
          have hsu := Lib.hid (throughS_succ b f (r1.tell (fnd 9 nd i)) j)
          have hmul : j * c ≤ 128 * c := Nat.mul_le_mul_right _ (by omega)
          have HC := hF.out (N + 2 + j * c) wr G3 _ j (val (sub b (4 * j) 4)) (by omega) hS hT cj hvl
          have HM := must_ok wr
          generalize val (sub b (4 * j) 4) = v at *
          have hT' := Lib.hid hT
          have hmul' : (j + 1) * c = j * c + c := Nat.succ_mul j c
          have hNN := Lib.hid (show N + 2 + j * c + c = N + 2 + (j + 1) * c by omega)
          clear hS hT hG hmul hmul'
          go_wp2_with (first | (go_at_call 92; refine HG.mono ?_; clear HG; rintro e w6 ⟨rfl, rfl⟩) | (go_at_call 55; refine HM.mono ?_; clear HM; rintro e w6 ⟨rfl, rfl⟩) | (go_at_call 66; refine HC.mono ?_; clear HC; rintro e w7 ⟨rfl, hG7⟩))
          go_roundw
          case rel =>
            obtain ⟨G7, k1, k2⟩ := hG7
            exact ⟨j + 1, rfl, by omega, Lib.hid ⟨G7, by rw [hsu.out, ← hNN.out]; exact k1, hT'.out.trans k2⟩⟩
          case measure => simp only [intOf]; omega
        · obtain rfl : j = 128 := by omega
          have hci : ¬ ((128 : Nat) : Int) < 128 := by omega
          go_wp2_with fail
          go_end0
          obtain ⟨G3, hS, hT⟩ := hG.out
          exact ⟨rfl, G3, by rw [← hsf.out]; exact hS, hT⟩
end
end Ck
end Go.Proofs.YtegplehbcdeeoaaGreatDoor
