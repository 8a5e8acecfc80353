/- What a path leads to, told. -/
import Derived.Test.YtlnnbjgfpiefdaaGreatRamB23
namespace Go.Proofs.YtlnnbjgfpiefdaaGreat
open Go.RowKit Go.Maps Go.Shelf

namespace Fs
/-- An answer's value; v: the slice of its names. -/
def ansC (a : Ans) (v : Value) : Array Value := #[.int .i64 a.err, .int .i64 a.n, .string (mk a.data), .int .i64 a.stat.inode, .int .i64 a.stat.kind, .int .i64 a.stat.links, .int .i64 a.stat.size, .int .i64 a.stat.blocks, v, .int .i64 a.room.freeB, .int .i64 a.room.blocks, .int .i64 a.room.freeI, .int .i64 a.room.inodes]
/-- An answer, its names in a row of the call's own. -/
def AnsR (W : World) (base : Nat) (a : Ans) (e : Ending) : Prop := ∃ v, e = .returned (.agg (ansC a v)) ∧ W.ownsRow base 9 1 v a.names.length (strsV a.names) ∧ (v = .slice none 0 0 ↔ a.names = [])
theorem info_stat : (Tryz.prog.info? 32).map (·.size) = some 5 := by kernel_rfl
set_option maxRecDepth 100000 in
theorem tell_results {tmps : Array Value} {w : World} {b : Nat} {v0 v1 v2 v3 v4 v5 v6 v7 v8 v9 v10 v11 v12 : Value} {t : TypeId} (h4 : tmps[4]? = some (.pointer (some ⟨b, 0, none⟩))) (hb : Blk w b #[v0, v1, v2, v3, v4, v5, v6, v7, v8, v9, v10, v11, v12] t) :
    (results Tryz.f33 tmps).run Tryz.prog w = .ok (.agg #[v0, v1, v2, v3, v4, v5, v6, v7, v8, v9, v10, v11, v12]) w := by
  have c0 : w.cell? ⟨b, 0, none⟩ = some v0 := hb.cell 0
  have c1 : w.cell? ⟨b, 1, none⟩ = some v1 := hb.cell 1
  have c2 : w.cell? ⟨b, 2, none⟩ = some v2 := hb.cell 2
  have c3 : w.cell? ⟨b, 3, none⟩ = some v3 := hb.cell 3
  have c4 : w.cell? ⟨b, 4, none⟩ = some v4 := hb.cell 4
  have c5 : w.cell? ⟨b, 5, none⟩ = some v5 := hb.cell 5
  have c6 : w.cell? ⟨b, 6, none⟩ = some v6 := hb.cell 6
  have c7 : w.cell? ⟨b, 7, none⟩ = some v7 := hb.cell 7
  have c8 : w.cell? ⟨b, 8, none⟩ = some v8 := hb.cell 8
  have c9 : w.cell? ⟨b, 9, none⟩ = some v9 := hb.cell 9
  have c10 : w.cell? ⟨b, 10, none⟩ = some v10 := hb.cell 10
  have c11 : w.cell? ⟨b, 11, none⟩ = some v11 := hb.cell 11
  have c12 : w.cell? ⟨b, 12, none⟩ = some v12 := hb.cell 12
  simp [results, Tryz.results33, go_sem, h4, c0, c1, c2, c3, c4, c5, c6, c7, c8, c9, c10, c11, c12]
section
variable {W : World} {L : Lay} {fb : Nat} {n : Int} {nb : Nat} {uv : Value} {vals : List Value}
set_option maxRecDepth 100000 in
set_option maxHeartbeats 8000000 in
theorem tell11 (h : Sim W L fb n nb uv vals) (hw : WF L nb) (hF : Fit (stOf L nb)) (hD : Filed (stOf L nb)) (c : Call) (hc : CallOk c) (hk : c.kind = 11) :
    Calls Tryz.prog 33 #[.pointer (some ⟨fb, 0, none⟩), .agg (callC c)] W fun e W' => AnsR W' W.heap.size (tell (stOf L nb) c) e ∧ Below W.heap.size W W' := by
  obtain ⟨X, hX⟩ : ∃ x, x = (W.alloc (.cells (callC c) 38)).alloc (.cells #[.int .i64 0, .int .i64 0, .string { data := #[] }, .int .i64 0, .int .i64 0, .int .i64 0, .int .i64 0, .int .i64 0, .slice none 0 0, .int .i64 0, .int .i64 0, .int .i64 0, .int .i64 0] 42) := ⟨_, rfl⟩
  have hbX : Below W.heap.size W X := by rw [hX]; exact ((Below.refl _ _).alloc (Nat.le_refl _) _).alloc (by simp) _
  have bc : Blk X W.heap.size (callC c) 38 := by rw [hX]; exact (Blk.newAt _ _ rfl).alloc _
  have ba : Blk X (W.heap.size + 1) #[.int .i64 0, .int .i64 0, .string { data := #[] }, .int .i64 0, .int .i64 0, .int .i64 0, .int .i64 0, .int .i64 0, .slice none 0 0, .int .i64 0, .int .i64 0, .int .i64 0, .int .i64 0] 42 := by rw [hX]; exact Blk.newAt _ _ (by simp)
  have q0 : X.cell? ⟨W.heap.size, 0, none⟩ = some (.int .i64 c.kind) := bc.cell 0
  have q1 : X.cell? ⟨W.heap.size, 1, none⟩ = some (.string (mk c.path)) := bc.cell 1
  rw [hk] at q0
  have HT := to_st (h.below hbX) hw hF.toGood c.path hc.path false
  have hlc := bc.lt
  have hla := ba.lt
  unfold tell
  rw [show decide (c.kind = 12 ∨ c.kind = 14) = false by rw [hk]; decide]
  unfold callC at *
  rw [hk] at hX ⊢
  have Hk := Lib.hid hk
  clear hk
  cases hq : toP (stOf L nb) c.path false with
  | error z =>
    rw [hq] at HT
    dsimp only
    go_enter Tryz.func33, Tryz.ntmps33
    go_wp2_with fail
    rw [← hX]
    clear hX
    refine HT.mono ?_
    rintro e w2 ⟨⟨rfl, hzn⟩, hb2⟩
    have hzb := (bne_iff_ne.2 hzn)
    have ba2 := (ba.same (hb2.block _ hla)).alloc (.cells #[.slice none 0 0, .string (mk []), .int .i64 0] 99)
    have hst := store_row (ys := #[.int .i64 z, .int .i64 0, .string { data := #[] }, .int .i64 0, .int .i64 0, .int .i64 0, .int .i64 0, .int .i64 0, .slice none 0 0, .int .i64 0, .int .i64 0, .int .i64 0, .int .i64 0]) (ty := 42) ba2 info_answer rfl (by simp [Value.oneCell'])
    go_wp2_with (refine wpList_store_run _ rfl (.tmp 4) (.tmp 26) 42 rfl _ hst ?_)
    exact bodyPost_ret (tell_results rfl (ba2.setRow _)) rfl ⟨⟨.slice none 0 0, rfl, World.ownsRow_nil _ _ _ _, by simp⟩, below_setRow ((Below.after hbX hb2).alloc (by have := hbX.size; have := hb2.size; omega) _) (by omega) _⟩
  | ok q =>
    obtain ⟨x, hx⟩ := toP_some hq hF.root
    obtain ⟨b, ha, _⟩ := Adr.of_st hx
    obtain ⟨i1, i2⟩ := hF.ids _ x hx
    have hokx := (hD _ x hx).1
    have hnd : ndAt (stOf L nb) q.inode = x := by unfold ndAt; rw [hx]; rfl
    rw [hq] at HT
    dsimp only
    rw [hnd]
    obtain ⟨hd, hb⟩ := hw.at ha
    have hxe : ndOf L hd = x := by have := ha.st; rw [hx, ndAtB_of hb] at this; exact (Option.some.inj this).symm
    have hbl := (h.is b _ hb).1
    obtain ⟨n0, _, _, _, n4, _, n6, _⟩ := node_cells (h.is b _ hb).2
    rw [show hd.kind = x.kind from congrArg Nd.kind hxe] at n0
    rw [show hd.text = x.text from congrArg Nd.text hxe] at n6
    have Hn := Lib.hid (And.intro hx (And.intro hnd (And.intro hxe hb)))
    clear hx hnd hxe hb hq
    rw [if_pos (rfl : (11 : Int) = 11)]
    by_cases hk3 : x.kind ≠ 3
    · rw [if_pos hk3]
      have hkb := bne_iff_ne.2 hk3
      clear hk3
      go_enter Tryz.func33, Tryz.ntmps33
      go_wp2_with fail
      rw [← hX]
      clear hX
      refine HT.mono ?_
      rintro e w2 ⟨⟨v2, rfl, hown2⟩, hb2⟩
      obtain ⟨ao2, c2, rfl, _⟩ := own_shape2 hown2
      have hB2 := Below.after hbX hb2
      have S3 := (h.below hB2).alloc (.cells #[.slice ao2 q.chain.length c2, .string (mk q.name), .int .i64 q.inode] 99)
      have ba2 := ba.same (hb2.block _ hla)
      have ba3 := ba2.alloc (.cells #[.slice ao2 q.chain.length c2, .string (mk q.name), .int .i64 q.inode] 99)
      have hB3 : Below W.heap.size W (w2.alloc (.cells #[.slice ao2 q.chain.length c2, .string (mk q.name), .int .i64 q.inode] 99)) := hB2.alloc hB2.size _
      have m0 := (hB2.cell (p := ⟨b, 0, none⟩) hbl).trans n0
      have m4 := (hB2.cell (p := ⟨b, 4, none⟩) hbl).trans n4
      have m6 := (hB2.cell (p := ⟨b, 6, none⟩) hbl).trans n6
      have qk := (hb2.cell (p := ⟨W.heap.size, 0, none⟩) hlc).trans q0
      have l0 := Nat.lt_of_lt_of_le hlc hb2.size
      have l1 := Nat.lt_of_lt_of_le hla hb2.size
      have lb := Nat.lt_of_lt_of_le hbl hB2.size
      have hst := store_row (ys := #[.int .i64 1, .int .i64 0, .string { data := #[] }, .int .i64 0, .int .i64 0, .int .i64 0, .int .i64 0, .int .i64 0, .slice none 0 0, .int .i64 0, .int .i64 0, .int .i64 0, .int .i64 0]) (ty := 42) ba3 info_answer rfl (by simp [Value.oneCell'])
      go_wp2_with (first | (refine wpList_store_run _ rfl (.tmp 4) (.tmp 45) 42 rfl _ hst ?_) | (go_at_call 40; refine (at_st S3 hw ha i1 i2).mono ?_; rintro e w' ⟨rfl, rfl⟩))
      exact bodyPost_ret (tell_results rfl (ba3.setRow _)) rfl ⟨⟨.slice none 0 0, rfl, World.ownsRow_nil _ _ _ _, by simp⟩, below_setRow hB3 (by omega) _⟩
    · rw [if_neg hk3]
      have hkb : (x.kind != 3) = false := by simpa using hk3
      clear hk3
      go_enter Tryz.func33, Tryz.ntmps33
      go_wp2_with fail
      rw [← hX]
      clear hX
      refine HT.mono ?_
      rintro e w2 ⟨⟨v2, rfl, hown2⟩, hb2⟩
      obtain ⟨ao2, c2, rfl, _⟩ := own_shape2 hown2
      have hB2 := Below.after hbX hb2
      have S3 := (h.below hB2).alloc (.cells #[.slice ao2 q.chain.length c2, .string (mk q.name), .int .i64 q.inode] 99)
      have ba2 := ba.same (hb2.block _ hla)
      have ba3 := ba2.alloc (.cells #[.slice ao2 q.chain.length c2, .string (mk q.name), .int .i64 q.inode] 99)
      have hB3 : Below W.heap.size W (w2.alloc (.cells #[.slice ao2 q.chain.length c2, .string (mk q.name), .int .i64 q.inode] 99)) := hB2.alloc hB2.size _
      have m0 := (hB2.cell (p := ⟨b, 0, none⟩) hbl).trans n0
      have m4 := (hB2.cell (p := ⟨b, 4, none⟩) hbl).trans n4
      have m6 := (hB2.cell (p := ⟨b, 6, none⟩) hbl).trans n6
      have qk := (hb2.cell (p := ⟨W.heap.size, 0, none⟩) hlc).trans q0
      have l0 := Nat.lt_of_lt_of_le hlc hb2.size
      have l1 := Nat.lt_of_lt_of_le hla hb2.size
      have lb := Nat.lt_of_lt_of_le hbl hB2.size
      have z2 := ba2.cell 2
      have zf2 := ba2.free 2
      have bs : Blk ((w2.setCell ⟨W.heap.size + 1, 2, none⟩ (.string (mk x.text))).alloc (.cells #[.slice ao2 q.chain.length c2, .string (mk q.name), .int .i64 q.inode] 99)) (W.heap.size + 1) #[.int .i64 0, .int .i64 0, .string (mk x.text), .int .i64 0, .int .i64 0, .int .i64 0, .int .i64 0, .int .i64 0, .slice none 0 0, .int .i64 0, .int .i64 0, .int .i64 0, .int .i64 0] 42 := (ba2.set 2 (.string (mk x.text))).alloc _
      have hB5 : Below W.heap.size W ((w2.setCell ⟨W.heap.size + 1, 2, none⟩ (.string (mk x.text))).alloc (.cells #[.slice ao2 q.chain.length c2, .string (mk q.name), .int .i64 q.inode] 99)) := (hB2.setCell (p := ⟨W.heap.size + 1, 2, none⟩) (by show W.heap.size ≤ W.heap.size + 1; omega) _).alloc (by simp; exact hB2.size) _
      have hld := load_answer bs rfl
      have hst := store_row (ys := #[.int .i64 0, .int .i64 0, .string (mk x.text), .int .i64 0, .int .i64 0, .int .i64 0, .int .i64 0, .int .i64 0, .slice none 0 0, .int .i64 0, .int .i64 0, .int .i64 0, .int .i64 0]) (ty := 42) bs info_answer rfl (by simp [Value.oneCell'])
      go_wp2_with (first | (refine wpList_load_run _ rfl (.tmp 4) 42 rfl _ hld ?_) | (refine wpList_store_run _ rfl (.tmp 4) (.tmp 64) 42 rfl _ hst ?_) | (go_at_call 40; refine (at_st S3 hw ha i1 i2).mono ?_; rintro e w' ⟨rfl, rfl⟩))
      exact bodyPost_ret (tell_results rfl (bs.setRow _)) rfl ⟨⟨.slice none 0 0, rfl, World.ownsRow_nil _ _ _ _, by simp⟩, below_setRow hB5 (by omega) _⟩
set_option maxRecDepth 100000 in
set_option maxHeartbeats 8000000 in
theorem tell12 (h : Sim W L fb n nb uv vals) (hw : WF L nb) (hF : Fit (stOf L nb)) (hD : Filed (stOf L nb)) (c : Call) (hc : CallOk c) (hk : c.kind = 12) :
    Calls Tryz.prog 33 #[.pointer (some ⟨fb, 0, none⟩), .agg (callC c)] W fun e W' => AnsR W' W.heap.size (tell (stOf L nb) c) e ∧ Below W.heap.size W W' := by
  obtain ⟨X, hX⟩ : ∃ x, x = (W.alloc (.cells (callC c) 38)).alloc (.cells #[.int .i64 0, .int .i64 0, .string { data := #[] }, .int .i64 0, .int .i64 0, .int .i64 0, .int .i64 0, .int .i64 0, .slice none 0 0, .int .i64 0, .int .i64 0, .int .i64 0, .int .i64 0] 42) := ⟨_, rfl⟩
  have hbX : Below W.heap.size W X := by rw [hX]; exact ((Below.refl _ _).alloc (Nat.le_refl _) _).alloc (by simp) _
  have bc : Blk X W.heap.size (callC c) 38 := by rw [hX]; exact (Blk.newAt _ _ rfl).alloc _
  have ba : Blk X (W.heap.size + 1) #[.int .i64 0, .int .i64 0, .string { data := #[] }, .int .i64 0, .int .i64 0, .int .i64 0, .int .i64 0, .int .i64 0, .slice none 0 0, .int .i64 0, .int .i64 0, .int .i64 0, .int .i64 0] 42 := by rw [hX]; exact Blk.newAt _ _ (by simp)
  have q0 : X.cell? ⟨W.heap.size, 0, none⟩ = some (.int .i64 c.kind) := bc.cell 0
  have q1 : X.cell? ⟨W.heap.size, 1, none⟩ = some (.string (mk c.path)) := bc.cell 1
  rw [hk] at q0
  have HT := to_st (h.below hbX) hw hF.toGood c.path hc.path true
  have hlc := bc.lt
  have hla := ba.lt
  unfold tell
  rw [show decide (c.kind = 12 ∨ c.kind = 14) = true by rw [hk]; decide]
  unfold callC at *
  rw [hk] at hX ⊢
  have Hk := Lib.hid hk
  clear hk
  cases hq : toP (stOf L nb) c.path true with
  | error z =>
    rw [hq] at HT
    dsimp only
    go_enter Tryz.func33, Tryz.ntmps33
    go_wp2_with fail
    rw [← hX]
    clear hX
    refine HT.mono ?_
    rintro e w2 ⟨⟨rfl, hzn⟩, hb2⟩
    have hzb := (bne_iff_ne.2 hzn)
    have ba2 := (ba.same (hb2.block _ hla)).alloc (.cells #[.slice none 0 0, .string (mk []), .int .i64 0] 99)
    have hst := store_row (ys := #[.int .i64 z, .int .i64 0, .string { data := #[] }, .int .i64 0, .int .i64 0, .int .i64 0, .int .i64 0, .int .i64 0, .slice none 0 0, .int .i64 0, .int .i64 0, .int .i64 0, .int .i64 0]) (ty := 42) ba2 info_answer rfl (by simp [Value.oneCell'])
    go_wp2_with (refine wpList_store_run _ rfl (.tmp 4) (.tmp 26) 42 rfl _ hst ?_)
    exact bodyPost_ret (tell_results rfl (ba2.setRow _)) rfl ⟨⟨.slice none 0 0, rfl, World.ownsRow_nil _ _ _ _, by simp⟩, below_setRow ((Below.after hbX hb2).alloc (by have := hbX.size; have := hb2.size; omega) _) (by omega) _⟩
  | ok q =>
    obtain ⟨x, hx⟩ := toP_some hq hF.root
    obtain ⟨b, ha, _⟩ := Adr.of_st hx
    obtain ⟨i1, i2⟩ := hF.ids _ x hx
    have hokx := (hD _ x hx).1
    have hnd : ndAt (stOf L nb) q.inode = x := by unfold ndAt; rw [hx]; rfl
    rw [hq] at HT
    dsimp only
    rw [hnd]
    obtain ⟨hd, hb⟩ := hw.at ha
    have hxe : ndOf L hd = x := by have := ha.st; rw [hx, ndAtB_of hb] at this; exact (Option.some.inj this).symm
    have hbl := (h.is b _ hb).1
    obtain ⟨n0, _, _, _, n4, _, n6, _⟩ := node_cells (h.is b _ hb).2
    rw [show hd.kind = x.kind from congrArg Nd.kind hxe] at n0
    rw [show hd.text = x.text from congrArg Nd.text hxe] at n6
    have Hn := Lib.hid (And.intro hx (And.intro hnd (And.intro hxe hb)))
    clear hx hnd hxe hb hq
    rw [if_neg (by decide : ¬ (12 : Int) = 11), if_neg (by decide : ¬ (12 : Int) = 14)]
    go_enter Tryz.func33, Tryz.ntmps33
    go_wp2_with fail
    rw [← hX]
    clear hX
    refine HT.mono ?_
    rintro e w2 ⟨⟨v2, rfl, hown2⟩, hb2⟩
    obtain ⟨ao2, c2, rfl, _⟩ := own_shape2 hown2
    have hB2 := Below.after hbX hb2
    have S3 := (h.below hB2).alloc (.cells #[.slice ao2 q.chain.length c2, .string (mk q.name), .int .i64 q.inode] 99)
    have ba2 := ba.same (hb2.block _ hla)
    have ba3 := ba2.alloc (.cells #[.slice ao2 q.chain.length c2, .string (mk q.name), .int .i64 q.inode] 99)
    have hB3 : Below W.heap.size W (w2.alloc (.cells #[.slice ao2 q.chain.length c2, .string (mk q.name), .int .i64 q.inode] 99)) := hB2.alloc hB2.size _
    have m0 := (hB2.cell (p := ⟨b, 0, none⟩) hbl).trans n0
    have m4 := (hB2.cell (p := ⟨b, 4, none⟩) hbl).trans n4
    have m6 := (hB2.cell (p := ⟨b, 6, none⟩) hbl).trans n6
    have qk := (hb2.cell (p := ⟨W.heap.size, 0, none⟩) hlc).trans q0
    have l0 := Nat.lt_of_lt_of_le hlc hb2.size
    have l1 := Nat.lt_of_lt_of_le hla hb2.size
    have lb := Nat.lt_of_lt_of_le hbl hB2.size
    have HS := stat_st S3 hw ha Hn.1 hokx q.inode
    go_wp2_with (first | (go_at_call 40; refine (at_st S3 hw ha i1 i2).mono ?_; rintro e w' ⟨rfl, rfl⟩) | (go_at_call 64; refine HS.mono ?_; rintro e w5 ⟨rfl, hb5⟩; have ba5 := ba3.same (hb5.block _ ba3.lt); have hB5 := Below.after hB3 hb5; have hs1 : (Instr.storeAt 32 (.pointer (some ⟨W.heap.size + 1, 3, none⟩)) (.agg (statC (statN q.inode x)))).run Tryz.prog w5 = .ok () (w5.setRow (W.heap.size + 1) #[.int .i64 0, .int .i64 0, .string { data := #[] }, .int .i64 q.inode, .int .i64 x.kind, .int .i64 x.links, .int .i64 x.size, .int .i64 (blocksOf x), .slice none 0 0, .int .i64 0, .int .i64 0, .int .i64 0, .int .i64 0]) := store_part ba5 info_stat (Nat.le_of_ble_eq_true rfl) (by simp [statC, Value.oneCell']); have bq := ba5.setRow #[.int .i64 0, .int .i64 0, .string { data := #[] }, .int .i64 q.inode, .int .i64 x.kind, .int .i64 x.links, .int .i64 x.size, .int .i64 (blocksOf x), .slice none 0 0, .int .i64 0, .int .i64 0, .int .i64 0, .int .i64 0]; have hld := load_answer bq rfl; have hst := store_row (ys := #[.int .i64 0, .int .i64 0, .string { data := #[] }, .int .i64 q.inode, .int .i64 x.kind, .int .i64 x.links, .int .i64 x.size, .int .i64 (blocksOf x), .slice none 0 0, .int .i64 0, .int .i64 0, .int .i64 0, .int .i64 0]) (ty := 42) bq info_answer rfl (by simp [Value.oneCell'])) | (refine wpList_store_run _ rfl (.tmp 37) (.tmp 36) 32 rfl _ hs1 ?_) | (refine wpList_load_run _ rfl (.tmp 4) 42 rfl _ hld ?_) | (refine wpList_store_run _ rfl (.tmp 4) (.tmp 64) 42 rfl _ hst ?_))
    exact bodyPost_ret (tell_results rfl (bq.setRow _)) rfl ⟨⟨.slice none 0 0, rfl, World.ownsRow_nil _ _ _ _, by simp⟩, below_setRow (below_setRow hB5 (by omega) _) (by omega) _⟩
set_option maxRecDepth 100000 in
set_option maxHeartbeats 8000000 in
theorem tell13 (h : Sim W L fb n nb uv vals) (hw : WF L nb) (hF : Fit (stOf L nb)) (hD : Filed (stOf L nb)) (c : Call) (hc : CallOk c) (hk : c.kind = 13) :
    Calls Tryz.prog 33 #[.pointer (some ⟨fb, 0, none⟩), .agg (callC c)] W fun e W' => AnsR W' W.heap.size (tell (stOf L nb) c) e ∧ Below W.heap.size W W' := by
  obtain ⟨X, hX⟩ : ∃ x, x = (W.alloc (.cells (callC c) 38)).alloc (.cells #[.int .i64 0, .int .i64 0, .string { data := #[] }, .int .i64 0, .int .i64 0, .int .i64 0, .int .i64 0, .int .i64 0, .slice none 0 0, .int .i64 0, .int .i64 0, .int .i64 0, .int .i64 0] 42) := ⟨_, rfl⟩
  have hbX : Below W.heap.size W X := by rw [hX]; exact ((Below.refl _ _).alloc (Nat.le_refl _) _).alloc (by simp) _
  have bc : Blk X W.heap.size (callC c) 38 := by rw [hX]; exact (Blk.newAt _ _ rfl).alloc _
  have ba : Blk X (W.heap.size + 1) #[.int .i64 0, .int .i64 0, .string { data := #[] }, .int .i64 0, .int .i64 0, .int .i64 0, .int .i64 0, .int .i64 0, .slice none 0 0, .int .i64 0, .int .i64 0, .int .i64 0, .int .i64 0] 42 := by rw [hX]; exact Blk.newAt _ _ (by simp)
  have q0 : X.cell? ⟨W.heap.size, 0, none⟩ = some (.int .i64 c.kind) := bc.cell 0
  have q1 : X.cell? ⟨W.heap.size, 1, none⟩ = some (.string (mk c.path)) := bc.cell 1
  rw [hk] at q0
  have HT := to_st (h.below hbX) hw hF.toGood c.path hc.path false
  have hlc := bc.lt
  have hla := ba.lt
  unfold tell
  rw [show decide (c.kind = 12 ∨ c.kind = 14) = false by rw [hk]; decide]
  unfold callC at *
  rw [hk] at hX ⊢
  have Hk := Lib.hid hk
  clear hk
  cases hq : toP (stOf L nb) c.path false with
  | error z =>
    rw [hq] at HT
    dsimp only
    go_enter Tryz.func33, Tryz.ntmps33
    go_wp2_with fail
    rw [← hX]
    clear hX
    refine HT.mono ?_
    rintro e w2 ⟨⟨rfl, hzn⟩, hb2⟩
    have hzb := (bne_iff_ne.2 hzn)
    have ba2 := (ba.same (hb2.block _ hla)).alloc (.cells #[.slice none 0 0, .string (mk []), .int .i64 0] 99)
    have hst := store_row (ys := #[.int .i64 z, .int .i64 0, .string { data := #[] }, .int .i64 0, .int .i64 0, .int .i64 0, .int .i64 0, .int .i64 0, .slice none 0 0, .int .i64 0, .int .i64 0, .int .i64 0, .int .i64 0]) (ty := 42) ba2 info_answer rfl (by simp [Value.oneCell'])
    go_wp2_with (refine wpList_store_run _ rfl (.tmp 4) (.tmp 26) 42 rfl _ hst ?_)
    exact bodyPost_ret (tell_results rfl (ba2.setRow _)) rfl ⟨⟨.slice none 0 0, rfl, World.ownsRow_nil _ _ _ _, by simp⟩, below_setRow ((Below.after hbX hb2).alloc (by have := hbX.size; have := hb2.size; omega) _) (by omega) _⟩
  | ok q =>
    obtain ⟨x, hx⟩ := toP_some hq hF.root
    obtain ⟨b, ha, _⟩ := Adr.of_st hx
    obtain ⟨i1, i2⟩ := hF.ids _ x hx
    have hokx := (hD _ x hx).1
    have hnd : ndAt (stOf L nb) q.inode = x := by unfold ndAt; rw [hx]; rfl
    rw [hq] at HT
    dsimp only
    rw [hnd]
    obtain ⟨hd, hb⟩ := hw.at ha
    have hxe : ndOf L hd = x := by have := ha.st; rw [hx, ndAtB_of hb] at this; exact (Option.some.inj this).symm
    have hbl := (h.is b _ hb).1
    obtain ⟨n0, _, _, _, n4, _, n6, _⟩ := node_cells (h.is b _ hb).2
    rw [show hd.kind = x.kind from congrArg Nd.kind hxe] at n0
    rw [show hd.text = x.text from congrArg Nd.text hxe] at n6
    have Hn := Lib.hid (And.intro hx (And.intro hnd (And.intro hxe hb)))
    clear hx hnd hxe hb hq
    rw [if_neg (by decide : ¬ (13 : Int) = 11), if_neg (by decide : ¬ (13 : Int) = 14)]
    go_enter Tryz.func33, Tryz.ntmps33
    go_wp2_with fail
    rw [← hX]
    clear hX
    refine HT.mono ?_
    rintro e w2 ⟨⟨v2, rfl, hown2⟩, hb2⟩
    obtain ⟨ao2, c2, rfl, _⟩ := own_shape2 hown2
    have hB2 := Below.after hbX hb2
    have S3 := (h.below hB2).alloc (.cells #[.slice ao2 q.chain.length c2, .string (mk q.name), .int .i64 q.inode] 99)
    have ba2 := ba.same (hb2.block _ hla)
    have ba3 := ba2.alloc (.cells #[.slice ao2 q.chain.length c2, .string (mk q.name), .int .i64 q.inode] 99)
    have hB3 : Below W.heap.size W (w2.alloc (.cells #[.slice ao2 q.chain.length c2, .string (mk q.name), .int .i64 q.inode] 99)) := hB2.alloc hB2.size _
    have m0 := (hB2.cell (p := ⟨b, 0, none⟩) hbl).trans n0
    have m4 := (hB2.cell (p := ⟨b, 4, none⟩) hbl).trans n4
    have m6 := (hB2.cell (p := ⟨b, 6, none⟩) hbl).trans n6
    have qk := (hb2.cell (p := ⟨W.heap.size, 0, none⟩) hlc).trans q0
    have l0 := Nat.lt_of_lt_of_le hlc hb2.size
    have l1 := Nat.lt_of_lt_of_le hla hb2.size
    have lb := Nat.lt_of_lt_of_le hbl hB2.size
    have HS := stat_st S3 hw ha Hn.1 hokx q.inode
    go_wp2_with (first | (go_at_call 40; refine (at_st S3 hw ha i1 i2).mono ?_; rintro e w' ⟨rfl, rfl⟩) | (go_at_call 64; refine HS.mono ?_; rintro e w5 ⟨rfl, hb5⟩; have ba5 := ba3.same (hb5.block _ ba3.lt); have hB5 := Below.after hB3 hb5; have hs1 : (Instr.storeAt 32 (.pointer (some ⟨W.heap.size + 1, 3, none⟩)) (.agg (statC (statN q.inode x)))).run Tryz.prog w5 = .ok () (w5.setRow (W.heap.size + 1) #[.int .i64 0, .int .i64 0, .string { data := #[] }, .int .i64 q.inode, .int .i64 x.kind, .int .i64 x.links, .int .i64 x.size, .int .i64 (blocksOf x), .slice none 0 0, .int .i64 0, .int .i64 0, .int .i64 0, .int .i64 0]) := store_part ba5 info_stat (Nat.le_of_ble_eq_true rfl) (by simp [statC, Value.oneCell']); have bq := ba5.setRow #[.int .i64 0, .int .i64 0, .string { data := #[] }, .int .i64 q.inode, .int .i64 x.kind, .int .i64 x.links, .int .i64 x.size, .int .i64 (blocksOf x), .slice none 0 0, .int .i64 0, .int .i64 0, .int .i64 0, .int .i64 0]; have hld := load_answer bq rfl; have hst := store_row (ys := #[.int .i64 0, .int .i64 0, .string { data := #[] }, .int .i64 q.inode, .int .i64 x.kind, .int .i64 x.links, .int .i64 x.size, .int .i64 (blocksOf x), .slice none 0 0, .int .i64 0, .int .i64 0, .int .i64 0, .int .i64 0]) (ty := 42) bq info_answer rfl (by simp [Value.oneCell'])) | (refine wpList_store_run _ rfl (.tmp 37) (.tmp 36) 32 rfl _ hs1 ?_) | (refine wpList_load_run _ rfl (.tmp 4) 42 rfl _ hld ?_) | (refine wpList_store_run _ rfl (.tmp 4) (.tmp 64) 42 rfl _ hst ?_))
    exact bodyPost_ret (tell_results rfl (bq.setRow _)) rfl ⟨⟨.slice none 0 0, rfl, World.ownsRow_nil _ _ _ _, by simp⟩, below_setRow (below_setRow hB5 (by omega) _) (by omega) _⟩
set_option maxRecDepth 100000 in
set_option maxHeartbeats 8000000 in
theorem tell14 (h : Sim W L fb n nb uv vals) (hw : WF L nb) (hF : Fit (stOf L nb)) (hD : Filed (stOf L nb)) (c : Call) (hc : CallOk c) (hk : c.kind = 14) :
    Calls Tryz.prog 33 #[.pointer (some ⟨fb, 0, none⟩), .agg (callC c)] W fun e W' => AnsR W' W.heap.size (tell (stOf L nb) c) e ∧ Below W.heap.size W W' := by
  obtain ⟨X, hX⟩ : ∃ x, x = (W.alloc (.cells (callC c) 38)).alloc (.cells #[.int .i64 0, .int .i64 0, .string { data := #[] }, .int .i64 0, .int .i64 0, .int .i64 0, .int .i64 0, .int .i64 0, .slice none 0 0, .int .i64 0, .int .i64 0, .int .i64 0, .int .i64 0] 42) := ⟨_, rfl⟩
  have hbX : Below W.heap.size W X := by rw [hX]; exact ((Below.refl _ _).alloc (Nat.le_refl _) _).alloc (by simp) _
  have bc : Blk X W.heap.size (callC c) 38 := by rw [hX]; exact (Blk.newAt _ _ rfl).alloc _
  have ba : Blk X (W.heap.size + 1) #[.int .i64 0, .int .i64 0, .string { data := #[] }, .int .i64 0, .int .i64 0, .int .i64 0, .int .i64 0, .int .i64 0, .slice none 0 0, .int .i64 0, .int .i64 0, .int .i64 0, .int .i64 0] 42 := by rw [hX]; exact Blk.newAt _ _ (by simp)
  have q0 : X.cell? ⟨W.heap.size, 0, none⟩ = some (.int .i64 c.kind) := bc.cell 0
  have q1 : X.cell? ⟨W.heap.size, 1, none⟩ = some (.string (mk c.path)) := bc.cell 1
  rw [hk] at q0
  have HT := to_st (h.below hbX) hw hF.toGood c.path hc.path true
  have hlc := bc.lt
  have hla := ba.lt
  unfold tell
  rw [show decide (c.kind = 12 ∨ c.kind = 14) = true by rw [hk]; decide]
  unfold callC at *
  rw [hk] at hX ⊢
  have Hk := Lib.hid hk
  clear hk
  cases hq : toP (stOf L nb) c.path true with
  | error z =>
    rw [hq] at HT
    dsimp only
    go_enter Tryz.func33, Tryz.ntmps33
    go_wp2_with fail
    rw [← hX]
    clear hX
    refine HT.mono ?_
    rintro e w2 ⟨⟨rfl, hzn⟩, hb2⟩
    have hzb := (bne_iff_ne.2 hzn)
    have ba2 := (ba.same (hb2.block _ hla)).alloc (.cells #[.slice none 0 0, .string (mk []), .int .i64 0] 99)
    have hst := store_row (ys := #[.int .i64 z, .int .i64 0, .string { data := #[] }, .int .i64 0, .int .i64 0, .int .i64 0, .int .i64 0, .int .i64 0, .slice none 0 0, .int .i64 0, .int .i64 0, .int .i64 0, .int .i64 0]) (ty := 42) ba2 info_answer rfl (by simp [Value.oneCell'])
    go_wp2_with (refine wpList_store_run _ rfl (.tmp 4) (.tmp 26) 42 rfl _ hst ?_)
    exact bodyPost_ret (tell_results rfl (ba2.setRow _)) rfl ⟨⟨.slice none 0 0, rfl, World.ownsRow_nil _ _ _ _, by simp⟩, below_setRow ((Below.after hbX hb2).alloc (by have := hbX.size; have := hb2.size; omega) _) (by omega) _⟩
  | ok q =>
    obtain ⟨x, hx⟩ := toP_some hq hF.root
    obtain ⟨b, ha, _⟩ := Adr.of_st hx
    obtain ⟨i1, i2⟩ := hF.ids _ x hx
    have hokx := (hD _ x hx).1
    have hnd : ndAt (stOf L nb) q.inode = x := by unfold ndAt; rw [hx]; rfl
    rw [hq] at HT
    dsimp only
    rw [hnd]
    obtain ⟨hd, hb⟩ := hw.at ha
    have hxe : ndOf L hd = x := by have := ha.st; rw [hx, ndAtB_of hb] at this; exact (Option.some.inj this).symm
    have hbl := (h.is b _ hb).1
    obtain ⟨n0, _, _, _, n4, _, n6, _⟩ := node_cells (h.is b _ hb).2
    rw [show hd.kind = x.kind from congrArg Nd.kind hxe] at n0
    rw [show hd.text = x.text from congrArg Nd.text hxe] at n6
    have Hn := Lib.hid (And.intro hx (And.intro hnd (And.intro hxe hb)))
    clear hx hnd hxe hb hq
    rw [if_neg (by decide : ¬ (14 : Int) = 11), if_pos (rfl : (14 : Int) = 14)]
    by_cases hk2 : x.kind ≠ 2
    · rw [if_pos hk2]
      have hkb : (x.kind == 2) = false := by rw [beq_eq_false_iff_ne]; exact hk2
      clear hk2
      go_enter Tryz.func33, Tryz.ntmps33
      go_wp2_with fail
      rw [← hX]
      clear hX
      refine HT.mono ?_
      rintro e w2 ⟨⟨v2, rfl, hown2⟩, hb2⟩
      obtain ⟨ao2, c2, rfl, _⟩ := own_shape2 hown2
      have hB2 := Below.after hbX hb2
      have S3 := (h.below hB2).alloc (.cells #[.slice ao2 q.chain.length c2, .string (mk q.name), .int .i64 q.inode] 99)
      have ba2 := ba.same (hb2.block _ hla)
      have ba3 := ba2.alloc (.cells #[.slice ao2 q.chain.length c2, .string (mk q.name), .int .i64 q.inode] 99)
      have hB3 : Below W.heap.size W (w2.alloc (.cells #[.slice ao2 q.chain.length c2, .string (mk q.name), .int .i64 q.inode] 99)) := hB2.alloc hB2.size _
      have m0 := (hB2.cell (p := ⟨b, 0, none⟩) hbl).trans n0
      have m4 := (hB2.cell (p := ⟨b, 4, none⟩) hbl).trans n4
      have m6 := (hB2.cell (p := ⟨b, 6, none⟩) hbl).trans n6
      have qk := (hb2.cell (p := ⟨W.heap.size, 0, none⟩) hlc).trans q0
      have l0 := Nat.lt_of_lt_of_le hlc hb2.size
      have l1 := Nat.lt_of_lt_of_le hla hb2.size
      have lb := Nat.lt_of_lt_of_le hbl hB2.size
      have m0' : (w2.alloc (.cells #[.slice ao2 q.chain.length c2, .string (mk q.name), .int .i64 q.inode] 99)).cell? ⟨b, 0, none⟩ = some (.int .i64 x.kind) := (((Below.refl _ _).alloc (Nat.le_refl w2.heap.size) _).cell (p := ⟨b, 0, none⟩) lb).trans m0
      have hst := store_row (ys := #[.int .i64 161, .int .i64 0, .string { data := #[] }, .int .i64 0, .int .i64 0, .int .i64 0, .int .i64 0, .int .i64 0, .slice none 0 0, .int .i64 0, .int .i64 0, .int .i64 0, .int .i64 0]) (ty := 42) ba3 info_answer rfl (by simp [Value.oneCell'])
      go_wp2_with (first | (refine wpList_store_run _ rfl (.tmp 4) (.tmp 56) 42 rfl _ hst ?_) | (go_at_call 40; refine (at_st S3 hw ha i1 i2).mono ?_; rintro e w' ⟨rfl, rfl⟩) | (go_at_call 48; refine (isDir_any _ m0').mono ?_; rintro e w' ⟨rfl, rfl⟩; rw [hkb]))
      exact bodyPost_ret (tell_results rfl (ba3.setRow _)) rfl ⟨⟨.slice none 0 0, rfl, World.ownsRow_nil _ _ _ _, by simp⟩, below_setRow hB3 (by omega) _⟩
    · rw [if_neg hk2]
      have hkd : x.kind = 2 := by omega
      have hkb : (x.kind == 2) = true := by rw [hkd]; rfl
      obtain ⟨qn, hqn⟩ := hw.dir b hd Hn.2.2.2 ((congrArg Nd.kind Hn.2.2.1).trans hkd)
      obtain ⟨mn, hmn⟩ := hw.nm b hd qn Hn.2.2.2 hqn
      have hme : x.names = mn := by have e0 : (ndOf L hd).names = mn := by unfold ndOf namesAt; dsimp only; rw [hqn]; dsimp only; rw [hmn]
                                    rw [Hn.2.2.1] at e0; exact e0
      rw [hqn] at n4
      have hlm : mn.length ≤ 1000000 := by rw [← hme]; exact (hF.many _ x Hn.1).1
      rw [hme]
      have Hme := Lib.hid hme
      clear hk2 hkd hme
      go_enter Tryz.func33, Tryz.ntmps33
      go_wp2_with fail
      rw [← hX]
      clear hX
      refine HT.mono ?_
      rintro e w2 ⟨⟨v2, rfl, hown2⟩, hb2⟩
      obtain ⟨ao2, c2, rfl, _⟩ := own_shape2 hown2
      have hB2 := Below.after hbX hb2
      have S3 := (h.below hB2).alloc (.cells #[.slice ao2 q.chain.length c2, .string (mk q.name), .int .i64 q.inode] 99)
      have ba2 := ba.same (hb2.block _ hla)
      have ba3 := ba2.alloc (.cells #[.slice ao2 q.chain.length c2, .string (mk q.name), .int .i64 q.inode] 99)
      have hB3 : Below W.heap.size W (w2.alloc (.cells #[.slice ao2 q.chain.length c2, .string (mk q.name), .int .i64 q.inode] 99)) := hB2.alloc hB2.size _
      have m0 := (hB2.cell (p := ⟨b, 0, none⟩) hbl).trans n0
      have m4 := (hB2.cell (p := ⟨b, 4, none⟩) hbl).trans n4
      have m6 := (hB2.cell (p := ⟨b, 6, none⟩) hbl).trans n6
      have qk := (hb2.cell (p := ⟨W.heap.size, 0, none⟩) hlc).trans q0
      have l0 := Nat.lt_of_lt_of_le hlc hb2.size
      have l1 := Nat.lt_of_lt_of_le hla hb2.size
      have lb := Nat.lt_of_lt_of_le hbl hB2.size
      have m0' : (w2.alloc (.cells #[.slice ao2 q.chain.length c2, .string (mk q.name), .int .i64 q.inode] 99)).cell? ⟨b, 0, none⟩ = some (.int .i64 x.kind) := (((Below.refl _ _).alloc (Nat.le_refl w2.heap.size) _).cell (p := ⟨b, 0, none⟩) lb).trans m0
      obtain ⟨Y, hY⟩ : ∃ y, y = w2.alloc (.cells #[.slice ao2 q.chain.length c2, .string (mk q.name), .int .i64 q.inode] 99) := ⟨_, rfl⟩
      have HAt := at_st S3 hw ha i1 i2
      have HK := keys_calls qn Y
      have HSo := sorted_calls (show MapAt Tryz.prog 9 evI Y qn mn from hY ▸ (S3.is qn _ hmn).2) hlm
      have lY : Y.heap.size = w2.heap.size + 1 := by rw [hY]; simp
      rw [← hY] at ba3 hB3 m0' HAt
      have HIs := isDir_any _ m0'
      rw [hkb] at HIs
      have hb2' := hb2.size
      have Hy := Lib.hid (And.intro lY (And.intro hb2' (And.intro hB3 ba3)))
      clear lY hb2' hB3 ba3 m0 S3 m0' ba2 hown2 hB2 hb2
      go_wp2_with fail
      rw [← hY]
      refine HAt.mono ?_
      rintro e w' ⟨rfl, rfl⟩
      rw [hY] at HIs
      have m4' : Y.cell? ⟨b, 4, none⟩ = some (.map (some qn)) := by rw [hY]; exact (((Below.refl _ _).alloc (Nat.le_refl w2.heap.size) _).cell (p := ⟨b, 4, none⟩) lb).trans m4
      rw [← hY] at HIs
      have qkY : Y.cell? ⟨W.heap.size, 0, none⟩ = some (.int .i64 14) := by rw [hY]; exact (((Below.refl _ _).alloc (Nat.le_refl w2.heap.size) _).cell (p := ⟨W.heap.size, 0, none⟩) l0).trans qk
      have HY := Lib.hid hY
      clear hY m4 qk
      go_wp2_with fail
      refine HIs.mono ?_
      rintro e w' ⟨rfl, rfl⟩
      go_wp2_with fail
      refine HK.mono ?_
      rintro e w' ⟨rfl, rfl⟩
      go_wp2_with fail
      refine HSo.mono ?_
      rintro e w5 ⟨v5, rfl, hown5, hnil5, hb5⟩
      obtain ⟨ao5, c5, rfl, _⟩ := own_shape2 hown5
      obtain ⟨lY, hb2', hB3, ba3⟩ := Hy
      have hB5 : Below W.heap.size W w5 := Below.after (hB3.alloc (Nat.le_trans hB3.size (Nat.le_refl _)) (.cells #[.map (some qn)] 63)) ⟨hb5.os, hb5.tape, hb5.output, hb5.size, fun k hk => hb5.block k (by simp at hk; omega)⟩
      have ba5 : Blk w5 (W.heap.size + 1) _ 42 := (ba3.alloc (.cells #[.map (some qn)] 63)).same (hb5.block _ (by have := ba3.lt; omega))
      have bq := ba5.set 8 (.slice ao5 mn.length c5)
      have y8 := ba5.cell 8
      have yf8 := ba5.free 8
      have hld := load_answer bq rfl
      have hst := store_row (ys := #[.int .i64 0, .int .i64 0, .string { data := #[] }, .int .i64 0, .int .i64 0, .int .i64 0, .int .i64 0, .int .i64 0, .slice ao5 mn.length c5, .int .i64 0, .int .i64 0, .int .i64 0, .int .i64 0]) (ty := 42) bq info_answer rfl (by simp [Value.oneCell'])
      have lk : W.heap.size + 2 ≤ Y.heap.size := by have := hb2'; have := hla; omega
      have Hz := Lib.hid (And.intro lk (And.intro hB5 (And.intro bq (And.intro hown5 hnil5))))
      clear lk lY hb2' hB5 bq hown5 hnil5 hb5 ba5 ba3 hB3 HSo HK HIs HAt ba hbX bc
      go_wp2_with (first | (refine wpList_load_run _ rfl (.tmp 4) 42 rfl _ hld ?_) | (refine wpList_store_run _ rfl (.tmp 4) (.tmp 64) 42 rfl _ hst ?_))
      obtain ⟨lk, hB5, bq, hown5, hnil5⟩ := Hz
      have hlen : (mn.map (·.1)).length = mn.length := List.length_map _
      exact bodyPost_ret (tell_results rfl (bq.setRow _)) rfl ⟨⟨.slice ao5 mn.length c5, rfl, by
        rw [hlen]
        exact row_base (row_same hown5 fun g hg => (setRow_heap _ _ _ _ (fun e => by have := (hown5.lt g hg).1; omega)).trans (Below.heap_setCell _ _ _ _ (fun e => by have := (hown5.lt g hg).1; have e : g = W.heap.size + 1 := e; omega))) (by omega), hnil5.trans List.map_eq_nil_iff.symm⟩, below_setRow (hB5.setCell (p := ⟨W.heap.size + 1, 8, none⟩) (by show W.heap.size ≤ W.heap.size + 1; omega) _) (by omega) _⟩
end
end Fs
end Go.Proofs.YtlnnbjgfpiefdaaGreat
