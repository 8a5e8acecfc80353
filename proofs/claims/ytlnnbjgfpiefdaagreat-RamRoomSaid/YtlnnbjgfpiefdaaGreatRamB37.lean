/- below: each kind of thing. -/
import Derived.Test.YtlnnbjgfpiefdaaGreatRamB33
import Derived.Test.YtlnnbjgfpiefdaaGreatRamB36
namespace Go.Proofs.YtlnnbjgfpiefdaaGreat
open Go.RowKit Go.Maps Go.Shelf

namespace Fs
/-- What a call that only tells comes to, beside a row of things. -/
def Told (fb : Nat) (n : Int) (nb : Nat) (s : Tree) (base : Nat) (W : World) (L : Lay) (v : Value) (l : List Thing) (a : Ans) (e : Ending) (W' : World) : Prop :=
  ∃ L' nv, e = .returned (.agg (ansC a nv)) ∧ Bel fb n nb s base W' L' v l ∧ Step W (XS L v) W' (XS L' v) ∧ OffS W' L' v W.heap.size nv a.names ∧ (nv = .slice none 0 0 ↔ a.names = [])
/-- Do, as far as it only tells. -/
def DoC (fb : Nat) (n : Int) (nb : Nat) (s : Tree) : Prop := ∀ (c : Call) (a : Ans), CallOk c → doC n s c = (s, a) → ∀ (base : Nat) (W : World) (L : Lay) (v : Value) (l : List Thing), Bel fb n nb s base W L v l →
  Calls Tryz.prog 11 #[.pointer (some ⟨fb, 0, none⟩), .agg (callC c)] W fun e W' => Told fb n nb s base W L v l a e W'
section
variable {fb : Nat} {n : Int} {nb base k : Nat} {s : Tree} {W : World} {L : Lay} {v : Value} {l : List Thing} {cs : List Tx} {i : Int}
theorem way_short (hI : Inv n k s) (hw : Way s 1 cs i) : (pathOf cs).length ≤ 140737488355328 := by
  have := path_len (hI.way_names hw)
  have := hI.way_len hw
  omega
theorem callOk_way (hI : Inv n k s) (hw : Way s 1 cs i) (q : Int) (o z : Int) (h1 : -9223372036854775808 ≤ o) (h2 : o ≤ 9223372036854775807) : CallOk ⟨q, pathOf cs, [], o, z, []⟩ :=
  ⟨h1, h2, way_short hI hw, by simp⟩
theorem info_thing7 : (Tryz.prog.info? 34).map (·.size) = some 7 := by kernel_rfl
theorem put_thing {w : World} {cs : Array Value} (hc : cs.size = 7) (h1 : cs.all (·.oneCell') = true) : ∃ Y, (Instr.storeAt 34 (.pointer (some ⟨w.heap.size, 0, none⟩)) (.agg cs)).run Tryz.prog (w.alloc (.cells #[.string { data := #[] }, .int .i64 0, .int .i64 0, .int .i64 0, .int .i64 0, .int .i64 0, .string { data := #[] }] 34)) = .ok () Y ∧ Blk Y w.heap.size cs 34 ∧ Below w.heap.size w Y ∧ Y.heap.size = w.heap.size + 1 :=
  ⟨_, store_row (ty := 34) (Blk.new _ _ _) (by rw [hc]; exact info_thing7) (by rw [hc]; rfl) h1, (Blk.new _ _ _).setRow cs, below_setRow ((Below.refl _ _).alloc (Nat.le_refl _) _) (Nat.le_refl _) _, by simp⟩
theorem load_thing {w : World} {x : Nat} {cs : Array Value} {t : TypeId} (h : Blk w x cs t) (hl : cs.size = 7) : (Instr.loadAt 34 (.pointer (some ⟨x, 0, none⟩))).run Tryz.prog w = .ok (.agg cs) w := by
  simp only [Instr.loadAt, Instr.sureAddr, Sem.run_bind, Sem.run_pure, Result.andThen]
  exact run_loadVar_row w _ _ _ cs (0, 0) _ h Tryz.underlying34 rfl (by rw [info_thing7, hl])
theorem news_thing (w : World) (t : Thing) (ty : TypeId) : ∀ j u, (thC t)[j]? = some u → (w.alloc (.cells (thC t).toArray ty)).cell? ((⟨w.heap.size, 0, none⟩ : Addr).add j) = some u := fun j u hu => by
  have := (Blk.new w (thC t).toArray ty).cell j
  have e : (⟨w.heap.size, 0, none⟩ : Addr).add j = ⟨w.heap.size, j, none⟩ := by
    simp only [Addr.add, Nat.zero_add]
    split
    · rename_i e; rw [e]
    · rfl
  rw [e, this]
  simpa using hu
set_option maxRecDepth 100000 in
set_option maxHeartbeats 8000000 in
theorem below_link (HD : DoC fb n nb s) (hI : Inv n k s) (hw : Way s 1 cs i) (hk : kindOf s i = 3) (h : Bel fb n nb s base W L v l) (hm : l.length ≤ 400) (hbase : base ≤ W.heap.size) :
    Calls Tryz.prog 17 #[.pointer (some ⟨fb, 0, none⟩), .string (mk (pathOf cs)), v] W fun e W' => Listed fb n nb s base W L v (l ++ [thing s (cs, i)]) e W' := by
  obtain ⟨ao, cp, rfl⟩ := own_shape h.row
  obtain ⟨x, hx, hxk⟩ := kindGet hk (by decide)
  have hnd := ndAt_of hx
  have hN := hI.nd i x hx
  have HL := HD _ _ (callOk_way hI hw 13 0 0 (by decide) (by decide)) (told_lstat hI hw) base W L _ l h
  rw [hnd] at HL
  unfold callC Told ansC statN at HL
  dsimp only at HL
  rw [hxk, show mk [] = { data := #[] } from rfl] at HL
  have hm' : ¬ (400 : Int) < (l.length : Int) := by omega
  rw [(hN.link hxk).2.2] at HL
  have hth : thing s (cs, i) = ⟨pathOf cs, ⟨i, 3, x.links, x.text.length, blocksOf x⟩, x.text⟩ := by
    unfold thing dataOf statN; rw [hnd, if_neg (by rw [hxk]; decide), if_pos hxk, hxk, (hN.link hxk).2.2]
  have HR := fun W L (h : Bel fb n nb s base W L (.slice ao l.length cp) l) => HD _ _ (callOk_way hI hw 11 0 0 (by decide) (by decide)) (told_link hI hw hk) base W L _ l h
  rw [hnd] at HR
  unfold callC Told ansC at HR
  dsimp only at HR
  rw [show mk [] = { data := #[] } from rfl] at HR
  have hlen : (mk x.text).size = x.text.length := mk_size x.text
  obtain ⟨ti, hi, hz0, hz1, hz2⟩ := info_parts info_thing
  rw [hth]
  have Hx := Lib.hid (And.intro hx (And.intro hxk (And.intro hnd (And.intro hN (And.intro hth hk)))))
  clear hx hxk hnd hN hth hk
  go_enter Tryz.func17, Tryz.ntmps17
  go_wp2_with fail
  refine HL.mono ?_
  rintro e w2 ⟨L2, nv, rfl, B2, T2, _, N2⟩
  obtain rfl := N2.2 trivial
  obtain ⟨Y2, hst2, ba2, hb2, hs2⟩ := put_answer (w := w2) (cs := #[.int .i64 0, .int .i64 0, .string { data := #[] }, .int .i64 i, .int .i64 3, .int .i64 x.links, .int .i64 x.text.length, .int .i64 (blocksOf x), .slice none 0 0, .int .i64 0, .int .i64 0, .int .i64 0, .int .i64 0]) rfl (by simp [Value.oneCell'])
  obtain ⟨Y3, hst3, bx3, hb3, hs3⟩ := put_thing (w := Y2) (cs := #[.string (mk (pathOf cs)), .int .i64 i, .int .i64 3, .int .i64 x.links, .int .i64 x.text.length, .int .i64 (blocksOf x), .string { data := #[] }]) rfl (by simp [Value.oneCell'])
  have a0 : Y2.cell? ⟨w2.heap.size, 0, none⟩ = some (.int .i64 0) := ba2.cell 0
  have a3 : Y2.cell? ⟨w2.heap.size, 3, none⟩ = some (.int .i64 i) := ba2.cell 3
  have a4 : Y2.cell? ⟨w2.heap.size, 4, none⟩ = some (.int .i64 3) := ba2.cell 4
  have a5 : Y2.cell? ⟨w2.heap.size, 5, none⟩ = some (.int .i64 x.links) := ba2.cell 5
  have a6 : Y2.cell? ⟨w2.heap.size, 6, none⟩ = some (.int .i64 x.text.length) := ba2.cell 6
  have a7 : Y2.cell? ⟨w2.heap.size, 7, none⟩ = some (.int .i64 (blocksOf x)) := ba2.cell 7
  have B2' := B2.below hb2
  have B3 := B2'.below hb3
  have oa2 : OffX Y2 L2 (.slice ao l.length cp) w2.heap.size #[.int .i64 0, .int .i64 0, .string { data := #[] }, .int .i64 i, .int .i64 3, .int .i64 x.links, .int .i64 x.text.length, .int .i64 (blocksOf x), .slice none 0 0, .int .i64 0, .int .i64 0, .int .i64 0, .int .i64 0] 42 := ⟨ba2, B2.offX (Nat.le_refl _)⟩
  have oa3 := oa2.below hb3
  have ox3 : OffX Y3 L2 (.slice ao l.length cp) Y2.heap.size #[.string (mk (pathOf cs)), .int .i64 i, .int .i64 3, .int .i64 x.links, .int .i64 x.text.length, .int .i64 (blocksOf x), .string { data := #[] }] 34 := ⟨bx3, B2'.offX (Nat.le_refl _)⟩
  have e4 : Y3.cell? ⟨w2.heap.size, 4, none⟩ = some (.int .i64 3) := oa3.1.cell 4
  have e6 : Y3.cell? ⟨w2.heap.size, 6, none⟩ = some (.int .i64 x.text.length) := oa3.1.cell 6
  have T3 := T2.trans ((Step.belowX (P := XS L2 (.slice ao l.length cp)) hb2).trans (Step.belowX (P := XS L2 (.slice ao l.length cp)) hb3))
  have HR3 := HR Y3 L2 B3
  clear HR HL N2
  have T2s : W.heap.size ≤ Y2.heap.size := by have := T2.size; omega
  have Hy := Lib.hid (And.intro T3 (And.intro oa3 (And.intro ox3 (And.intro hs3 hs2))))
  clear ba2 bx3 hb2 hb3 B2 B2' oa2 B3 T2 T3 oa3 ox3 hs3 hs2 h
  go_wp2_with (first | (refine wpList_store_run _ rfl (.tmp 8) (.tmp 20) 42 rfl Y2 hst2 ?_) | (refine wpList_store_run _ rfl (.tmp 9) (.tmp 33) 34 rfl Y3 hst3 ?_))
  obtain ⟨T3, oa3, ox3, hs3, hs2⟩ := Hy
  refine HR3.mono ?_
  rintro e w4 ⟨L4, nv4, rfl, B4, T4, _, N4⟩
  obtain rfl := N4.2 trivial
  obtain ⟨Y5, hst5, bb5, hb5, hs5⟩ := put_answer (w := w4) (cs := #[.int .i64 0, .int .i64 0, .string (mk x.text), .int .i64 0, .int .i64 0, .int .i64 0, .int .i64 0, .int .i64 0, .slice none 0 0, .int .i64 0, .int .i64 0, .int .i64 0, .int .i64 0]) rfl (by simp [Value.oneCell'])
  have b0 : Y5.cell? ⟨w4.heap.size, 0, none⟩ = some (.int .i64 0) := bb5.cell 0
  have b2 : Y5.cell? ⟨w4.heap.size, 2, none⟩ = some (.string (mk x.text)) := bb5.cell 2
  have oa5 := (oa3.step T4).below hb5
  have ox5 := (ox3.step T4).below hb5
  have f4 : Y5.cell? ⟨w2.heap.size, 4, none⟩ = some (.int .i64 3) := oa5.1.cell 4
  have f6 : Y5.cell? ⟨w2.heap.size, 6, none⟩ = some (.int .i64 x.text.length) := oa5.1.cell 6
  have x6 : Y5.cell? ⟨Y2.heap.size, 6, none⟩ = some (.string { data := #[] }) := ox5.1.cell 6
  have x6f := ox5.1.free 6
  have hne : w2.heap.size ≠ Y2.heap.size := by have := oa3.1.lt; omega
  have B5 := B4.below hb5
  obtain ⟨Y6, hY6⟩ : ∃ y, y = Y5.setCell ⟨Y2.heap.size, 6, none⟩ (.string (mk x.text)) := ⟨_, rfl⟩
  have hh6 : ∀ b, b ≠ Y2.heap.size → Y6.heap[b]? = Y5.heap[b]? := fun b hb => by rw [hY6]; exact Below.heap_setCell _ _ _ _ hb
  have hs6 : Y6.heap.size = Y5.heap.size := by rw [hY6]; simp
  have B6 : Bel fb n nb s base Y6 L4 (.slice ao l.length cp) l := B5.beside (by omega) fun b hb => hh6 b fun e => ox5.2 (e ▸ hb)
  have bx6 : Blk Y6 Y2.heap.size (thC ⟨pathOf cs, ⟨i, 3, x.links, x.text.length, blocksOf x⟩, x.text⟩).toArray 34 := by rw [hY6]; exact ox5.1.set 6 (.string (mk x.text))
  have oa6 : OffX Y6 L4 (.slice ao l.length cp) w2.heap.size _ 42 := ⟨oa5.1.same (hh6 _ hne), oa5.2⟩
  have T5 := T3.trans (T4.trans (Step.belowX (P := XS L4 (.slice ao l.length cp)) hb5))
  have T6 := T5.beside (W'' := Y6) (by rw [hY6]; rfl) (by rw [hY6]; rfl) (by rw [hY6]; rfl) (by omega) (fun k hk => hh6 k (by have := T2s; omega))
  have hal := (Below.refl Y6.heap.size Y6).alloc (Nat.le_refl _) (.cells (thC ⟨pathOf cs, ⟨i, 3, x.links, x.text.length, blocksOf x⟩, x.text⟩).toArray 34)
  have hld := load_thing bx6 rfl
  have hOa := B6.row.alloc (.cells (thC ⟨pathOf cs, ⟨i, 3, x.links, x.text.length, blocksOf x⟩, x.text⟩).toArray 34)
  have hnews := news_thing Y6 ⟨pathOf cs, ⟨i, 3, x.links, x.text.length, blocksOf x⟩, x.text⟩ 34
  have hbs : base ≤ (Y6.alloc (.cells (thC ⟨pathOf cs, ⟨i, 3, x.links, x.text.length, blocksOf x⟩, x.text⟩).toArray 34)).heap.size := by
    have := T6.size; rw [World.size_alloc]; omega
  have B6a := B6.below hal
  have oa6a := oa6.below hal
  have T6a := T6.trans (Step.belowX (P := XS L4 (.slice ao l.length cp)) hal)
  have Hz := Lib.hid (And.intro T6a (And.intro B6a oa6a))
  clear T6a B6a oa6a T6 hal T5 B6 oa6 B5 oa5 ox5 T4 B4 T3 oa3 ox3 hs3 hs2 hh6 hs6 bx6 hs5 hb5 bb5
  unfold thC at hld hOa hnews hbs
  rw [hY6] at hld hOa hnews hbs
  dsimp only at hld hOa hnews hbs
  rw [show (Y5.setCell ⟨Y2.heap.size, 6, none⟩ (.string (mk x.text))).heap.size = Y5.heap.size by simp] at hnews
  go_wp2_with (first | (refine wpList_store_run _ rfl (.tmp 12) (.tmp 78) 42 rfl Y5 hst5 ?_) | (refine wpList_load_run _ rfl (.tmp 9) 34 rfl _ hld ?_) | (at_builtin; refine wpList_append_own_at _ rfl (.tmp 95) (.tmp 97) 25 rfl base 34 ti _ 7 72 Tryz.underlying25 hi hz0 hz1 hz2 rfl (by decide) (.slice ao l.length cp) l.length (thsC l) rfl hOa ⟨_, 0, none⟩ 1 1 (thC ⟨pathOf cs, ⟨i, 3, x.links, x.text.length, blocksOf x⟩, x.text⟩) rfl rfl hnews (thC_one _) (by unfold maxLen; omega) (by omega) hbs ?_; intro v7 w7 hown7 hg7 _ hloc7; obtain ⟨T6a, B6a, oa6a⟩ := Hz; obtain ⟨B7, T7⟩ := B6a.grown (v' := v7) hown7 (by rw [hY6]; exact hg7) (by rw [hY6]; exact hloc7); have oa7 := oa6a.step T7; have g4 : w7.cell? ⟨w2.heap.size, 4, none⟩ = some (.int .i64 3) := oa7.1.cell 4; have Hz := Lib.hid (And.intro (T6a.trans T7) (And.intro B7 oa7)); clear T6a B6a oa6a T7 B7 oa7 hg7 hown7 hloc7))
  go_ret2
  obtain ⟨T7, B7, _⟩ := Hz
  exact ⟨L4, v7, rfl, B7, T7⟩
/-- The first pieces that are read of a file. -/
def chunks (x : Nd) (j : Nat) : Tx := (List.range j).flatMap fun j => readN x ((j * 16384 : Nat) : Int) 16384
theorem chunks_succ (x : Nd) (j : Nat) : chunks x (j + 1) = chunks x j ++ readN x ((j * 16384 : Nat) : Int) 16384 := by unfold chunks; rw [List.range_succ, List.flatMap_append]; simp
theorem readN_len (x : Nd) (off : Int) : (readN x off 16384).length ≤ 16384 := by
  unfold readN
  split
  · simp
  · rw [List.length_map, List.length_range]; omega
theorem chunks_len (x : Nd) : ∀ j, (chunks x j).length ≤ 16384 * j
  | 0 => by simp [chunks]
  | j + 1 => by
    have h1 := chunks_len x j
    have h2 := readN_len x ((j * 16384 : Nat) : Int)
    rw [chunks_succ, List.length_append]; omega
theorem mk_add' (a b : List UInt8) : mk a ++ mk b = mk (a ++ b) := (ByteArray.mk_append_mk _ _).trans (by simp [mk])
set_option maxRecDepth 100000 in
set_option maxHeartbeats 8000000 in
theorem below_file (HD : DoC fb n nb s) (hI : Inv n k s) (hw : Way s 1 cs i) (hk : kindOf s i = 1) (h : Bel fb n nb s base W L v l) (hm : l.length ≤ 400) (hbase : base ≤ W.heap.size) :
    Calls Tryz.prog 17 #[.pointer (some ⟨fb, 0, none⟩), .string (mk (pathOf cs)), v] W fun e W' => Listed fb n nb s base W L v (l ++ [thing s (cs, i)]) e W' := by
  obtain ⟨ao, cp, rfl⟩ := own_shape h.row
  obtain ⟨x, hx, hxk⟩ := kindGet hk (by decide)
  have hnd := ndAt_of hx
  have hN := hI.nd i x hx
  have HL := HD _ _ (callOk_way hI hw 13 0 0 (by decide) (by decide)) (told_lstat hI hw) base W L _ l h
  rw [hnd] at HL
  unfold callC Told ansC statN at HL
  dsimp only at HL
  rw [hxk, show mk [] = { data := #[] } from rfl] at HL
  have hm' : ¬ (400 : Int) < (l.length : Int) := by omega
  obtain ⟨hsz1, hsz2⟩ := (hN.file hxk).2.2.2.2
  obtain ⟨J, hJ⟩ : ∃ J, J = min 20 ((x.size.toNat + 16383) / 16384) := ⟨_, rfl⟩
  have hth : thing s (cs, i) = ⟨pathOf cs, ⟨i, 1, x.links, x.size, blocksOf x⟩, chunks x J⟩ := by
    unfold thing dataOf statN chunks; rw [hnd, if_pos hxk, hxk, hJ]
  have HR := Lib.hid (fun (o : Int) (h0 : 0 ≤ o) (h1 : o ≤ 1000000000) W L (h : Bel fb n nb s base W L (.slice ao l.length cp) l) => HD _ _ (callOk_way hI hw 3 o 16384 (by omega) (by omega)) (told_read hI hw hk h0) base W L _ l h)
  rw [hnd] at HR
  unfold callC Told ansC at HR
  dsimp only at HR
  rw [show mk [] = { data := #[] } from rfl] at HR
  obtain ⟨ti, hi, hz0, hz1, hz2⟩ := info_parts info_thing
  rw [hth]
  have Hx := Lib.hid (And.intro hx (And.intro hxk (And.intro hnd (And.intro hN (And.intro hth hk)))))
  clear hx hxk hnd hN hth hk
  go_enter Tryz.func17, Tryz.ntmps17
  go_wp2_with fail
  refine HL.mono ?_
  rintro e w2 ⟨L2, nv, rfl, B2, T2, _, N2⟩
  obtain rfl := N2.2 trivial
  obtain ⟨Y2, hst2, ba2, hb2, hs2⟩ := put_answer (w := w2) (cs := #[.int .i64 0, .int .i64 0, .string { data := #[] }, .int .i64 i, .int .i64 1, .int .i64 x.links, .int .i64 x.size, .int .i64 (blocksOf x), .slice none 0 0, .int .i64 0, .int .i64 0, .int .i64 0, .int .i64 0]) rfl (by simp [Value.oneCell'])
  obtain ⟨Y3, hst3, bx3, hb3, hs3⟩ := put_thing (w := Y2) (cs := #[.string (mk (pathOf cs)), .int .i64 i, .int .i64 1, .int .i64 x.links, .int .i64 x.size, .int .i64 (blocksOf x), .string { data := #[] }]) rfl (by simp [Value.oneCell'])
  have a0 : Y2.cell? ⟨w2.heap.size, 0, none⟩ = some (.int .i64 0) := ba2.cell 0
  have a3 : Y2.cell? ⟨w2.heap.size, 3, none⟩ = some (.int .i64 i) := ba2.cell 3
  have a4 : Y2.cell? ⟨w2.heap.size, 4, none⟩ = some (.int .i64 1) := ba2.cell 4
  have a5 : Y2.cell? ⟨w2.heap.size, 5, none⟩ = some (.int .i64 x.links) := ba2.cell 5
  have a6 : Y2.cell? ⟨w2.heap.size, 6, none⟩ = some (.int .i64 x.size) := ba2.cell 6
  have a7 : Y2.cell? ⟨w2.heap.size, 7, none⟩ = some (.int .i64 (blocksOf x)) := ba2.cell 7
  have B2' := B2.below hb2
  have B3 := B2'.below hb3
  have oa2 : OffX Y2 L2 (.slice ao l.length cp) w2.heap.size #[.int .i64 0, .int .i64 0, .string { data := #[] }, .int .i64 i, .int .i64 1, .int .i64 x.links, .int .i64 x.size, .int .i64 (blocksOf x), .slice none 0 0, .int .i64 0, .int .i64 0, .int .i64 0, .int .i64 0] 42 := ⟨ba2, B2.offX (Nat.le_refl _)⟩
  have oa3 := oa2.below hb3
  have ox3 : OffX Y3 L2 (.slice ao l.length cp) Y2.heap.size #[.string (mk (pathOf cs)), .int .i64 i, .int .i64 1, .int .i64 x.links, .int .i64 x.size, .int .i64 (blocksOf x), .string { data := #[] }] 34 := ⟨bx3, B2'.offX (Nat.le_refl _)⟩
  have e4 : Y3.cell? ⟨w2.heap.size, 4, none⟩ = some (.int .i64 1) := oa3.1.cell 4
  have e6 : Y3.cell? ⟨w2.heap.size, 6, none⟩ = some (.int .i64 x.size) := oa3.1.cell 6
  have T3 := T2.trans ((Step.belowX (P := XS L2 (.slice ao l.length cp)) hb2).trans (Step.belowX (P := XS L2 (.slice ao l.length cp)) hb3))
  have T2s : W.heap.size ≤ Y2.heap.size := by have := T2.size; omega
  have hne : w2.heap.size ≠ Y2.heap.size := by omega
  have Hy := Lib.hid (And.intro T3 (And.intro oa3 (And.intro ox3 (And.intro hs3 (And.intro hs2 B3)))))
  clear HL N2 ba2 bx3 hb2 hb3 B2 B2' oa2 B3 T2 T3 oa3 ox3 hs3 hs2 h
  go_wp2_with (first | (refine wpList_store_run _ rfl (.tmp 8) (.tmp 20) 42 rfl Y2 hst2 ?_) | (refine wpList_store_run _ rfl (.tmp 9) (.tmp 33) 34 rfl Y3 hst3 ?_))
  go_loopw [10] (fun iv wr => ∃ (j : Nat) (o : Int) (Lr : Lay), iv = .int .i64 o ∧ Hid (o = ((j * 16384 : Nat) : Int)) ∧ j ≤ J ∧ Bel fb n nb s base wr Lr (.slice ao l.length cp) l ∧ Step W (XS L (.slice ao l.length cp)) wr (XS Lr (.slice ao l.length cp)) ∧ OffX wr Lr (.slice ao l.length cp) w2.heap.size #[.int .i64 0, .int .i64 0, .string { data := #[] }, .int .i64 i, .int .i64 1, .int .i64 x.links, .int .i64 x.size, .int .i64 (blocksOf x), .slice none 0 0, .int .i64 0, .int .i64 0, .int .i64 0, .int .i64 0] 42 ∧ OffX wr Lr (.slice ao l.length cp) Y2.heap.size #[.string (mk (pathOf cs)), .int .i64 i, .int .i64 1, .int .i64 x.links, .int .i64 x.size, .int .i64 (blocksOf x), .string (mk (chunks x j))] 34) (fun iv _ => (J * 16384 - intOf iv).toNat)
  case atStart =>
    obtain ⟨T3, oa3, ox3, hs3, hs2, B3⟩ := Hy
    exact ⟨0, 0, L2, rfl, rfl, Nat.zero_le _, B3, T3, oa3, ox3⟩
  case round =>
    obtain ⟨j, o, Lr, rfl, ho, hj, Br, Tr, oar, oxr⟩ := hrel
    have s6 : wr.cell? ⟨w2.heap.size, 6, none⟩ = some (.int .i64 x.size) := oar.1.cell 6
    have s4 : wr.cell? ⟨w2.heap.size, 4, none⟩ = some (.int .i64 1) := oar.1.cell 4
    by_cases hlt : j < J
    · have hc1 : o < x.size := by have ho' : o = ((j * 16384 : Nat) : Int) := ho; omega
      have hc2 : o < 327680 := by have ho' : o = ((j * 16384 : Nat) : Int) := ho; omega
      have hc0 : 0 ≤ o := by have ho' : o = ((j * 16384 : Nat) : Int) := ho; omega
      have HR' := HR
      unfold Hid at HR'
      have HR'' := HR' o hc0 (by omega) wr Lr Br
      clear HR'
      have hwr : IntKind.i64.wrap (o + 16384) = o + 16384 := IntWalk.i64_in _ (by omega)
      have hadd : mk (chunks x j) ++ mk (readN x o 16384) = mk (chunks x (j + 1)) := by
        have ho' : o = ((j * 16384 : Nat) : Int) := ho
        rw [mk_add', chunks_succ, ho']
      have hlen : (mk (readN x o 16384)).size = (readN x o 16384).length := mk_size _
      have hbig : ¬ 9223372036854775807 < (mk (chunks x j)).size + (readN x o 16384).length := by
        have h1 := chunks_len x j
        have h2 := readN_len x o
        have h3 : (mk (chunks x j)).size = (chunks x j).length := mk_size _
        omega
      generalize readN x o 16384 = tx at *
      have Hr := Lib.hid (And.intro Tr (And.intro oar (And.intro oxr Br)))
      clear Tr oar oxr Br
      go_wp2_with fail
      refine HR''.mono ?_
      rintro e w4 ⟨L4, nv4, rfl, B4, T4, _, N4⟩
      obtain rfl := N4.2 trivial
      obtain ⟨Y5, hst5, bb5, hb5, hs5⟩ := put_answer (w := w4) (cs := #[.int .i64 0, .int .i64 tx.length, .string (mk tx), .int .i64 0, .int .i64 0, .int .i64 0, .int .i64 0, .int .i64 0, .slice none 0 0, .int .i64 0, .int .i64 0, .int .i64 0, .int .i64 0]) rfl (by simp [Value.oneCell'])
      obtain ⟨Tr, oar, oxr, Br⟩ := Hr
      have b0 : Y5.cell? ⟨w4.heap.size, 0, none⟩ = some (.int .i64 0) := bb5.cell 0
      have b1 : Y5.cell? ⟨w4.heap.size, 1, none⟩ = some (.int .i64 tx.length) := bb5.cell 1
      have b2 : Y5.cell? ⟨w4.heap.size, 2, none⟩ = some (.string (mk tx)) := bb5.cell 2
      have oa5 := (oar.step T4).below hb5
      have ox5 := (oxr.step T4).below hb5
      have x6 : Y5.cell? ⟨Y2.heap.size, 6, none⟩ = some (.string (mk (chunks x j))) := ox5.1.cell 6
      have x6f := ox5.1.free 6
      have B5 := B4.below hb5
      have T5 := Tr.trans (T4.trans (Step.belowX (P := XS L4 (.slice ao l.length cp)) hb5))
      have hl5 := ox5.1.lt
      have Hr := Lib.hid (And.intro T5 (And.intro oa5 (And.intro ox5 (And.intro B5 hl5))))
      clear Tr oar oxr Br T4 B4 N4 bb5 hb5 hs5 oa5 ox5 B5 T5 hl5
      go_wp2_with (refine wpList_store_run _ rfl (.tmp 11) (.tmp 54) 42 rfl Y5 hst5 ?_)
      go_roundw
      case rel =>
        obtain ⟨T5, oa5, ox5, B5, hl5⟩ := Hr
        have hh6 : ∀ b, b ≠ Y2.heap.size → (Y5.setCell ⟨Y2.heap.size, 6, none⟩ (.string (mk (chunks x (j + 1))))).heap[b]? = Y5.heap[b]? := fun b hb => Below.heap_setCell _ _ _ _ hb
        refine ⟨j + 1, o + 16384, L4, rfl, ?_, hlt, B5.beside (by simp) fun b hb => hh6 b fun e => ox5.2 (e ▸ hb), T5.beside rfl rfl rfl (by simp) (fun k hk => hh6 k (by omega)), ⟨oa5.1.same (hh6 _ hne), oa5.2⟩, ox5.1.set 6 _, ox5.2⟩
        have ho' : o = ((j * 16384 : Nat) : Int) := ho
        show o + 16384 = (((j + 1) * 16384 : Nat) : Int)
        omega
      case measure => simp only [intOf]; omega
    · have hjJ : j = J := by omega
      subst hjJ
      have bxT : Blk wr Y2.heap.size (thC ⟨pathOf cs, ⟨i, 1, x.links, x.size, blocksOf x⟩, chunks x j⟩).toArray 34 := oxr.1
      have hcc : x.size ≤ o ∨ (o < x.size ∧ 327680 ≤ o) := by have ho' : o = ((j * 16384 : Nat) : Int) := ho; omega
      rcases hcc with hc1 | ⟨hc1, hc2⟩
      · have hc1' : ¬ o < x.size := by omega
        clear hc1 hJ
        have hal := (Below.refl wr.heap.size wr).alloc (Nat.le_refl _) (.cells (thC ⟨pathOf cs, ⟨i, 1, x.links, x.size, blocksOf x⟩, chunks x j⟩).toArray 34)
        have hld := load_thing bxT rfl
        have hOa := Br.row.alloc (.cells (thC ⟨pathOf cs, ⟨i, 1, x.links, x.size, blocksOf x⟩, chunks x j⟩).toArray 34)
        have hnews := news_thing wr ⟨pathOf cs, ⟨i, 1, x.links, x.size, blocksOf x⟩, chunks x j⟩ 34
        have hbs : base ≤ (wr.alloc (.cells (thC ⟨pathOf cs, ⟨i, 1, x.links, x.size, blocksOf x⟩, chunks x j⟩).toArray 34)).heap.size := by
          have := Tr.size; rw [World.size_alloc]; omega
        have B6a := Br.below hal
        have oa6a := oar.below hal
        have T6a := Tr.trans (Step.belowX (P := XS Lr (.slice ao l.length cp)) hal)
        have Hz := Lib.hid (And.intro T6a (And.intro B6a oa6a))
        clear T6a B6a oa6a Tr hal Br oar oxr bxT
        unfold thC at hld hOa hnews hbs
        dsimp only at hld hOa hnews hbs
        go_wp2_with (first | (refine wpList_load_run _ rfl (.tmp 9) 34 rfl _ hld ?_) | (at_builtin; refine wpList_append_own_at _ rfl (.tmp 95) (.tmp 97) 25 rfl base 34 ti _ 7 72 Tryz.underlying25 hi hz0 hz1 hz2 rfl (by decide) (.slice ao l.length cp) l.length (thsC l) rfl hOa ⟨_, 0, none⟩ 1 1 (thC ⟨pathOf cs, ⟨i, 1, x.links, x.size, blocksOf x⟩, chunks x j⟩) rfl rfl hnews (thC_one _) (by unfold maxLen; omega) (by omega) hbs ?_; intro v7 w7 hown7 hg7 _ hloc7; obtain ⟨T6a, B6a, oa6a⟩ := Hz; obtain ⟨B7, T7⟩ := B6a.grown (v' := v7) hown7 hg7 hloc7; have oa7 := oa6a.step T7; have g4 : w7.cell? ⟨w2.heap.size, 4, none⟩ = some (.int .i64 1) := oa7.1.cell 4; have Hz := Lib.hid (And.intro (T6a.trans T7) (And.intro B7 oa7)); clear T6a B6a oa6a T7 B7 oa7 hg7 hown7 hloc7))
        go_ret2
        obtain ⟨T7, B7, _⟩ := Hz
        exact ⟨Lr, v7, rfl, B7, T7⟩
      · have hc2' : ¬ o < 327680 := by omega
        clear hc2 hJ
        have hal := (Below.refl wr.heap.size wr).alloc (Nat.le_refl _) (.cells (thC ⟨pathOf cs, ⟨i, 1, x.links, x.size, blocksOf x⟩, chunks x j⟩).toArray 34)
        have hld := load_thing bxT rfl
        have hOa := Br.row.alloc (.cells (thC ⟨pathOf cs, ⟨i, 1, x.links, x.size, blocksOf x⟩, chunks x j⟩).toArray 34)
        have hnews := news_thing wr ⟨pathOf cs, ⟨i, 1, x.links, x.size, blocksOf x⟩, chunks x j⟩ 34
        have hbs : base ≤ (wr.alloc (.cells (thC ⟨pathOf cs, ⟨i, 1, x.links, x.size, blocksOf x⟩, chunks x j⟩).toArray 34)).heap.size := by
          have := Tr.size; rw [World.size_alloc]; omega
        have B6a := Br.below hal
        have oa6a := oar.below hal
        have T6a := Tr.trans (Step.belowX (P := XS Lr (.slice ao l.length cp)) hal)
        have Hz := Lib.hid (And.intro T6a (And.intro B6a oa6a))
        clear T6a B6a oa6a Tr hal Br oar oxr bxT
        unfold thC at hld hOa hnews hbs
        dsimp only at hld hOa hnews hbs
        go_wp2_with (first | (refine wpList_load_run _ rfl (.tmp 9) 34 rfl _ hld ?_) | (at_builtin; refine wpList_append_own_at _ rfl (.tmp 95) (.tmp 97) 25 rfl base 34 ti _ 7 72 Tryz.underlying25 hi hz0 hz1 hz2 rfl (by decide) (.slice ao l.length cp) l.length (thsC l) rfl hOa ⟨_, 0, none⟩ 1 1 (thC ⟨pathOf cs, ⟨i, 1, x.links, x.size, blocksOf x⟩, chunks x j⟩) rfl rfl hnews (thC_one _) (by unfold maxLen; omega) (by omega) hbs ?_; intro v7 w7 hown7 hg7 _ hloc7; obtain ⟨T6a, B6a, oa6a⟩ := Hz; obtain ⟨B7, T7⟩ := B6a.grown (v' := v7) hown7 hg7 hloc7; have oa7 := oa6a.step T7; have g4 : w7.cell? ⟨w2.heap.size, 4, none⟩ = some (.int .i64 1) := oa7.1.cell 4; have Hz := Lib.hid (And.intro (T6a.trans T7) (And.intro B7 oa7)); clear T6a B6a oa6a T7 B7 oa7 hg7 hown7 hloc7))
        go_ret2
        obtain ⟨T7, B7, _⟩ := Hz
        exact ⟨Lr, v7, rfl, B7, T7⟩
end
end Fs
end Go.Proofs.YtlnnbjgfpiefdaaGreat
