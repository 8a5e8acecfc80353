/- below: directories. -/
import Derived.Test.YtlnnbjgfpiefdaaGreatRamB37
import Derived.Laws.Cover1
namespace Go.Proofs.YtlnnbjgfpiefdaaGreat
open Go.RowKit Go.Maps Go.Shelf

namespace Fs
/-- The names of a row, cell by cell. -/
theorem strs_cell {w : World} {base g cap : Nat} {e : TypeId} {ts : List Tx} (h : w.ownsRow base e 1 (.slice (some ⟨g, 0, none⟩) ts.length cap) ts.length (strsV ts)) {j : Nat} {t : Tx} (hj : ts[j]? = some t) : w.cell? ⟨g, j, none⟩ = some (.string (mk t)) := by
  have hl : j < ts.length := (List.getElem?_eq_some_iff.1 hj).1
  rw [h.cellAt j (by omega)]
  unfold strsV
  rw [List.getElem?_map, hj]; rfl
theorem strs_shape {w : World} {base : Nat} {e : TypeId} {v : Value} {ts : List Tx} (h : w.ownsRow base e 1 v ts.length (strsV ts)) (hne : ts ≠ []) : ∃ g cap, v = .slice (some ⟨g, 0, none⟩) ts.length cap := by
  rcases h.2 with ⟨_, h2⟩ | ⟨g, cap, _, h1, _⟩
  · exact absurd (List.eq_nil_of_length_eq_zero h2) hne
  · exact ⟨g, cap, h1⟩
theorem less_before : ∀ x y : List UInt8, Op.bytesLess x y = bytesBefore x y
  | [], [] => rfl
  | _ :: _, [] => rfl
  | [], _ :: _ => rfl
  | a :: x, b :: y => by rw [Op.bytesLess, bytesBefore, less_before x y]
theorem rise_at {m : Al Tx Int} (h : Rising m) {j : Nat} {a b : Tx × Int} (ha : m[j]? = some a) (hb : m[j + 1]? = some b) : bytesBefore a.1 b.1 = true := by
  obtain ⟨h1, e1⟩ := List.getElem?_eq_some_iff.1 ha
  obtain ⟨h2, e2⟩ := List.getElem?_eq_some_iff.1 hb
  have := List.pairwise_iff_getElem.1 h j (j + 1) h1 h2 (by omega)
  rw [e1, e2] at this
  exact this
/-- What is listed behind so many names. -/
def tail (s : Tree) (K : Nat) (cs : List Tx) (i : Int) (j : Nat) : List Thing := ((namesOf s i).take j).flatMap fun e => (lst s K (cs ++ [e.1]) e.2).map (thing s)
theorem tail_succ {s : Tree} {K : Nat} {cs : List Tx} {i : Int} {j : Nat} {e : Tx × Int} (h : (namesOf s i)[j]? = some e) : tail s K cs i (j + 1) = tail s K cs i j ++ (lst s K (cs ++ [e.1]) e.2).map (thing s) := by
  unfold tail
  rw [List.take_add_one, h, List.flatMap_append]
  simp
theorem tail_all {s : Tree} {K : Nat} {cs : List Tx} {i : Int} (hk : kindOf s i = 2) : (lst s (K + 1) cs i).map (thing s) = thing s (cs, i) :: tail s K cs i (namesOf s i).length := by
  rw [lst_succ, if_pos hk, List.map_cons]
  unfold tail
  rw [List.take_length, List.map_flatMap]
theorem flat_len {α β : Type} (f : α → List β) (hf : ∀ a, 0 < (f a).length) : ∀ l : List α, l.length ≤ (l.flatMap f).length
  | [] => by simp
  | a :: r => by
    have h1 := flat_len f hf r
    have h2 := hf a
    rw [List.flatMap_cons, List.length_append, List.length_cons]; omega
theorem names_le {s : Tree} {K : Nat} {cs : List Tx} {i : Int} (hk : kindOf s i = 2) : (namesOf s i).length ≤ (lst s (K + 1) cs i).length := by
  rw [lst_succ, if_pos hk, List.length_cons]
  exact Nat.le_succ_of_le (flat_len _ (fun e => by unfold lst; simp) _)
theorem tail_len {s : Tree} {K : Nat} {cs : List Tx} {i : Int} (hk : kindOf s i = 2) {j : Nat} {e : Tx × Int} (h : (namesOf s i)[j]? = some e) : 1 + (tail s K cs i j).length + (lst s K (cs ++ [e.1]) e.2).length ≤ (lst s (K + 1) cs i).length := by
  have h1 : ((lst s (K + 1) cs i).map (thing s)).length = (lst s (K + 1) cs i).length := List.length_map _
  rw [← h1, tail_all hk, List.length_cons]
  have h2 : (tail s K cs i (namesOf s i).length) = tail s K cs i (j + 1) ++ ((namesOf s i).drop (j + 1)).flatMap fun e => (lst s K (cs ++ [e.1]) e.2).map (thing s) := by
    unfold tail
    rw [List.take_length, ← List.flatMap_append, List.take_append_drop]
  rw [h2, tail_succ h, List.length_append, List.length_append, List.length_map]
  omega
theorem path_ne {cs : List Tx} (h : ∀ c ∈ cs, NameOk c) (hr : cs ≠ []) : pathOf cs ≠ [47] := by
  unfold pathOf
  rw [if_neg hr]
  obtain ⟨x, r, rfl⟩ := List.exists_cons_of_ne_nil hr
  intro c
  rw [List.flatMap_cons] at c
  simp only [List.cons_append, List.cons.injEq, true_and, List.append_eq_nil_iff] at c
  exact (h x (by simp)).ne c.1
section
variable {fb : Nat} {n : Int} {nb base k : Nat} {s : Tree} {W : World} {L : Lay} {v : Value} {l : List Thing} {cs : List Tx} {i : Int}
set_option maxRecDepth 100000 in
set_option maxHeartbeats 8000000 in
theorem below_dir_root_none (HD : DoC fb n nb s) (hI : Inv n k s) (hw : Way s 1 cs i) (hk : kindOf s i = 2) (h : Bel fb n nb s base W L v l) {K : Nat} (hm : l.length + (lst s (K + 1) cs i).length ≤ 400) (hbase : base ≤ W.heap.size) (hr : cs = []) (he : namesOf s i = []) :
    Calls Tryz.prog 17 #[.pointer (some ⟨fb, 0, none⟩), .string (mk (pathOf cs)), v] W fun e W' => Listed fb n nb s base W L v (l ++ (lst s (K + 1) cs i).map (thing s)) e W' := by
  have hml : l.length < 400 := by have : 0 < (lst s (K + 1) cs i).length := by unfold lst; simp
                                  omega
  obtain ⟨ao, cp, rfl⟩ := own_shape h.row
  obtain ⟨x, hx, hxk⟩ := kindGet hk (by decide)
  have hnd := ndAt_of hx
  have hN := hI.nd i x hx
  have HL := HD _ _ (callOk_way hI hw 13 0 0 (by decide) (by decide)) (told_lstat hI hw) base W L _ l h
  rw [hnd] at HL
  unfold callC Told ansC statN at HL
  dsimp only at HL
  rw [hxk, show mk [] = { data := #[] } from rfl] at HL
  have hm' : ¬ (400 : Int) < (l.length : Int) := by omega
  have hnl : (lst s (K + 1) cs i).length ≤ 400 := by omega
  have hth : thing s (cs, i) = ⟨pathOf cs, ⟨i, 2, x.links, x.size, blocksOf x⟩, []⟩ := by
    unfold thing dataOf statN; rw [hnd, if_neg (by rw [hxk]; decide), if_neg (by rw [hxk]; decide), hxk]
  rw [tail_all hk, hth]
  have HR := Lib.hid (fun W L v l (h : Bel fb n nb s base W L v l) => HD _ _ (callOk_way hI hw 14 0 0 (by decide) (by decide)) (told_dir hI hw hk) base W L v l h)
  unfold callC Told ansC at HR
  dsimp only at HR
  rw [show mk [] = { data := #[] } from rfl] at HR
  obtain ⟨ti, hi, hz0, hz1, hz2⟩ := info_parts info_thing
  have hpo : pathOf cs = [47] := by rw [hr]; rfl
  have hq1 : ((mk (pathOf cs)).toList == [47]) = true := by rw [Pw.mk_toList, hpo]; rfl
  have Hx := Lib.hid (And.intro hx (And.intro hxk (And.intro hnd (And.intro hN (And.intro hth (And.intro hk (And.intro hr (And.intro he hpo))))))))
  clear hx hxk hnd hN hth hk hr he hpo
  go_enter Tryz.func17, Tryz.ntmps17
  go_wp2_with fail
  refine HL.mono ?_
  rintro e w2 ⟨L2, nv, rfl, B2, T2, _, N2⟩
  obtain rfl := N2.2 trivial
  obtain ⟨Y2, hst2, ba2, hb2, hs2⟩ := put_answer (w := w2) (cs := #[.int .i64 0, .int .i64 0, .string { data := #[] }, .int .i64 i, .int .i64 2, .int .i64 x.links, .int .i64 x.size, .int .i64 (blocksOf x), .slice none 0 0, .int .i64 0, .int .i64 0, .int .i64 0, .int .i64 0]) rfl (by simp [Value.oneCell'])
  obtain ⟨Y3, hst3, bx3, hb3, hs3⟩ := put_thing (w := Y2) (cs := #[.string (mk (pathOf cs)), .int .i64 i, .int .i64 2, .int .i64 x.links, .int .i64 x.size, .int .i64 (blocksOf x), .string { data := #[] }]) rfl (by simp [Value.oneCell'])
  have a0 : Y2.cell? ⟨w2.heap.size, 0, none⟩ = some (.int .i64 0) := ba2.cell 0
  have a3 : Y2.cell? ⟨w2.heap.size, 3, none⟩ = some (.int .i64 i) := ba2.cell 3
  have a4 : Y2.cell? ⟨w2.heap.size, 4, none⟩ = some (.int .i64 2) := ba2.cell 4
  have a5 : Y2.cell? ⟨w2.heap.size, 5, none⟩ = some (.int .i64 x.links) := ba2.cell 5
  have a6 : Y2.cell? ⟨w2.heap.size, 6, none⟩ = some (.int .i64 x.size) := ba2.cell 6
  have a7 : Y2.cell? ⟨w2.heap.size, 7, none⟩ = some (.int .i64 (blocksOf x)) := ba2.cell 7
  have B2' := B2.below hb2
  have B3 := B2'.below hb3
  have oa2 : OffX Y2 L2 (.slice ao l.length cp) w2.heap.size #[.int .i64 0, .int .i64 0, .string { data := #[] }, .int .i64 i, .int .i64 2, .int .i64 x.links, .int .i64 x.size, .int .i64 (blocksOf x), .slice none 0 0, .int .i64 0, .int .i64 0, .int .i64 0, .int .i64 0] 42 := ⟨ba2, B2.offX (Nat.le_refl _)⟩
  have oa3 := oa2.below hb3
  have ox3 : OffX Y3 L2 (.slice ao l.length cp) Y2.heap.size #[.string (mk (pathOf cs)), .int .i64 i, .int .i64 2, .int .i64 x.links, .int .i64 x.size, .int .i64 (blocksOf x), .string { data := #[] }] 34 := ⟨bx3, B2'.offX (Nat.le_refl _)⟩
  have e4 : Y3.cell? ⟨w2.heap.size, 4, none⟩ = some (.int .i64 2) := oa3.1.cell 4
  have e6 : Y3.cell? ⟨w2.heap.size, 6, none⟩ = some (.int .i64 x.size) := oa3.1.cell 6
  have T3 := T2.trans ((Step.belowX (P := XS L2 (.slice ao l.length cp)) hb2).trans (Step.belowX (P := XS L2 (.slice ao l.length cp)) hb3))
  have T2s : W.heap.size ≤ Y2.heap.size := by have := T2.size; omega
  have Br := B3
  have oar := oa3
  have Tr := T3
  have bxT : Blk Y3 Y2.heap.size (thC ⟨pathOf cs, ⟨i, 2, x.links, x.size, blocksOf x⟩, []⟩).toArray 34 := bx3
  clear HL N2 ba2 bx3 hb2 hb3 B2 B2' oa2 B3 T2 T3 oa3 ox3 hs3 hs2 h
  have hal := (Below.refl Y3.heap.size Y3).alloc (Nat.le_refl _) (.cells (thC ⟨pathOf cs, ⟨i, 2, x.links, x.size, blocksOf x⟩, []⟩).toArray 34)
  have hld := load_thing bxT rfl
  have hOa := Br.row.alloc (.cells (thC ⟨pathOf cs, ⟨i, 2, x.links, x.size, blocksOf x⟩, []⟩).toArray 34)
  have hnews := news_thing Y3 ⟨pathOf cs, ⟨i, 2, x.links, x.size, blocksOf x⟩, []⟩ 34
  have hbs : base ≤ (Y3.alloc (.cells (thC ⟨pathOf cs, ⟨i, 2, x.links, x.size, blocksOf x⟩, []⟩).toArray 34)).heap.size := by
    have := Tr.size; rw [World.size_alloc]; omega
  have B6a := Br.below hal
  have oa6a := oar.below hal
  have T6a := Tr.trans (Step.belowX (P := XS L2 (.slice ao l.length cp)) hal)
  have Hz := Lib.hid (And.intro T6a (And.intro B6a oa6a))
  clear T6a B6a oa6a Tr hal Br oar bxT
  unfold thC at hld hOa hnews hbs
  dsimp only at hld hOa hnews hbs
  go_wp2_with (first | (refine wpList_store_run _ rfl (.tmp 8) (.tmp 20) 42 rfl Y2 hst2 ?_) | (refine wpList_store_run _ rfl (.tmp 9) (.tmp 33) 34 rfl Y3 hst3 ?_) | (refine wpList_load_run _ rfl (.tmp 9) 34 rfl _ hld ?_) | (at_builtin; refine wpList_append_own_at _ rfl (.tmp 95) (.tmp 97) 25 rfl base 34 ti _ 7 72 Tryz.underlying25 hi hz0 hz1 hz2 rfl (by decide) (.slice ao l.length cp) l.length (thsC l) rfl hOa ⟨_, 0, none⟩ 1 1 (thC ⟨pathOf cs, ⟨i, 2, x.links, x.size, blocksOf x⟩, []⟩) rfl rfl hnews (thC_one _) (by unfold maxLen; omega) (by omega) hbs ?_; intro v7 w7 hown7 hg7 _ hloc7; obtain ⟨T6a, B6a, oa6a⟩ := Hz; obtain ⟨B7, T7⟩ := B6a.grown (v' := v7) hown7 hg7 hloc7; have oa7 := oa6a.step T7; have g4 : w7.cell? ⟨w2.heap.size, 4, none⟩ = some (.int .i64 2) := oa7.1.cell 4; have Hz := Lib.hid (And.intro (T6a.trans T7) (And.intro B7 oa7)); clear T6a B6a oa6a T7 B7 oa7 hg7 hown7 hloc7))
  obtain ⟨T7, B7, _⟩ := Hz
  unfold Hid at HR
  refine (HR w7 L2 v7 _ B7).mono ?_
  clear HR
  rintro e w8 ⟨L8, nv, rfl, B8, T8, O8, N8⟩
  have T8s := T7.trans T8
  clear T8 B7
  obtain ⟨g1, g2, g3, g4, g5, g6, g7, he', g9⟩ := Hx
  clear g1 g2 g3 g4 g5 g6 g7 g9
  obtain rfl := N8.2 (by rw [he']; rfl)
  obtain ⟨Y9, hst9, bb9, hb9, hs9⟩ := put_answer (w := w8) (cs := #[.int .i64 0, .int .i64 0, .string { data := #[] }, .int .i64 0, .int .i64 0, .int .i64 0, .int .i64 0, .int .i64 0, .slice none 0 0, .int .i64 0, .int .i64 0, .int .i64 0, .int .i64 0]) rfl (by simp [Value.oneCell'])
  have d0 : Y9.cell? ⟨w8.heap.size, 0, none⟩ = some (.int .i64 0) := bb9.cell 0
  have d8 : Y9.cell? ⟨w8.heap.size, 8, none⟩ = some (.slice none 0 0) := bb9.cell 8
  have B9 := B8.below hb9
  have T9 := T8s.trans (Step.belowX (P := XS L8 v7) hb9)
  have Hz := Lib.hid (And.intro T9 (And.intro B9 he'))
  clear T9 B9 hb9 hs9 bb9 T8s B8 O8 N8 he' T7
  go_wp2_with (refine wpList_store_run _ rfl (.tmp 13) (.tmp 107) 42 rfl Y9 hst9 ?_)
  go_loopw [2, 117] (fun sv iv wr => sv = v7 ∧ iv = .int .i64 0 ∧ wr = Y9) (fun _ _ _ => 0)
  case atStart => exact ⟨rfl, rfl, rfl⟩
  case round =>
    obtain ⟨rfl, rfl, rfl⟩ := hrel
    go_wp2_with fail
    go_ret2
    obtain ⟨T9, B9, he'⟩ := Hz
    refine ⟨L8, _, rfl, ?_, T9⟩
    unfold tail
    rw [he']
    exact B9
set_option maxRecDepth 100000 in
set_option maxHeartbeats 8000000 in
theorem below_dir_none (HD : DoC fb n nb s) (hI : Inv n k s) (hw : Way s 1 cs i) (hk : kindOf s i = 2) (h : Bel fb n nb s base W L v l) {K : Nat} (hm : l.length + (lst s (K + 1) cs i).length ≤ 400) (hbase : base ≤ W.heap.size) (hr : cs ≠ []) (he : namesOf s i = []) :
    Calls Tryz.prog 17 #[.pointer (some ⟨fb, 0, none⟩), .string (mk (pathOf cs)), v] W fun e W' => Listed fb n nb s base W L v (l ++ (lst s (K + 1) cs i).map (thing s)) e W' := by
  have hml : l.length < 400 := by have : 0 < (lst s (K + 1) cs i).length := by unfold lst; simp
                                  omega
  obtain ⟨ao, cp, rfl⟩ := own_shape h.row
  obtain ⟨x, hx, hxk⟩ := kindGet hk (by decide)
  have hnd := ndAt_of hx
  have hN := hI.nd i x hx
  have HL := HD _ _ (callOk_way hI hw 13 0 0 (by decide) (by decide)) (told_lstat hI hw) base W L _ l h
  rw [hnd] at HL
  unfold callC Told ansC statN at HL
  dsimp only at HL
  rw [hxk, show mk [] = { data := #[] } from rfl] at HL
  have hm' : ¬ (400 : Int) < (l.length : Int) := by omega
  have hnl : (lst s (K + 1) cs i).length ≤ 400 := by omega
  have hth : thing s (cs, i) = ⟨pathOf cs, ⟨i, 2, x.links, x.size, blocksOf x⟩, []⟩ := by
    unfold thing dataOf statN; rw [hnd, if_neg (by rw [hxk]; decide), if_neg (by rw [hxk]; decide), hxk]
  rw [tail_all hk, hth]
  have HR := Lib.hid (fun W L v l (h : Bel fb n nb s base W L v l) => HD _ _ (callOk_way hI hw 14 0 0 (by decide) (by decide)) (told_dir hI hw hk) base W L v l h)
  unfold callC Told ansC at HR
  dsimp only at HR
  rw [show mk [] = { data := #[] } from rfl] at HR
  obtain ⟨ti, hi, hz0, hz1, hz2⟩ := info_parts info_thing
  have hpo : pathOf cs ≠ [47] := path_ne (hI.way_names hw) hr
  have hq1 : ((mk (pathOf cs)).toList == [47]) = false := by rw [Pw.mk_toList, beq_eq_false_iff_ne]; exact hpo
  have Hx := Lib.hid (And.intro hx (And.intro hxk (And.intro hnd (And.intro hN (And.intro hth (And.intro hk (And.intro hr (And.intro he hpo))))))))
  clear hx hxk hnd hN hth hk hr he hpo
  go_enter Tryz.func17, Tryz.ntmps17
  go_wp2_with fail
  refine HL.mono ?_
  rintro e w2 ⟨L2, nv, rfl, B2, T2, _, N2⟩
  obtain rfl := N2.2 trivial
  obtain ⟨Y2, hst2, ba2, hb2, hs2⟩ := put_answer (w := w2) (cs := #[.int .i64 0, .int .i64 0, .string { data := #[] }, .int .i64 i, .int .i64 2, .int .i64 x.links, .int .i64 x.size, .int .i64 (blocksOf x), .slice none 0 0, .int .i64 0, .int .i64 0, .int .i64 0, .int .i64 0]) rfl (by simp [Value.oneCell'])
  obtain ⟨Y3, hst3, bx3, hb3, hs3⟩ := put_thing (w := Y2) (cs := #[.string (mk (pathOf cs)), .int .i64 i, .int .i64 2, .int .i64 x.links, .int .i64 x.size, .int .i64 (blocksOf x), .string { data := #[] }]) rfl (by simp [Value.oneCell'])
  have a0 : Y2.cell? ⟨w2.heap.size, 0, none⟩ = some (.int .i64 0) := ba2.cell 0
  have a3 : Y2.cell? ⟨w2.heap.size, 3, none⟩ = some (.int .i64 i) := ba2.cell 3
  have a4 : Y2.cell? ⟨w2.heap.size, 4, none⟩ = some (.int .i64 2) := ba2.cell 4
  have a5 : Y2.cell? ⟨w2.heap.size, 5, none⟩ = some (.int .i64 x.links) := ba2.cell 5
  have a6 : Y2.cell? ⟨w2.heap.size, 6, none⟩ = some (.int .i64 x.size) := ba2.cell 6
  have a7 : Y2.cell? ⟨w2.heap.size, 7, none⟩ = some (.int .i64 (blocksOf x)) := ba2.cell 7
  have B2' := B2.below hb2
  have B3 := B2'.below hb3
  have oa2 : OffX Y2 L2 (.slice ao l.length cp) w2.heap.size #[.int .i64 0, .int .i64 0, .string { data := #[] }, .int .i64 i, .int .i64 2, .int .i64 x.links, .int .i64 x.size, .int .i64 (blocksOf x), .slice none 0 0, .int .i64 0, .int .i64 0, .int .i64 0, .int .i64 0] 42 := ⟨ba2, B2.offX (Nat.le_refl _)⟩
  have oa3 := oa2.below hb3
  have ox3 : OffX Y3 L2 (.slice ao l.length cp) Y2.heap.size #[.string (mk (pathOf cs)), .int .i64 i, .int .i64 2, .int .i64 x.links, .int .i64 x.size, .int .i64 (blocksOf x), .string { data := #[] }] 34 := ⟨bx3, B2'.offX (Nat.le_refl _)⟩
  have e4 : Y3.cell? ⟨w2.heap.size, 4, none⟩ = some (.int .i64 2) := oa3.1.cell 4
  have e6 : Y3.cell? ⟨w2.heap.size, 6, none⟩ = some (.int .i64 x.size) := oa3.1.cell 6
  have T3 := T2.trans ((Step.belowX (P := XS L2 (.slice ao l.length cp)) hb2).trans (Step.belowX (P := XS L2 (.slice ao l.length cp)) hb3))
  have T2s : W.heap.size ≤ Y2.heap.size := by have := T2.size; omega
  have Br := B3
  have oar := oa3
  have Tr := T3
  have bxT : Blk Y3 Y2.heap.size (thC ⟨pathOf cs, ⟨i, 2, x.links, x.size, blocksOf x⟩, []⟩).toArray 34 := bx3
  clear HL N2 ba2 bx3 hb2 hb3 B2 B2' oa2 B3 T2 T3 oa3 ox3 hs3 hs2 h
  have hal := (Below.refl Y3.heap.size Y3).alloc (Nat.le_refl _) (.cells (thC ⟨pathOf cs, ⟨i, 2, x.links, x.size, blocksOf x⟩, []⟩).toArray 34)
  have hld := load_thing bxT rfl
  have hOa := Br.row.alloc (.cells (thC ⟨pathOf cs, ⟨i, 2, x.links, x.size, blocksOf x⟩, []⟩).toArray 34)
  have hnews := news_thing Y3 ⟨pathOf cs, ⟨i, 2, x.links, x.size, blocksOf x⟩, []⟩ 34
  have hbs : base ≤ (Y3.alloc (.cells (thC ⟨pathOf cs, ⟨i, 2, x.links, x.size, blocksOf x⟩, []⟩).toArray 34)).heap.size := by
    have := Tr.size; rw [World.size_alloc]; omega
  have B6a := Br.below hal
  have oa6a := oar.below hal
  have T6a := Tr.trans (Step.belowX (P := XS L2 (.slice ao l.length cp)) hal)
  have Hz := Lib.hid (And.intro T6a (And.intro B6a oa6a))
  clear T6a B6a oa6a Tr hal Br oar bxT
  unfold thC at hld hOa hnews hbs
  dsimp only at hld hOa hnews hbs
  go_wp2_with (first | (refine wpList_store_run _ rfl (.tmp 8) (.tmp 20) 42 rfl Y2 hst2 ?_) | (refine wpList_store_run _ rfl (.tmp 9) (.tmp 33) 34 rfl Y3 hst3 ?_) | (refine wpList_load_run _ rfl (.tmp 9) 34 rfl _ hld ?_) | (at_builtin; refine wpList_append_own_at _ rfl (.tmp 95) (.tmp 97) 25 rfl base 34 ti _ 7 72 Tryz.underlying25 hi hz0 hz1 hz2 rfl (by decide) (.slice ao l.length cp) l.length (thsC l) rfl hOa ⟨_, 0, none⟩ 1 1 (thC ⟨pathOf cs, ⟨i, 2, x.links, x.size, blocksOf x⟩, []⟩) rfl rfl hnews (thC_one _) (by unfold maxLen; omega) (by omega) hbs ?_; intro v7 w7 hown7 hg7 _ hloc7; obtain ⟨T6a, B6a, oa6a⟩ := Hz; obtain ⟨B7, T7⟩ := B6a.grown (v' := v7) hown7 hg7 hloc7; have oa7 := oa6a.step T7; have g4 : w7.cell? ⟨w2.heap.size, 4, none⟩ = some (.int .i64 2) := oa7.1.cell 4; have Hz := Lib.hid (And.intro (T6a.trans T7) (And.intro B7 oa7)); clear T6a B6a oa6a T7 B7 oa7 hg7 hown7 hloc7))
  obtain ⟨T7, B7, _⟩ := Hz
  unfold Hid at HR
  refine (HR w7 L2 v7 _ B7).mono ?_
  clear HR
  rintro e w8 ⟨L8, nv, rfl, B8, T8, O8, N8⟩
  have T8s := T7.trans T8
  clear T8 B7
  obtain ⟨g1, g2, g3, g4, g5, g6, g7, he', g9⟩ := Hx
  clear g1 g2 g3 g4 g5 g6 g7 g9
  obtain rfl := N8.2 (by rw [he']; rfl)
  obtain ⟨Y9, hst9, bb9, hb9, hs9⟩ := put_answer (w := w8) (cs := #[.int .i64 0, .int .i64 0, .string { data := #[] }, .int .i64 0, .int .i64 0, .int .i64 0, .int .i64 0, .int .i64 0, .slice none 0 0, .int .i64 0, .int .i64 0, .int .i64 0, .int .i64 0]) rfl (by simp [Value.oneCell'])
  have d0 : Y9.cell? ⟨w8.heap.size, 0, none⟩ = some (.int .i64 0) := bb9.cell 0
  have d8 : Y9.cell? ⟨w8.heap.size, 8, none⟩ = some (.slice none 0 0) := bb9.cell 8
  have B9 := B8.below hb9
  have T9 := T8s.trans (Step.belowX (P := XS L8 v7) hb9)
  have Hz := Lib.hid (And.intro T9 (And.intro B9 he'))
  clear T9 B9 hb9 hs9 bb9 T8s B8 O8 N8 he' T7
  go_wp2_with (refine wpList_store_run _ rfl (.tmp 13) (.tmp 107) 42 rfl Y9 hst9 ?_)
  go_loopw [2, 117] (fun sv iv wr => sv = v7 ∧ iv = .int .i64 0 ∧ wr = Y9) (fun _ _ _ => 0)
  case atStart => exact ⟨rfl, rfl, rfl⟩
  case round =>
    obtain ⟨rfl, rfl, rfl⟩ := hrel
    go_wp2_with fail
    go_ret2
    obtain ⟨T9, B9, he'⟩ := Hz
    refine ⟨L8, _, rfl, ?_, T9⟩
    unfold tail
    rw [he']
    exact B9
end
end Fs
end Go.Proofs.YtlnnbjgfpiefdaaGreat
/- below: directories. -/
namespace Go.Proofs.YtlnnbjgfpiefdaaGreat
open Go.RowKit Go.Maps Go.Shelf

namespace Fs
section
variable {fb : Nat} {n : Int} {nb base k : Nat} {s : Tree} {W : World} {L : Lay} {v : Value} {l : List Thing} {cs : List Tx} {i : Int}
set_option maxRecDepth 100000 in
set_option maxHeartbeats 8000000 in
theorem below_dir_root (HD : DoC fb n nb s) (hI : Inv n k s) (hw : Way s 1 cs i) (hk : kindOf s i = 2) (h : Bel fb n nb s base W L v l) {K : Nat} (hm : l.length + (lst s (K + 1) cs i).length ≤ 400) (hbase : base ≤ W.heap.size) (hr : cs = []) (he : namesOf s i ≠ [])
    (IH : ∀ c m, nmF s i c = some m → ∀ W L v l, Bel fb n nb s base W L v l → l.length + (lst s K (cs ++ [c]) m).length ≤ 400 → base ≤ W.heap.size → Calls Tryz.prog 17 #[.pointer (some ⟨fb, 0, none⟩), .string (mk (pathOf (cs ++ [c]))), v] W fun e W' => Listed fb n nb s base W L v (l ++ (lst s K (cs ++ [c]) m).map (thing s)) e W') :
    Calls Tryz.prog 17 #[.pointer (some ⟨fb, 0, none⟩), .string (mk (pathOf cs)), v] W fun e W' => Listed fb n nb s base W L v (l ++ (lst s (K + 1) cs i).map (thing s)) e W' := by
  have hml : l.length < 400 := by have : 0 < (lst s (K + 1) cs i).length := by unfold lst; simp
                                  omega
  obtain ⟨ao, cp, rfl⟩ := own_shape h.row
  obtain ⟨x, hx, hxk⟩ := kindGet hk (by decide)
  have hnd := ndAt_of hx
  have hN := hI.nd i x hx
  have HL := HD _ _ (callOk_way hI hw 13 0 0 (by decide) (by decide)) (told_lstat hI hw) base W L _ l h
  rw [hnd] at HL
  unfold callC Told ansC statN at HL
  dsimp only at HL
  rw [hxk, show mk [] = { data := #[] } from rfl] at HL
  have hm' : ¬ (400 : Int) < (l.length : Int) := by omega
  have hnl : (lst s (K + 1) cs i).length ≤ 400 := by omega
  have hth : thing s (cs, i) = ⟨pathOf cs, ⟨i, 2, x.links, x.size, blocksOf x⟩, []⟩ := by
    unfold thing dataOf statN; rw [hnd, if_neg (by rw [hxk]; decide), if_neg (by rw [hxk]; decide), hxk]
  rw [tail_all hk, hth]
  have HR := Lib.hid (fun W L v l (h : Bel fb n nb s base W L v l) => HD _ _ (callOk_way hI hw 14 0 0 (by decide) (by decide)) (told_dir hI hw hk) base W L v l h)
  unfold callC Told ansC at HR
  dsimp only at HR
  rw [show mk [] = { data := #[] } from rfl] at HR
  obtain ⟨ti, hi, hz0, hz1, hz2⟩ := info_parts info_thing
  have hpo : pathOf cs = [47] := by rw [hr]; rfl
  have hq1 : ((mk (pathOf cs)).toList == [47]) = true := by rw [Pw.mk_toList, hpo]; rfl
  have hplen : (pathOf cs).length ≤ 1000 := by have := path_len (hI.way_names hw); have := hI.way_len hw; omega
  have hrise : Rising (namesOf s i) := by rw [namesGet hx]; exact hI.rise i x hx
  have hsn : ∀ c m, nmF s i c = some m → pathOf (cs ++ [c]) = [] ++ [47] ++ c := fun c m hc => by
    rcases pathOf_snoc cs c with e | ⟨y, hy, e⟩
    · rw [e, if_pos hpo]; simp
    · exact absurd e (hI.way_names hw y hy).ne
  have Hx := Lib.hid (And.intro hx (And.intro hxk (And.intro hnd (And.intro hN (And.intro hth (And.intro hk (And.intro hr (And.intro he hpo))))))))
  clear hx hxk hnd hN hth hk hr he hpo
  go_enter Tryz.func17, Tryz.ntmps17
  go_wp2_with fail
  refine HL.mono ?_
  rintro e w2 ⟨L2, nv, rfl, B2, T2, _, N2⟩
  obtain rfl := N2.2 trivial
  obtain ⟨Y2, hst2, ba2, hb2, hs2⟩ := put_answer (w := w2) (cs := #[.int .i64 0, .int .i64 0, .string { data := #[] }, .int .i64 i, .int .i64 2, .int .i64 x.links, .int .i64 x.size, .int .i64 (blocksOf x), .slice none 0 0, .int .i64 0, .int .i64 0, .int .i64 0, .int .i64 0]) rfl (by simp [Value.oneCell'])
  obtain ⟨Y3, hst3, bx3, hb3, hs3⟩ := put_thing (w := Y2) (cs := #[.string (mk (pathOf cs)), .int .i64 i, .int .i64 2, .int .i64 x.links, .int .i64 x.size, .int .i64 (blocksOf x), .string { data := #[] }]) rfl (by simp [Value.oneCell'])
  have a0 : Y2.cell? ⟨w2.heap.size, 0, none⟩ = some (.int .i64 0) := ba2.cell 0
  have a3 : Y2.cell? ⟨w2.heap.size, 3, none⟩ = some (.int .i64 i) := ba2.cell 3
  have a4 : Y2.cell? ⟨w2.heap.size, 4, none⟩ = some (.int .i64 2) := ba2.cell 4
  have a5 : Y2.cell? ⟨w2.heap.size, 5, none⟩ = some (.int .i64 x.links) := ba2.cell 5
  have a6 : Y2.cell? ⟨w2.heap.size, 6, none⟩ = some (.int .i64 x.size) := ba2.cell 6
  have a7 : Y2.cell? ⟨w2.heap.size, 7, none⟩ = some (.int .i64 (blocksOf x)) := ba2.cell 7
  have B2' := B2.below hb2
  have B3 := B2'.below hb3
  have oa2 : OffX Y2 L2 (.slice ao l.length cp) w2.heap.size #[.int .i64 0, .int .i64 0, .string { data := #[] }, .int .i64 i, .int .i64 2, .int .i64 x.links, .int .i64 x.size, .int .i64 (blocksOf x), .slice none 0 0, .int .i64 0, .int .i64 0, .int .i64 0, .int .i64 0] 42 := ⟨ba2, B2.offX (Nat.le_refl _)⟩
  have oa3 := oa2.below hb3
  have ox3 : OffX Y3 L2 (.slice ao l.length cp) Y2.heap.size #[.string (mk (pathOf cs)), .int .i64 i, .int .i64 2, .int .i64 x.links, .int .i64 x.size, .int .i64 (blocksOf x), .string { data := #[] }] 34 := ⟨bx3, B2'.offX (Nat.le_refl _)⟩
  have e4 : Y3.cell? ⟨w2.heap.size, 4, none⟩ = some (.int .i64 2) := oa3.1.cell 4
  have e6 : Y3.cell? ⟨w2.heap.size, 6, none⟩ = some (.int .i64 x.size) := oa3.1.cell 6
  have T3 := T2.trans ((Step.belowX (P := XS L2 (.slice ao l.length cp)) hb2).trans (Step.belowX (P := XS L2 (.slice ao l.length cp)) hb3))
  have T2s : W.heap.size ≤ Y2.heap.size := by have := T2.size; omega
  have Br := B3
  have oar := oa3
  have Tr := T3
  have bxT : Blk Y3 Y2.heap.size (thC ⟨pathOf cs, ⟨i, 2, x.links, x.size, blocksOf x⟩, []⟩).toArray 34 := bx3
  clear HL N2 ba2 bx3 hb2 hb3 B2 B2' oa2 B3 T2 T3 oa3 ox3 hs3 hs2 h
  have hal := (Below.refl Y3.heap.size Y3).alloc (Nat.le_refl _) (.cells (thC ⟨pathOf cs, ⟨i, 2, x.links, x.size, blocksOf x⟩, []⟩).toArray 34)
  have hld := load_thing bxT rfl
  have hOa := Br.row.alloc (.cells (thC ⟨pathOf cs, ⟨i, 2, x.links, x.size, blocksOf x⟩, []⟩).toArray 34)
  have hnews := news_thing Y3 ⟨pathOf cs, ⟨i, 2, x.links, x.size, blocksOf x⟩, []⟩ 34
  have hbs : base ≤ (Y3.alloc (.cells (thC ⟨pathOf cs, ⟨i, 2, x.links, x.size, blocksOf x⟩, []⟩).toArray 34)).heap.size := by
    have := Tr.size; rw [World.size_alloc]; omega
  have B6a := Br.below hal
  have oa6a := oar.below hal
  have T6a := Tr.trans (Step.belowX (P := XS L2 (.slice ao l.length cp)) hal)
  have Hz := Lib.hid (And.intro T6a (And.intro B6a oa6a))
  clear T6a B6a oa6a Tr hal Br oar bxT
  unfold thC at hld hOa hnews hbs
  dsimp only at hld hOa hnews hbs
  go_wp2_with (first | (refine wpList_store_run _ rfl (.tmp 8) (.tmp 20) 42 rfl Y2 hst2 ?_) | (refine wpList_store_run _ rfl (.tmp 9) (.tmp 33) 34 rfl Y3 hst3 ?_) | (refine wpList_load_run _ rfl (.tmp 9) 34 rfl _ hld ?_) | (at_builtin; refine wpList_append_own_at _ rfl (.tmp 95) (.tmp 97) 25 rfl base 34 ti _ 7 72 Tryz.underlying25 hi hz0 hz1 hz2 rfl (by decide) (.slice ao l.length cp) l.length (thsC l) rfl hOa ⟨_, 0, none⟩ 1 1 (thC ⟨pathOf cs, ⟨i, 2, x.links, x.size, blocksOf x⟩, []⟩) rfl rfl hnews (thC_one _) (by unfold maxLen; omega) (by omega) hbs ?_; intro v7 w7 hown7 hg7 _ hloc7; obtain ⟨T6a, B6a, oa6a⟩ := Hz; obtain ⟨B7, T7⟩ := B6a.grown (v' := v7) hown7 hg7 hloc7; have oa7 := oa6a.step T7; have g4 : w7.cell? ⟨w2.heap.size, 4, none⟩ = some (.int .i64 2) := oa7.1.cell 4; have Hz := Lib.hid (And.intro (T6a.trans T7) (And.intro B7 oa7)); clear T6a B6a oa6a T7 B7 oa7 hg7 hown7 hloc7))
  obtain ⟨T7, B7, _⟩ := Hz
  unfold Hid at HR
  refine (HR w7 L2 v7 _ B7).mono ?_
  clear HR
  rintro e w8 ⟨L8, nv, rfl, B8, T8, O8, N8⟩
  have T8s := T7.trans T8
  clear T8 B7
  have hNl : ((namesOf s i).map (·.1)).length = (namesOf s i).length := List.length_map _
  obtain ⟨g1, g2, g3, g4, g5, hk', g7, he', g9⟩ := Hx
  clear g1 g2 g3 g4 g5 g7 g9
  obtain ⟨gn, cn, rfl⟩ := strs_shape O8.1 (fun e => he' (List.map_eq_nil_iff.1 e))
  obtain ⟨Y9, hst9, bb9, hb9, hs9⟩ := put_answer (w := w8) (cs := #[.int .i64 0, .int .i64 0, .string { data := #[] }, .int .i64 0, .int .i64 0, .int .i64 0, .int .i64 0, .int .i64 0, .slice (some ⟨gn, 0, none⟩) ((namesOf s i).map (·.1)).length cn, .int .i64 0, .int .i64 0, .int .i64 0, .int .i64 0]) rfl (by simp [Value.oneCell'])
  have d0 : Y9.cell? ⟨w8.heap.size, 0, none⟩ = some (.int .i64 0) := bb9.cell 0
  have d8 : Y9.cell? ⟨w8.heap.size, 8, none⟩ = some (.slice (some ⟨gn, 0, none⟩) ((namesOf s i).map (·.1)).length cn) := bb9.cell 8
  have B9 := B8.below hb9
  have T9 := T8s.trans (Step.belowX (P := XS L8 v7) hb9)
  have O9 := O8.below hb9
  have od9 : OffX Y9 L8 v7 w8.heap.size _ 42 := ⟨bb9, B8.offX (Nat.le_refl _)⟩
  have Hz := Lib.hid (And.intro T9 (And.intro B9 (And.intro O9 od9)))
  clear T9 B9 hb9 hs9 bb9 T8s B8 O8 N8 T7 O9 od9
  have hk2 := Lib.hid hk'
  have he2 := Lib.hid he'
  clear hk' he'
  obtain ⟨NL, hNL⟩ : ∃ q, q = ((namesOf s i).map (·.1)).length := ⟨_, rfl⟩
  rw [← hNL] at hst9 d8 ⊢
  have hNL2 := Lib.hid (And.intro hNL hNl)
  clear hNL hNl
  go_wp2_with (refine wpList_store_run _ rfl (.tmp 13) (.tmp 107) 42 rfl Y9 hst9 ?_)
  go_loopw [2, 117] (fun sv iv wr => ∃ (j : Nat) (o : Int) (Lr : Lay), iv = .int .i64 o ∧ Hid (o = (j : Int)) ∧ j ≤ NL ∧ Bel fb n nb s base wr Lr sv (l ++ [⟨pathOf cs, ⟨i, 2, x.links, x.size, blocksOf x⟩, []⟩] ++ tail s K cs i j) ∧ Step W (XS L (.slice ao l.length cp)) wr (XS Lr sv) ∧ OffS wr Lr sv w7.heap.size (.slice (some ⟨gn, 0, none⟩) ((namesOf s i).map (·.1)).length cn) ((namesOf s i).map (·.1)) ∧ OffX wr Lr sv w8.heap.size #[.int .i64 0, .int .i64 0, .string { data := #[] }, .int .i64 0, .int .i64 0, .int .i64 0, .int .i64 0, .int .i64 0, .slice (some ⟨gn, 0, none⟩) ((namesOf s i).map (·.1)).length cn, .int .i64 0, .int .i64 0, .int .i64 0, .int .i64 0] 42) (fun _ iv _ => NL - (intOf iv).toNat)
  case atStart =>
    obtain ⟨T9, B9, O9, od9⟩ := Hz
    exact ⟨0, 0, L8, rfl, rfl, Nat.zero_le _, by unfold tail; rw [List.take_zero]; simpa using B9, T9, O9, od9⟩
  case round =>
    obtain ⟨j, o, Lr, rfl, ho, hj, Br, Tr, On, Od⟩ := hrel
    clear Hz
    have d8 : wr.cell? ⟨w8.heap.size, 8, none⟩ = some (.slice (some ⟨gn, 0, none⟩) NL cn) := by rw [hNL2.1]; exact Od.1.cell 8
    by_cases hlt : j < NL
    · have hlt2 : j < (namesOf s i).length := by rw [← hNL2.2, ← hNL2.1]; exact hlt
      obtain ⟨⟨c, m⟩, hcm⟩ : ∃ e, (namesOf s i)[j]? = some e := ⟨_, List.getElem?_eq_getElem hlt2⟩
      have hc : nmF s i c = some m := hI.mem_names.1 (List.mem_of_getElem? hcm)
      have hcn : ((namesOf s i).map (·.1))[j]? = some c := by rw [List.getElem?_map, hcm]; rfl
      have n1 := strs_cell On.1 hcn
      have hadd1 : ({ data := #[] } : ByteArray) ++ { data := #[47] } = mk [47] := mk_add' [] [47]
      have hadd2 : mk [47] ++ mk c = mk (pathOf (cs ++ [c])) := by rw [mk_add', hsn c m hc]; rfl
      have hcl : c.length ≤ 27 := (hI.shape.ent _ _ _ hc).1.len
      have hs1 : (mk [47]).size = 1 := mk_size _
      have hs2 : (mk c).size = c.length := mk_size _
      have hb2 : ¬ 9223372036854775807 < (mk [47]).size + (mk c).size := by rw [hs1, hs2]; omega
      have hb3 : ¬ 9223372036854775807 < 1 + (mk c).size := by rw [hs2]; omega
      clear hs1 hs2
      have ho' : o = (j : Int) := ho
      have hc0 : 0 ≤ o := by omega
      have hc1 : o < (NL : Int) := by omega
      have ht : o.toNat = j := by omega
      have hNb : NL ≤ 1000000 := by rw [hNL2.1, hNL2.2]; have := names_le (K := K) (cs := cs) hk2; have := hnl; omega
      have hwr : IntKind.i64.wrap (o + 1) = o + 1 := IntWalk.i64_in _ (by omega)
      have IHc := IH c m hc wr Lr u2 _ Br (by
        have h1 := tail_len (K := K) (cs := cs) hk2 hcm
        have h2 := hm
        dsimp only at h1
        simp only [List.length_append, List.length_singleton]; omega) (Nat.le_trans hbase Tr.size)
      have Hr := Lib.hid (And.intro Tr (And.intro On (And.intro Od (And.intro hcm hlt))))
      have hrest := Lib.hid (And.intro hcl (And.intro hc hcn))
      clear Tr On Od Br hcl hc hcn IH
      rcases Nat.eq_zero_or_pos j with h0 | h0
      · subst h0
        obtain rfl : o = 0 := by omega
        clear ho' hcm hlt hlt2
        go_wp2_with fail
        refine IHc.mono ?_
        rintro e w10 ⟨L10, v10, rfl, B10, T10⟩
        go_wp2_with fail
        go_roundw
        case rel =>
          obtain ⟨Tr, On, Od, hcm, hlt⟩ := Hr
          refine ⟨0 + 1, 0 + 1, L10, rfl, by show (0 : Int) + 1 = ((0 + 1 : Nat) : Int); rfl, hlt, ?_, Tr.trans T10, On.step T10, Od.step T10⟩
          rw [tail_succ hcm, ← List.append_assoc]; exact B10
        case measure => simp only [intOf]; omega
      · obtain ⟨j', rfl⟩ : ∃ j', j = j' + 1 := ⟨j - 1, by omega⟩
        obtain ⟨⟨c0, m0⟩, hcm0⟩ : ∃ e, (namesOf s i)[j']? = some e := ⟨_, List.getElem?_eq_getElem (by omega)⟩
        have n0 := strs_cell Hr.2.1.1 (show ((namesOf s i).map (·.1))[j']? = some c0 by rw [List.getElem?_map, hcm0]; rfl)
        have hless : Op.bytesLess (mk c0).toList (mk c).toList = true := by
          rw [Pw.mk_toList, Pw.mk_toList, less_before]; exact rise_at hrise hcm0 hcm
        have hgt : 0 < o := by omega
        have hwr2 : IntKind.i64.wrap (o - 1) = o - 1 := IntWalk.i64_in _ (by omega)
        have hi0 : 0 ≤ o - 1 := by omega
        have hi1 : o - 1 < (NL : Int) := by omega
        have ht2 : (o - 1).toNat = j' := by omega
        clear ho' hcm hcm0 hlt hlt2 h0
        go_wp2_with fail
        refine IHc.mono ?_
        rintro e w10 ⟨L10, v10, rfl, B10, T10⟩
        go_wp2_with fail
        go_roundw
        case rel =>
          obtain ⟨Tr, On, Od, hcm, hlt⟩ := Hr
          have ho' : o = ((j' + 1 : Nat) : Int) := ho
          refine ⟨j' + 1 + 1, o + 1, L10, rfl, by show o + 1 = ((j' + 1 + 1 : Nat) : Int); omega, hlt, ?_, Tr.trans T10, On.step T10, Od.step T10⟩
          rw [tail_succ hcm, ← List.append_assoc]; exact B10
        case measure => simp only [intOf]; omega
    · have ho' : o = (j : Int) := ho
      have hc1 : ¬ o < (NL : Int) := by omega
      have hjn : j = (namesOf s i).length := by rw [← hNL2.2, ← hNL2.1]; omega
      clear ho'
      have Hr := Lib.hid (And.intro Tr (And.intro Br hjn))
      clear Tr Br hjn On Od
      go_wp2_with fail
      go_ret2
      obtain ⟨Tr, Br, hjn⟩ := Hr
      rw [hjn, List.append_assoc] at Br
      exact ⟨Lr, _, rfl, Br, Tr⟩
end
end Fs
end Go.Proofs.YtlnnbjgfpiefdaaGreat
