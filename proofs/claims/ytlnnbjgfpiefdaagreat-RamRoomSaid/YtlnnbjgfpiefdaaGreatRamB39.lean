/- below: directories. -/
import Derived.Test.YtlnnbjgfpiefdaaGreatRamB38
import Derived.Laws.Cover1
import Derived.Test.YtlnnbjgfpiefdaaGreatRamB17
import Derived.Test.YtlnnbjgfpiefdaaGreatRamB13
namespace Go.Proofs.YtlnnbjgfpiefdaaGreat
open Go.RowKit Go.Maps Go.Shelf

namespace Fs
section
variable {fb : Nat} {n : Int} {nb base k : Nat} {s : Tree} {W : World} {L : Lay} {v : Value} {l : List Thing} {cs : List Tx} {i : Int}
set_option maxRecDepth 100000 in
set_option maxHeartbeats 8000000 in
theorem below_dir (HD : DoC fb n nb s) (hI : Inv n k s) (hw : Way s 1 cs i) (hk : kindOf s i = 2) (h : Bel fb n nb s base W L v l) {K : Nat} (hm : l.length + (lst s (K + 1) cs i).length ≤ 400) (hbase : base ≤ W.heap.size) (hr : cs ≠ []) (he : namesOf s i ≠ [])
    (IH : ∀ c m, nmF s i c = some m → ∀ W L v l, Bel fb n nb s base W L v l → l.length + (lst s K (cs ++ [c]) m).length ≤ 400 → base ≤ W.heap.size → Calls Tryz.prog 17 #[.pointer (some ⟨fb, 0, none⟩), .string (mk (pathOf (cs ++ [c]))), v] W fun e W' => Listed fb n nb s base W L v (l ++ (lst s K (cs ++ [c]) m).map (thing s)) e W') :
    Calls Tryz.prog 17 #[.pointer (some ⟨fb, 0, none⟩), .string (mk (pathOf cs)), v] W fun e W' => Listed fb n nb s base W L v (l ++ (lst s (K + 1) cs i).map (thing s)) e W' := by
  have hml : l.length < 400 := by have : 0 < (lst s (K + 1) cs i).length := by unfold lst; simp
                                  omega
  obtain ⟨ao, cp, rfl⟩ := own_shape h.row
  obtain ⟨x, hx, hxk⟩ := kindGet hk (by decide)
  have hnd := ndAt_of hx
  have hN := hI.nd i x hx
  have HL := HD _ _ (callOk_way hI hw 13 0 0 (by decide) (by decide)) (told_lstat hI hw) base W L _ l h
  rw [hnd] at HL
  unfold callC Told ansC statN at HL
  dsimp only at HL
  rw [hxk, show mk [] = { data := #[] } from rfl] at HL
  have hm' : ¬ (400 : Int) < (l.length : Int) := by omega
  have hnl : (lst s (K + 1) cs i).length ≤ 400 := by omega
  have hth : thing s (cs, i) = ⟨pathOf cs, ⟨i, 2, x.links, x.size, blocksOf x⟩, []⟩ := by
    unfold thing dataOf statN; rw [hnd, if_neg (by rw [hxk]; decide), if_neg (by rw [hxk]; decide), hxk]
  rw [tail_all hk, hth]
  have HR := Lib.hid (fun W L v l (h : Bel fb n nb s base W L v l) => HD _ _ (callOk_way hI hw 14 0 0 (by decide) (by decide)) (told_dir hI hw hk) base W L v l h)
  unfold callC Told ansC at HR
  dsimp only at HR
  rw [show mk [] = { data := #[] } from rfl] at HR
  obtain ⟨ti, hi, hz0, hz1, hz2⟩ := info_parts info_thing
  have hpo : pathOf cs ≠ [47] := path_ne (hI.way_names hw) hr
  have hq1 : ((mk (pathOf cs)).toList == [47]) = false := by rw [Pw.mk_toList, beq_eq_false_iff_ne]; exact hpo
  have hplen : (pathOf cs).length ≤ 1000 := by have := path_len (hI.way_names hw); have := hI.way_len hw; omega
  have hrise : Rising (namesOf s i) := by rw [namesGet hx]; exact hI.rise i x hx
  have hsn : ∀ c m, nmF s i c = some m → pathOf (cs ++ [c]) = pathOf cs ++ [47] ++ c := fun c m hc => by
    rcases pathOf_snoc cs c with e | ⟨y, hy, e⟩
    · rw [e, if_neg hpo]; simp
    · exact absurd e (hI.way_names hw y hy).ne
  have Hx := Lib.hid (And.intro hx (And.intro hxk (And.intro hnd (And.intro hN (And.intro hth (And.intro hk (And.intro hr (And.intro he hpo))))))))
  clear hx hxk hnd hN hth hk hr he hpo
  go_enter Tryz.func17, Tryz.ntmps17
  go_wp2_with fail
  refine HL.mono ?_
  rintro e w2 ⟨L2, nv, rfl, B2, T2, _, N2⟩
  obtain rfl := N2.2 trivial
  obtain ⟨Y2, hst2, ba2, hb2, hs2⟩ := put_answer (w := w2) (cs := #[.int .i64 0, .int .i64 0, .string { data := #[] }, .int .i64 i, .int .i64 2, .int .i64 x.links, .int .i64 x.size, .int .i64 (blocksOf x), .slice none 0 0, .int .i64 0, .int .i64 0, .int .i64 0, .int .i64 0]) rfl (by simp [Value.oneCell'])
  obtain ⟨Y3, hst3, bx3, hb3, hs3⟩ := put_thing (w := Y2) (cs := #[.string (mk (pathOf cs)), .int .i64 i, .int .i64 2, .int .i64 x.links, .int .i64 x.size, .int .i64 (blocksOf x), .string { data := #[] }]) rfl (by simp [Value.oneCell'])
  have a0 : Y2.cell? ⟨w2.heap.size, 0, none⟩ = some (.int .i64 0) := ba2.cell 0
  have a3 : Y2.cell? ⟨w2.heap.size, 3, none⟩ = some (.int .i64 i) := ba2.cell 3
  have a4 : Y2.cell? ⟨w2.heap.size, 4, none⟩ = some (.int .i64 2) := ba2.cell 4
  have a5 : Y2.cell? ⟨w2.heap.size, 5, none⟩ = some (.int .i64 x.links) := ba2.cell 5
  have a6 : Y2.cell? ⟨w2.heap.size, 6, none⟩ = some (.int .i64 x.size) := ba2.cell 6
  have a7 : Y2.cell? ⟨w2.heap.size, 7, none⟩ = some (.int .i64 (blocksOf x)) := ba2.cell 7
  have B2' := B2.below hb2
  have B3 := B2'.below hb3
  have oa2 : OffX Y2 L2 (.slice ao l.length cp) w2.heap.size #[.int .i64 0, .int .i64 0, .string { data := #[] }, .int .i64 i, .int .i64 2, .int .i64 x.links, .int .i64 x.size, .int .i64 (blocksOf x), .slice none 0 0, .int .i64 0, .int .i64 0, .int .i64 0, .int .i64 0] 42 := ⟨ba2, B2.offX (Nat.le_refl _)⟩
  have oa3 := oa2.below hb3
  have ox3 : OffX Y3 L2 (.slice ao l.length cp) Y2.heap.size #[.string (mk (pathOf cs)), .int .i64 i, .int .i64 2, .int .i64 x.links, .int .i64 x.size, .int .i64 (blocksOf x), .string { data := #[] }] 34 := ⟨bx3, B2'.offX (Nat.le_refl _)⟩
  have e4 : Y3.cell? ⟨w2.heap.size, 4, none⟩ = some (.int .i64 2) := oa3.1.cell 4
  have e6 : Y3.cell? ⟨w2.heap.size, 6, none⟩ = some (.int .i64 x.size) := oa3.1.cell 6
  have T3 := T2.trans ((Step.belowX (P := XS L2 (.slice ao l.length cp)) hb2).trans (Step.belowX (P := XS L2 (.slice ao l.length cp)) hb3))
  have T2s : W.heap.size ≤ Y2.heap.size := by have := T2.size; omega
  have Br := B3
  have oar := oa3
  have Tr := T3
  have bxT : Blk Y3 Y2.heap.size (thC ⟨pathOf cs, ⟨i, 2, x.links, x.size, blocksOf x⟩, []⟩).toArray 34 := bx3
  clear HL N2 ba2 bx3 hb2 hb3 B2 B2' oa2 B3 T2 T3 oa3 ox3 hs3 hs2 h
  have hal := (Below.refl Y3.heap.size Y3).alloc (Nat.le_refl _) (.cells (thC ⟨pathOf cs, ⟨i, 2, x.links, x.size, blocksOf x⟩, []⟩).toArray 34)
  have hld := load_thing bxT rfl
  have hOa := Br.row.alloc (.cells (thC ⟨pathOf cs, ⟨i, 2, x.links, x.size, blocksOf x⟩, []⟩).toArray 34)
  have hnews := news_thing Y3 ⟨pathOf cs, ⟨i, 2, x.links, x.size, blocksOf x⟩, []⟩ 34
  have hbs : base ≤ (Y3.alloc (.cells (thC ⟨pathOf cs, ⟨i, 2, x.links, x.size, blocksOf x⟩, []⟩).toArray 34)).heap.size := by
    have := Tr.size; rw [World.size_alloc]; omega
  have B6a := Br.below hal
  have oa6a := oar.below hal
  have T6a := Tr.trans (Step.belowX (P := XS L2 (.slice ao l.length cp)) hal)
  have Hz := Lib.hid (And.intro T6a (And.intro B6a oa6a))
  clear T6a B6a oa6a Tr hal Br oar bxT
  unfold thC at hld hOa hnews hbs
  dsimp only at hld hOa hnews hbs
  go_wp2_with (first | (refine wpList_store_run _ rfl (.tmp 8) (.tmp 20) 42 rfl Y2 hst2 ?_) | (refine wpList_store_run _ rfl (.tmp 9) (.tmp 33) 34 rfl Y3 hst3 ?_) | (refine wpList_load_run _ rfl (.tmp 9) 34 rfl _ hld ?_) | (at_builtin; refine wpList_append_own_at _ rfl (.tmp 95) (.tmp 97) 25 rfl base 34 ti _ 7 72 Tryz.underlying25 hi hz0 hz1 hz2 rfl (by decide) (.slice ao l.length cp) l.length (thsC l) rfl hOa ⟨_, 0, none⟩ 1 1 (thC ⟨pathOf cs, ⟨i, 2, x.links, x.size, blocksOf x⟩, []⟩) rfl rfl hnews (thC_one _) (by unfold maxLen; omega) (by omega) hbs ?_; intro v7 w7 hown7 hg7 _ hloc7; obtain ⟨T6a, B6a, oa6a⟩ := Hz; obtain ⟨B7, T7⟩ := B6a.grown (v' := v7) hown7 hg7 hloc7; have oa7 := oa6a.step T7; have g4 : w7.cell? ⟨w2.heap.size, 4, none⟩ = some (.int .i64 2) := oa7.1.cell 4; have Hz := Lib.hid (And.intro (T6a.trans T7) (And.intro B7 oa7)); clear T6a B6a oa6a T7 B7 oa7 hg7 hown7 hloc7))
  obtain ⟨T7, B7, _⟩ := Hz
  unfold Hid at HR
  refine (HR w7 L2 v7 _ B7).mono ?_
  clear HR
  rintro e w8 ⟨L8, nv, rfl, B8, T8, O8, N8⟩
  have T8s := T7.trans T8
  clear T8 B7
  have hNl : ((namesOf s i).map (·.1)).length = (namesOf s i).length := List.length_map _
  obtain ⟨g1, g2, g3, g4, g5, hk', g7, he', g9⟩ := Hx
  clear g1 g2 g3 g4 g5 g7 g9
  obtain ⟨gn, cn, rfl⟩ := strs_shape O8.1 (fun e => he' (List.map_eq_nil_iff.1 e))
  obtain ⟨Y9, hst9, bb9, hb9, hs9⟩ := put_answer (w := w8) (cs := #[.int .i64 0, .int .i64 0, .string { data := #[] }, .int .i64 0, .int .i64 0, .int .i64 0, .int .i64 0, .int .i64 0, .slice (some ⟨gn, 0, none⟩) ((namesOf s i).map (·.1)).length cn, .int .i64 0, .int .i64 0, .int .i64 0, .int .i64 0]) rfl (by simp [Value.oneCell'])
  have d0 : Y9.cell? ⟨w8.heap.size, 0, none⟩ = some (.int .i64 0) := bb9.cell 0
  have d8 : Y9.cell? ⟨w8.heap.size, 8, none⟩ = some (.slice (some ⟨gn, 0, none⟩) ((namesOf s i).map (·.1)).length cn) := bb9.cell 8
  have B9 := B8.below hb9
  have T9 := T8s.trans (Step.belowX (P := XS L8 v7) hb9)
  have O9 := O8.below hb9
  have od9 : OffX Y9 L8 v7 w8.heap.size _ 42 := ⟨bb9, B8.offX (Nat.le_refl _)⟩
  have Hz := Lib.hid (And.intro T9 (And.intro B9 (And.intro O9 od9)))
  clear T9 B9 hb9 hs9 bb9 T8s B8 O8 N8 T7 O9 od9
  have hk2 := Lib.hid hk'
  have he2 := Lib.hid he'
  clear hk' he'
  obtain ⟨NL, hNL⟩ : ∃ q, q = ((namesOf s i).map (·.1)).length := ⟨_, rfl⟩
  rw [← hNL] at hst9 d8 ⊢
  have hNL2 := Lib.hid (And.intro hNL hNl)
  clear hNL hNl
  go_wp2_with (refine wpList_store_run _ rfl (.tmp 13) (.tmp 107) 42 rfl Y9 hst9 ?_)
  go_loopw [2, 117] (fun sv iv wr => ∃ (j : Nat) (o : Int) (Lr : Lay), iv = .int .i64 o ∧ Hid (o = (j : Int)) ∧ j ≤ NL ∧ Bel fb n nb s base wr Lr sv (l ++ [⟨pathOf cs, ⟨i, 2, x.links, x.size, blocksOf x⟩, []⟩] ++ tail s K cs i j) ∧ Step W (XS L (.slice ao l.length cp)) wr (XS Lr sv) ∧ OffS wr Lr sv w7.heap.size (.slice (some ⟨gn, 0, none⟩) ((namesOf s i).map (·.1)).length cn) ((namesOf s i).map (·.1)) ∧ OffX wr Lr sv w8.heap.size #[.int .i64 0, .int .i64 0, .string { data := #[] }, .int .i64 0, .int .i64 0, .int .i64 0, .int .i64 0, .int .i64 0, .slice (some ⟨gn, 0, none⟩) ((namesOf s i).map (·.1)).length cn, .int .i64 0, .int .i64 0, .int .i64 0, .int .i64 0] 42) (fun _ iv _ => NL - (intOf iv).toNat)
  case atStart =>
    obtain ⟨T9, B9, O9, od9⟩ := Hz
    exact ⟨0, 0, L8, rfl, rfl, Nat.zero_le _, by unfold tail; rw [List.take_zero]; simpa using B9, T9, O9, od9⟩
  case round =>
    obtain ⟨j, o, Lr, rfl, ho, hj, Br, Tr, On, Od⟩ := hrel
    clear Hz
    have d8 : wr.cell? ⟨w8.heap.size, 8, none⟩ = some (.slice (some ⟨gn, 0, none⟩) NL cn) := by rw [hNL2.1]; exact Od.1.cell 8
    by_cases hlt : j < NL
    · have hlt2 : j < (namesOf s i).length := by rw [← hNL2.2, ← hNL2.1]; exact hlt
      obtain ⟨⟨c, m⟩, hcm⟩ : ∃ e, (namesOf s i)[j]? = some e := ⟨_, List.getElem?_eq_getElem hlt2⟩
      have hc : nmF s i c = some m := hI.mem_names.1 (List.mem_of_getElem? hcm)
      have hcn : ((namesOf s i).map (·.1))[j]? = some c := by rw [List.getElem?_map, hcm]; rfl
      have n1 := strs_cell On.1 hcn
      have hadd1 : mk (pathOf cs) ++ { data := #[47] } = mk ((pathOf cs) ++ [47]) := mk_add' (pathOf cs) [47]
      have hadd2 : mk ((pathOf cs) ++ [47]) ++ mk c = mk (pathOf (cs ++ [c])) := by rw [mk_add', hsn c m hc]
      have hcl : c.length ≤ 27 := (hI.shape.ent _ _ _ hc).1.len
      have hs1 : (mk ((pathOf cs) ++ [47])).size = ((pathOf cs) ++ [47] : Tx).length := mk_size _
      have hs2 : (mk c).size = c.length := mk_size _
      have hs3 : (mk (pathOf cs)).size = ((pathOf cs) : Tx).length := mk_size _
      have hb1 : ¬ 9223372036854775807 < (mk (pathOf cs)).size + 1 := by rw [hs3]; (try simp only [List.length_nil]); omega
      have hb2 : ¬ 9223372036854775807 < (mk ((pathOf cs) ++ [47])).size + (mk c).size := by rw [hs1, hs2, List.length_append, List.length_singleton]; (try simp only [List.length_nil]); omega
      clear hs1 hs2 hs3
      have ho' : o = (j : Int) := ho
      have hc0 : 0 ≤ o := by omega
      have hc1 : o < (NL : Int) := by omega
      have ht : o.toNat = j := by omega
      have hNb : NL ≤ 1000000 := by rw [hNL2.1, hNL2.2]; have := names_le (K := K) (cs := cs) hk2; have := hnl; omega
      have hwr : IntKind.i64.wrap (o + 1) = o + 1 := IntWalk.i64_in _ (by omega)
      have IHc := IH c m hc wr Lr u2 _ Br (by
        have h1 := tail_len (K := K) (cs := cs) hk2 hcm
        have h2 := hm
        dsimp only at h1
        simp only [List.length_append, List.length_singleton]; omega) (Nat.le_trans hbase Tr.size)
      have Hr := Lib.hid (And.intro Tr (And.intro On (And.intro Od (And.intro hcm hlt))))
      have hrest := Lib.hid (And.intro hcl (And.intro hc hcn))
      clear Tr On Od Br hcl hc hcn IH
      rcases Nat.eq_zero_or_pos j with h0 | h0
      · subst h0
        obtain rfl : o = 0 := by omega
        clear ho' hcm hlt hlt2
        go_wp2_with fail
        refine IHc.mono ?_
        rintro e w10 ⟨L10, v10, rfl, B10, T10⟩
        go_wp2_with fail
        go_roundw
        case rel =>
          obtain ⟨Tr, On, Od, hcm, hlt⟩ := Hr
          refine ⟨0 + 1, 0 + 1, L10, rfl, by show (0 : Int) + 1 = ((0 + 1 : Nat) : Int); rfl, hlt, ?_, Tr.trans T10, On.step T10, Od.step T10⟩
          rw [tail_succ hcm, ← List.append_assoc]; exact B10
        case measure => simp only [intOf]; omega
      · obtain ⟨j', rfl⟩ : ∃ j', j = j' + 1 := ⟨j - 1, by omega⟩
        obtain ⟨⟨c0, m0⟩, hcm0⟩ : ∃ e, (namesOf s i)[j']? = some e := ⟨_, List.getElem?_eq_getElem (by omega)⟩
        have n0 := strs_cell Hr.2.1.1 (show ((namesOf s i).map (·.1))[j']? = some c0 by rw [List.getElem?_map, hcm0]; rfl)
        have hless : Op.bytesLess (mk c0).toList (mk c).toList = true := by
          rw [Pw.mk_toList, Pw.mk_toList, less_before]; exact rise_at hrise hcm0 hcm
        have hgt : 0 < o := by omega
        have hwr2 : IntKind.i64.wrap (o - 1) = o - 1 := IntWalk.i64_in _ (by omega)
        have hi0 : 0 ≤ o - 1 := by omega
        have hi1 : o - 1 < (NL : Int) := by omega
        have ht2 : (o - 1).toNat = j' := by omega
        clear ho' hcm hcm0 hlt hlt2 h0
        go_wp2_with fail
        refine IHc.mono ?_
        rintro e w10 ⟨L10, v10, rfl, B10, T10⟩
        go_wp2_with fail
        go_roundw
        case rel =>
          obtain ⟨Tr, On, Od, hcm, hlt⟩ := Hr
          have ho' : o = ((j' + 1 : Nat) : Int) := ho
          refine ⟨j' + 1 + 1, o + 1, L10, rfl, by show o + 1 = ((j' + 1 + 1 : Nat) : Int); omega, hlt, ?_, Tr.trans T10, On.step T10, Od.step T10⟩
          rw [tail_succ hcm, ← List.append_assoc]; exact B10
        case measure => simp only [intOf]; omega
    · have ho' : o = (j : Int) := ho
      have hc1 : ¬ o < (NL : Int) := by omega
      have hjn : j = (namesOf s i).length := by rw [← hNL2.2, ← hNL2.1]; omega
      clear ho'
      have Hr := Lib.hid (And.intro Tr (And.intro Br hjn))
      clear Tr Br hjn On Od
      go_wp2_with fail
      go_ret2
      obtain ⟨Tr, Br, hjn⟩ := Hr
      rw [hjn, List.append_assoc] at Br
      exact ⟨Lr, _, rfl, Br, Tr⟩
end
end Fs
end Go.Proofs.YtlnnbjgfpiefdaaGreat
/- The whole tree, told. -/
namespace Go.Proofs.YtlnnbjgfpiefdaaGreat
open Go.RowKit Go.Maps Go.Shelf

namespace Fs
section
variable {fb : Nat} {n : Int} {nb base k : Nat} {s : Tree}
theorem below_any (HD : DoC fb n nb s) (hI : Inv n k s) : ∀ (K : Nat) (cs : List Tx) (i : Int), Way s 1 cs i → 33 ≤ cs.length + K → ∀ (W : World) (L : Lay) (v : Value) (l : List Thing), Bel fb n nb s base W L v l →
    l.length + (lst s K cs i).length ≤ 400 → base ≤ W.heap.size → Calls Tryz.prog 17 #[.pointer (some ⟨fb, 0, none⟩), .string (mk (pathOf cs)), v] W fun e W' => Listed fb n nb s base W L v (l ++ (lst s K cs i).map (thing s)) e W'
  | 0, cs, i, hw, hl, _, _, _, _, _, _, _ => by have := hI.way_len hw; omega
  | K + 1, cs, i, hw, hl, W, L, v, l, hB, hm, hb => by
    have hlen : l.length ≤ 400 := by omega
    by_cases k2 : kindOf s i = 2
    · have IH : ∀ c m, nmF s i c = some m → ∀ W L v l, Bel fb n nb s base W L v l → l.length + (lst s K (cs ++ [c]) m).length ≤ 400 → base ≤ W.heap.size → Calls Tryz.prog 17 #[.pointer (some ⟨fb, 0, none⟩), .string (mk (pathOf (cs ++ [c]))), v] W fun e W' => Listed fb n nb s base W L v (l ++ (lst s K (cs ++ [c]) m).map (thing s)) e W' :=
        fun c m hc W L v l hB hm hb => below_any HD hI K (cs ++ [c]) m (hw.snoc hc) (by rw [List.length_append, List.length_singleton]; omega) W L v l hB hm hb
      by_cases hr : cs = []
      · by_cases he : namesOf s i = []
        · exact below_dir_root_none HD hI hw k2 hB hm hb hr he
        · exact below_dir_root HD hI hw k2 hB hm hb hr he IH
      · by_cases he : namesOf s i = []
        · exact below_dir_none HD hI hw k2 hB hm hb hr he
        · exact below_dir HD hI hw k2 hB hm hb hr he IH
    · have e1 : (lst s (K + 1) cs i).map (thing s) = [thing s (cs, i)] := by rw [lst_succ, if_neg k2]; rfl
      rw [e1]
      rcases hI.kinds (hI.lst_there hw) with e | e | e
      · exact below_file HD hI hw e hB hlen hb
      · exact absurd e k2
      · exact below_link HD hI hw e hB hlen hb
/-- All things of a tree. -/
def things (s : Tree) : List Thing := (lst s 33 [] 1).map (thing s)
/-- Do tells what it tells. -/
theorem do_tells (hI : Inv n k s) (hk : k ≤ 900) (hn1 : 128 ≤ n) (hn2 : n ≤ 16384) : DoC fb n nb s := fun c a hc hd base W L v l hB => by
  have hst := hB.st
  have := do_st hB.sim hB.wf (by rw [hst]; exact hI) hk hn1 hn2 c hc
  rw [hst, hd] at this
  refine this.mono ?_
  rintro e W' ⟨L', nv, h1, h2, h3, h4, rfl, h5, h6, h7⟩
  obtain ⟨B', T'⟩ := hB.told h1 h2 h3 h4
  refine ⟨L', nv, rfl, B', T', ⟨h5, fun g hg hx => ?_⟩, h6⟩
  rcases hx with e | e
  · exact h7 g hg e
  · have h8 := (hB.row.lt g e).2
    have h9 := (h5.lt g hg).1
    omega
variable {W : World} {L : Lay}
set_option maxRecDepth 100000 in
set_option maxHeartbeats 1000000 in
theorem whole_st (h : Sim W L fb n nb (.slice none 0 0) []) (hw : WF L nb) (hI : Inv n k (stOf L nb)) (hk : k ≤ 300) (hn1 : 128 ≤ n) (hn2 : n ≤ 16384) :
    Calls Tryz.prog 8 #[.pointer (some ⟨fb, 0, none⟩)] W fun e W' => ∃ L' v', e = .returned (.tuple #[v', .bool true]) ∧ Bel fb n nb (stOf L nb) W.heap.size W' L' v' (things (stOf L nb)) ∧ Step W (Mine L (.slice none 0 0)) W' (XS L' v') := by
  have hB : Bel fb n nb (stOf L nb) W.heap.size W L (.slice none 0 0) [] := ⟨h, hw, rfl, World.ownsRow_nil _ _ _ _, fun g hg => by cases hg⟩
  have HC := below_any (do_tells (fb := fb) (nb := nb) hI (by omega) hn1 hn2) hI 33 [] 1 (.nil 1) (by simp) W L _ [] hB (by have := hI.lst_len (K := 33) (by omega); simp; omega) (Nat.le_refl _)
  rw [List.nil_append] at HC
  unfold things
  generalize (lst (stOf L nb) 33 [] 1).map (thing (stOf L nb)) = l at *
  rw [show pathOf [] = [47] from rfl] at HC
  unfold Listed at HC
  go_enter Tryz.func8, Tryz.ntmps8
  go_wp2_with fail
  refine HC.mono ?_
  rintro e w2 ⟨L2, v2, rfl, B2, T2⟩
  go_wp2_with fail
  go_ret2
  refine ⟨L2, v2, rfl, B2, T2.os, T2.tape, T2.output, T2.size, fun k hk hx => T2.block k hk fun e => ?_⟩
  rcases e with e | e
  · exact hx e
  · cases e
set_option maxRecDepth 100000 in
theorem room_of_results {tmps : Array Value} {w : World} {b : Nat} {v0 v1 v2 v3 : Value} {t : TypeId} (h2 : tmps[2]? = some (.pointer (some ⟨b, 0, none⟩))) (hb : Blk w b #[v0, v1, v2, v3] t) :
    (results Tryz.f9 tmps).run Tryz.prog w = .ok (.agg #[v0, v1, v2, v3]) w := by
  have c0 : w.cell? ⟨b, 0, none⟩ = some v0 := hb.cell 0
  have c1 : w.cell? ⟨b, 1, none⟩ = some v1 := hb.cell 1
  have c2 : w.cell? ⟨b, 2, none⟩ = some v2 := hb.cell 2
  have c3 : w.cell? ⟨b, 3, none⟩ = some v3 := hb.cell 3
  simp [results, Tryz.results9, go_sem, h2, c0, c1, c2, c3]
set_option maxRecDepth 100000 in
theorem field_room (w : World) (v0 v1 v2 v3 v4 v5 v6 v7 v8 v9 v10 v11 v12 : Value) : (Instr.field 42 (.agg #[v0, v1, v2, v3, v4, v5, v6, v7, v8, v9, v10, v11, v12]) 5).run Tryz.prog w = .ok (.agg #[v9, v10, v11, v12]) w := by kernel_rfl
set_option maxRecDepth 100000 in
set_option maxHeartbeats 4000000 in
/-- What is free, asked by a call. -/
theorem room_of_st (h : Sim W L fb n nb (.slice none 0 0) []) (hw : WF L nb) (hI : Inv n k (stOf L nb)) (hk : k ≤ 300) (hn1 : 128 ≤ n) (hn2 : n ≤ 16384) :
    Calls Tryz.prog 9 #[.pointer (some ⟨fb, 0, none⟩)] W fun e W' => ∃ L', e = .returned (.agg (roomC (roomN n (stOf L nb)))) ∧ Sim W' L' fb n nb (.slice none 0 0) [] ∧ WF L' nb ∧ stOf L' nb = stOf L nb ∧ Step W (Mine L (.slice none 0 0)) W' (Mine L' (.slice none 0 0)) := by
  obtain ⟨X, hX⟩ : ∃ x, x = W.alloc (.cells #[.int .i64 0, .int .i64 0, .int .i64 0, .int .i64 0] 29) := ⟨_, rfl⟩
  have hbX : Below W.heap.size W X := by rw [hX]; exact (Below.refl _ _).alloc (Nat.le_refl _) _
  have ba : Blk X W.heap.size #[.int .i64 0, .int .i64 0, .int .i64 0, .int .i64 0] 29 := by rw [hX]; exact Blk.new _ _ _
  have HC := do_st (h.below hbX) hw hI (by omega) hn1 hn2 ⟨15, [], [], 0, 0, []⟩ ⟨by decide, by decide, by simp, by simp⟩
  rw [doC_room n _ rfl] at HC
  rw [show (⟨n - dataAt n - taken (stOf L nb), n - dataAt n, countOf n - 1 - (stOf L nb).length, countOf n - 1⟩ : Room) = roomN n (stOf L nb) from rfl] at HC
  generalize roomN n (stOf L nb) = r at *
  unfold Done callC at HC
  dsimp only at HC
  rw [show mk [] = { data := #[] } from rfl] at HC
  have hm : ¬ Mine L (.slice none 0 0) W.heap.size := h.not_mine (Nat.le_refl _)
  have hla := ba.lt
  go_enter Tryz.func9, Tryz.ntmps9
  go_wp2_with fail
  rw [← hX]
  clear hX
  refine HC.mono ?_
  rintro e w2 ⟨L2, nv, S2, F2, st2, T2, rfl, _⟩
  have ba2 := ba.same (T2.block _ hla hm).1
  have hst := store_row (ys := roomC r) (ty := 29) ba2 info_room rfl (by simp [roomC, Value.oneCell'])
  have bq := ba2.setRow (roomC r)
  have hm2 := (T2.block _ hla hm).2
  have hh : ∀ b, b ≠ W.heap.size → (w2.setRow W.heap.size (roomC r)).heap[b]? = w2.heap[b]? := fun b hb => setRow_heap _ _ _ _ hb
  have S3 : Sim (w2.setRow W.heap.size (roomC r)) L2 fb n nb (.slice none 0 0) [] := S2.same (by simp) fun b hb => hh b fun e => hm2 (e ▸ hb)
  have T3 : Step W (Mine L (.slice none 0 0)) (w2.setRow W.heap.size (roomC r)) (Mine L2 (.slice none 0 0)) := by
    refine ⟨T2.os.trans hbX.os, T2.tape.trans hbX.tape, T2.output.trans hbX.output, by have := T2.size; have := hbX.size; simp; omega, fun k hk hx => ?_⟩
    have h1 := T2.block k (Nat.lt_of_lt_of_le hk hbX.size) hx
    exact ⟨(hh k (by omega)).trans (h1.1.trans (hbX.block k hk)), h1.2⟩
  have Hz := Lib.hid (And.intro S3 (And.intro F2 (And.intro st2 (And.intro T3 bq))))
  clear S3 F2 st2 T3 bq hh hm2 ba2 S2 T2 hm hla ba hbX HC
  unfold ansC
  unfold roomC at hst Hz
  dsimp only
  have hfr := field_room w2
  go_wp2_with (refine wpList_store_run _ rfl (.tmp 2) (.tmp 6) 29 rfl _ hst ?_)
  obtain ⟨S3, F2, st2, T3, bq⟩ := Hz
  exact bodyPost_ret (room_of_results rfl bq) rfl ⟨L2, rfl, S3, F2, st2, T3⟩
end
end Fs
end Go.Proofs.YtlnnbjgfpiefdaaGreat
/- New: an empty file system. -/
namespace Go.Proofs.YtlnnbjgfpiefdaaGreat
open Go.RowKit Go.Maps Go.Shelf

namespace Fs
def geoV (n : Int) : Value := .agg #[.int .i64 n, .int .i64 98, .int .i64 (98 + (n + 4095) / 4096), .int .i64 (98 + (n + 4095) / 4096 + n / 64), .int .i64 (n / 64 * 8)]
set_option maxRecDepth 100000 in
theorem of_good (n : Int) (w : World) (h1 : 128 ≤ n) (h2 : n ≤ 16384) :
    Calls Tryz.prog 22 #[.int .i64 n] w fun e w' => e = .returned (.tuple #[geoV n, .int .i64 0]) ∧ Below w.heap.size w w' := by
  have a1 : ¬ n < 128 := by omega
  have a2 : ¬ 16384 < n := by omega
  go_enter Tryz.func22, Tryz.ntmps22
  go_wp2
  have e : (n + 4096 - 1) / 4096 = (n + 4095) / 4096 := by congr 1; omega
  refine bodyPost_ret (v := .tuple #[geoV n, .int .i64 0]) (by simp [results, Tryz.results22, go_sem, geoV, e]) rfl ⟨rfl, ?_⟩
  exact (((Below.refl _ _).alloc (Nat.le_refl _) _).alloc (by simp) _).alloc (by simp; omega) _
/-- The layout of an empty one. -/
def newLay (B F : Nat) : Lay := fun x => if x = F then some .fs else if x = B + 3 then some (.nodes [(1, B + 2)]) else if x = B + 2 then some (.node ⟨2, 2, 0, none, some (B + 1), 0, []⟩) else if x = B + 1 then some (.names []) else none
theorem newLay_some {B F b : Nat} {r : Ro} (h : newLay B F b = some r) : (b = F ∧ r = .fs) ∨ (b = B + 3 ∧ r = .nodes [(1, B + 2)]) ∨ (b = B + 2 ∧ r = .node ⟨2, 2, 0, none, some (B + 1), 0, []⟩) ∨ (b = B + 1 ∧ r = .names []) := by
  unfold newLay at h
  split at h
  · rename_i e; cases h; exact .inl ⟨e, rfl⟩
  · split at h
    · rename_i e; cases h; exact .inr (.inl ⟨e, rfl⟩)
    · split at h
      · rename_i e; cases h; exact .inr (.inr (.inl ⟨e, rfl⟩))
      · split at h
        · rename_i e; cases h; exact .inr (.inr (.inr ⟨e, rfl⟩))
        · cases h
theorem newLay_node {B F b : Nat} {h : Hd} (e : newLay B F b = some (.node h)) : b = B + 2 ∧ h = ⟨2, 2, 0, none, some (B + 1), 0, []⟩ := by
  rcases newLay_some e with ⟨_, e⟩ | ⟨_, e⟩ | ⟨e1, e⟩ | ⟨_, e⟩
  · cases e
  · cases e
  · cases e; exact ⟨e1, rfl⟩
  · cases e
theorem newLay_1 {B F : Nat} (hF : B + 4 ≤ F) : newLay B F (B + 1) = some (.names []) := by unfold newLay; rw [if_neg (by omega), if_neg (by omega), if_neg (by omega), if_pos rfl]
theorem newLay_2 {B F : Nat} (hF : B + 4 ≤ F) : newLay B F (B + 2) = some (.node ⟨2, 2, 0, none, some (B + 1), 0, []⟩) := by unfold newLay; rw [if_neg (by omega), if_neg (by omega), if_pos rfl]
theorem newLay_3 {B F : Nat} (hF : B + 4 ≤ F) : newLay B F (B + 3) = some (.nodes [(1, B + 2)]) := by unfold newLay; rw [if_neg (by omega), if_pos rfl]
theorem newLay_4 (B F : Nat) : newLay B F F = some .fs := by unfold newLay; rw [if_pos rfl]
theorem newLay_wf {B F : Nat} (hF : B + 4 ≤ F) : WF (newLay B F) (B + 3) := by
  have hn : nodesOf (newLay B F) (B + 3) = [(1, B + 2)] := by unfold nodesOf; rw [newLay_3 hF]
  refine ⟨⟨_, newLay_3 hF, List.pairwise_singleton _ _⟩, fun p hp => ?_, fun p hp q hq _ => ?_, fun b h p e hp => ?_, fun b h p e hp => ?_, fun b h b' h' p e e' hp _ => ?_, fun b h b' h' p e e' hp _ => ?_, fun b h e _ => ?_, fun b h e hk => ?_⟩
  · rw [hn, List.mem_singleton] at hp; rw [hp]; exact ⟨_, newLay_2 hF⟩
  · rw [hn, List.mem_singleton] at hp hq; rw [hp, hq]
  · obtain ⟨_, rfl⟩ := newLay_node e; cases hp
  · obtain ⟨_, rfl⟩ := newLay_node e; cases hp; exact ⟨[], newLay_1 hF⟩
  · rw [(newLay_node e).1, (newLay_node e').1]
  · rw [(newLay_node e).1, (newLay_node e').1]
  · obtain ⟨_, rfl⟩ := newLay_node e; exact ⟨_, rfl⟩
  · obtain ⟨_, rfl⟩ := newLay_node e; cases hk
theorem newLay_st {B F : Nat} (hF : B + 4 ≤ F) : stOf (newLay B F) (B + 3) = root := by
  have hn : nodesOf (newLay B F) (B + 3) = [(1, B + 2)] := by unfold nodesOf; rw [newLay_3 hF]
  have h2 : ndAtB (newLay B F) (B + 2) = newDir := by
    unfold ndAtB; rw [newLay_2 hF]; dsimp only; unfold ndOf namesAt piecesAt; dsimp only; rw [newLay_1 hF]; rfl
  unfold stOf
  rw [hn, List.map_singleton]
  dsimp only
  rw [h2]; rfl
theorem heap_new (w : World) (o : Obj) : (w.alloc o).heap[w.heap.size]? = some o := (MapKept.heap_alloc w _).1
theorem heap_old (w : World) (o : Obj) {x : Nat} (h : x < w.heap.size) : (w.alloc o).heap[x]? = w.heap[x]? := ((Below.refl w.heap.size w).alloc (Nat.le_refl _) o).block x h
/-- What lies where behind the entry into the table. -/
theorem new_facts {w1 w2 : World} {o1 o2 o3 o4 : Obj} (hg : ((((w1.alloc o1).alloc o2).alloc o3).alloc o4).grownBy w2 (some (w1.heap.size + 1 + 1 + 1))) :
    w1.heap.size + 4 ≤ w2.heap.size ∧ w2.heap[w1.heap.size + 1]? = some o2 ∧ w2.heap[w1.heap.size + 2]? = some o3 ∧ Below w1.heap.size w1 w2 := by
  have hs : ((((w1.alloc o1).alloc o2).alloc o3).alloc o4).heap.size = w1.heap.size + 4 := by simp
  have h1 := hg.size
  rw [hs] at h1
  refine ⟨h1, ?_, ?_, ?_⟩
  · rw [hg.block _ (by rw [hs]; omega) (fun e => absurd (Option.some.inj e) (by omega)), heap_old _ _ (by simp), heap_old _ _ (by simp)]
    have := heap_new (w1.alloc o1) o2
    rwa [World.size_alloc] at this
  · rw [hg.block _ (by rw [hs]; omega) (fun e => absurd (Option.some.inj e) (by omega)), heap_old _ _ (by simp)]
    have := heap_new ((w1.alloc o1).alloc o2) o3
    rwa [World.size_alloc, World.size_alloc] at this
  · exact Below.grown ((((((Below.refl _ _).alloc (Nat.le_refl _) _).alloc (by simp) _).alloc (by simp; omega) _).alloc (by simp; omega) _)) hg (by simp; omega) (fun k hk => by cases hk; omega)
set_option maxRecDepth 100000 in
set_option maxHeartbeats 1000000 in
theorem new_st (n : Int) (W : World) (h1 : 128 ≤ n) (h2 : n ≤ 16384) :
    Calls Tryz.prog 15 #[.int .i64 n] W fun e W' => ∃ B F, W.heap.size ≤ B ∧ B + 4 ≤ F ∧ e = .returned (.tuple #[.pointer (some ⟨F, 0, none⟩), .int .i64 0]) ∧ Sim W' (newLay B F) F n (B + 3) (.slice none 0 0) [] ∧ Below W.heap.size W W' := by
  have hmm := @run_makeMap Tryz.prog
  go_enter Tryz.func15, Tryz.ntmps15
  go_wp2_with fail
  refine (of_good n _ h1 h2).mono ?_
  rintro e w1 ⟨rfl, hb⟩
  have hs := hb.size
  unfold geoV
  go_wp2_with (refine wpList_insert_own _ rfl _ _ _ 57 rfl 3 61 (Maps.int_keyed Tryz.underlying3) Tryz.underlying57 rawElem _ 0 (.map []) rfl (ownsMap_last _ _ _ _ _ (by simp)) (by unfold maxLen; decide) _ _ _ rfl rfl (keyOf_int_mk Tryz.underlying3 (by decide)) _ _ rfl ?_; intro w2 ho2 hg2)
  have HF := Lib.hid (new_facts hg2)
  have ho3 := Lib.hid ho2
  clear ho2 hg2
  go_ret2
  obtain ⟨hsz2, hm1, hm2, hB2⟩ := HF
  have hal : ∀ x, x < w2.heap.size → ∀ o, (w2.alloc o).heap[x]? = w2.heap[x]? := fun x hx o => heap_old w2 o hx
  refine ⟨w1.heap.size, w2.heap.size, hs, hsz2, rfl, ?_, (hb.trans (show Below W.heap.size w1 w2 from ⟨hB2.os, hB2.tape, hB2.output, hB2.size, fun k hk => hB2.block k (by omega)⟩)).alloc (by omega) _⟩
  refine ⟨fun b r e => ?_, newLay_4 _ _, Blk.new _ _ _, ⟨_, newLay_3 hsz2⟩, World.ownsRow_nil _ _ _ _, fun g hg => by cases hg⟩
  rcases newLay_some e with ⟨rfl, rfl⟩ | ⟨rfl, rfl⟩ | ⟨rfl, rfl⟩ | ⟨rfl, rfl⟩
  · exact ⟨by simp, trivial⟩
  · refine ⟨by rw [World.size_alloc]; omega, ?_, List.pairwise_singleton _ _⟩
    refine owns_same (W := w2) ?_ (hal _ (by omega) _)
    unfold Hid at ho3
    exact ho3
  · refine ⟨by rw [World.size_alloc]; omega, ?_⟩
    show Blk _ _ _ _
    unfold Blk
    rw [hal _ (by omega), hm2]; rfl
  · refine ⟨by rw [World.size_alloc]; omega, ?_, Rising.nil⟩
    exact ⟨#[], 0, (hal _ (by omega) _).trans hm1, ⟨by simp, Go.MapKept.stamped_empty 0, by simp⟩, Nat.le_refl _, rfl⟩
end Fs
end Go.Proofs.YtlnnbjgfpiefdaaGreat
/- A number brought below another one. -/
namespace Go.Proofs.YtlnnbjgfpiefdaaGreat
open Go.RowKit Go.Maps Go.Shelf

namespace Fs
set_option maxRecDepth 100000 in
theorem mod_any (v : Int) (W : World) : Calls Tryz.prog 16 #[.int .i64 v, .int .i64 140] W fun e W' => ∃ r, e = .returned (.int .i64 r) ∧ 0 ≤ r ∧ r < 140 ∧ W' = W := by
  have h1 : -140 < v.tmod 140 := by have := Int.lt_tmod_of_pos v (b := 140) (by decide); omega
  have h2 : v.tmod 140 < 140 := Int.tmod_lt_of_pos v (by decide)
  by_cases h : v.tmod 140 < 0
  · go_enter Tryz.func16, Tryz.ntmps16
    go_wp2
    go_ret
    exact ⟨_, rfl, by omega, by omega, rfl⟩
  · go_enter Tryz.func16, Tryz.ntmps16
    go_wp2
    go_ret
    exact ⟨_, rfl, by omega, by omega, rfl⟩
end Fs
end Go.Proofs.YtlnnbjgfpiefdaaGreat
