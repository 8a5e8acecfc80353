/- A name more is made: link. -/
import Derived.Test.YtlnnbjgfpiefdaaGreatRamB17
namespace Go.Proofs.YtlnnbjgfpiefdaaGreat
open Go.RowKit Go.Maps Go.Shelf

namespace Fs
theorem Below.after {W w1 w2 : World} (h : Below W.heap.size W w1) (h2 : Below w1.heap.size w1 w2) : Below W.heap.size W w2 :=
  h.trans ⟨h2.os, h2.tape, h2.output, h2.size, fun x hx => h2.block x (Nat.lt_of_lt_of_le hx h.size)⟩
theorem toP_some {s : Tree} {t : Tx} {follow : Bool} {p : Place} (h : toP s t follow = .ok p) (h1 : kindOf s 1 = 2) : ∃ x, get s p.inode = some x := by
  obtain ⟨h2, _, _, h4⟩ := toP_ok h h1
  rcases h4 with ⟨_, e⟩ | ⟨_, e⟩
  · have := h2.dirs _ h2.last
    cases hg : get s p.inode with
    | none => rw [e] at hg; unfold kindOf at this; rw [show get s (p.chain.getLast?.getD 0) = none from hg] at this; cases this
    | some x => exact ⟨x, rfl⟩
  · cases hg : get s p.inode with
    | none => exact absurd hg e
    | some x => exact ⟨x, rfl⟩
theorem nameP_dir {s : Tree} {t : Tx} {p : Place} (h : nameP s t = .ok p) (h1 : kindOf s 1 = 2) : p.chain ≠ [] ∧ p.chain.length ≤ 300 ∧ p.name.length ≤ 27 ∧ kindOf s p.dir = 2 ∧ ∃ x, get s p.dir = some x := by
  obtain ⟨h2, h3, h4, _⟩ := nameP_ok h h1
  have := h2.dirs _ h2.last
  refine ⟨h2.ne, h3, h4, this, ?_⟩
  cases hg : get s p.dir with
  | none => unfold kindOf at this; rw [show get s (p.chain.getLast?.getD 0) = none from hg] at this; cases this
  | some x => exact ⟨x, rfl⟩
/-- A name that isn't there. -/
theorem nameP_none {s : Tree} (hF : Fit s) {t : Tx} {p : Place} (h : nameP s t = .ok p) (h0 : p.inode = 0) : get (namesOf s p.dir) p.name = none := by
  obtain ⟨_, _, _, h5⟩ := nameP_ok h hF.root
  cases hm : get (namesOf s p.dir) p.name with
  | none => rfl
  | some m =>
    exfalso
    have h0' : m = 0 := by
      rcases h5 with ⟨_, e, _⟩ | ⟨_, e⟩
      · omega
      · rw [hm] at e; simp only [Option.getD_some] at e; omega
    have := hF.closed p.dir _ (get_mem hm)
    cases hgm : get s m with
    | none => rw [show (p.name, m).2 = m from rfl, hgm] at this; cases this
    | some y => exact hF.pos m y hgm h0'
/-- A name that is there. -/
theorem nameP_there {s : Tree} (hF : Fit s) {t : Tx} {p : Place} (h : nameP s t = .ok p) (h0 : p.inode ≠ 0) : ∃ x, get s p.inode = some x := by
  obtain ⟨_, _, _, h5⟩ := nameP_ok h hF.root
  have hx : (get s p.inode).isSome = true := by
    rcases h5 with ⟨_, e, _⟩ | ⟨_, e⟩
    · have := hF.root
      rw [e]
      cases hg : get s 1 with
      | none => unfold kindOf at this; rw [hg] at this; cases this
      | some x => rfl
    · cases hm : get (namesOf s p.dir) p.name with
      | none => rw [hm] at e; exact absurd e h0
      | some m =>
        rw [hm] at e
        have := hF.closed p.dir _ (get_mem hm)
        rw [e]; exact this
  exact Option.isSome_iff_exists.1 hx
section
variable {W : World} {L : Lay} {fb : Nat} {n : Int} {nb : Nat}
set_option maxRecDepth 100000 in
set_option maxHeartbeats 8000000 in
theorem link1_st (h : Sim W L fb n nb (.slice none 0 0) []) (hw : WF L nb) (hF : Fit (stOf L nb)) (old other : Tx) (ho : old.length ≤ 140737488355328) (hr : other.length ≤ 140737488355328) (bo bn bf : Nat)
    (hbo : Off W L (.slice none 0 0) bo #[.string (mk old)] 9) (hbn : Off W L (.slice none 0 0) bn #[.string (mk other)] 9) (hbf : Off W L (.slice none 0 0) bf #[evP fb] 23)
    (hto : ∀ s' t v, linkD (stOf L nb) old other = .ok (s', t, v) → TOk s') :
    Body fb n nb L (fun _ => False) (fun _ _ => True) (linkD (stOf L nb) old other) W 58 #[evP bo, evP bn, evP bf] := by
  have N0 : Now W L (fun _ => False) fb n nb W L (.slice none 0 0) [] (stOf L nb) := .start h hw fun x e => e.elim
  have HP := Pw.parse_st old ho W
  have HM := Pw.make_st other hr
  have f0 : W.cell? ⟨bo, 0, none⟩ = some (.string (mk old)) := hbo.1.cell 0
  have f1 : W.cell? ⟨bn, 0, none⟩ = some (.string (mk other)) := hbn.1.cell 0
  have f2 : W.cell? ⟨bf, 0, none⟩ = some (.pointer (some ⟨fb, 0, none⟩)) := hbf.1.cell 0
  have m0 := hbo.lt
  have m1 := hbn.lt
  have m2 := hbf.lt
  unfold Body evP
  unfold linkD at hto ⊢
  cases hpa : parse old with
  | error z =>
    rw [hpa] at HP
    go_enter Tryz.func58, Tryz.ntmps58
    go_wp2_with (go_at_call 59; refine HP.mono ?_; rintro e w1 ⟨hb1, rfl, hzn⟩; have hzb := (bne_iff_ne.2 hzn))
    go_ret
    exact ⟨L, _, [], _, (N0.below hb1).st, (N0.below hb1).step, by simp, fun _ e => e.elim, rfl, hzn, 0, trivial⟩
  | ok parts =>
    rw [hpa] at HP hto
    dsimp only at hto ⊢
    cases hma : make other with
    | error z =>
      rw [hma] at HM
      clear hpa
      go_enter Tryz.func58, Tryz.ntmps58
      go_wp2_with (first | (go_at_call 59; refine HP.mono ?_; rintro e w1 ⟨hb1, v1, rfl, hown1⟩; obtain ⟨ao1, c1, rfl, _⟩ := own_shape2 hown1; have u0 := (hb1.cell (p := ⟨bo, 0, none⟩) m0).trans f0; have u1 := (hb1.cell (p := ⟨bn, 0, none⟩) m1).trans f1; have u2 := (hb1.cell (p := ⟨bf, 0, none⟩) m2).trans f2) | (go_at_call 56; refine (HM w1).mono ?_; rintro e w2 ⟨hb2, rfl, hzn⟩; have hzb := (bne_iff_ne.2 hzn); have hB2 := Below.after hb1 hb2))
      go_ret
      exact ⟨L, _, [], _, (N0.below hB2).st, (N0.below hB2).step, by simp, fun _ e => e.elim, rfl, hzn, 0, trivial⟩
    | ok mm =>
      obtain ⟨mp, mn⟩ := mm
      rw [hma] at HM hto
      dsimp only at hto HM ⊢
      cases hta : toP (stOf L nb) old false with
      | error z =>
        clear hpa hma
        go_enter Tryz.func58, Tryz.ntmps58
        go_wp2_with (first | (go_at_call 59; refine HP.mono ?_; rintro e w1 ⟨hb1, v1, rfl, hown1⟩; obtain ⟨ao1, c1, rfl, _⟩ := own_shape2 hown1; have u0 := (hb1.cell (p := ⟨bo, 0, none⟩) m0).trans f0; have u1 := (hb1.cell (p := ⟨bn, 0, none⟩) m1).trans f1; have u2 := (hb1.cell (p := ⟨bf, 0, none⟩) m2).trans f2) | (go_at_call 56; refine (HM w1).mono ?_; rintro e w2 ⟨hb2, v2, rfl, hst2⟩; have hst2' := hst2; obtain ⟨ao2, c2, rfl, _, _⟩ := hst2'; have hB2 := Below.after hb1 hb2; have s0 := (hB2.cell (p := ⟨bo, 0, none⟩) m0).trans f0; have s1 := (hB2.cell (p := ⟨bn, 0, none⟩) m1).trans f1; have s2 := (hB2.cell (p := ⟨bf, 0, none⟩) m2).trans f2) | (go_at_call 60; refine (to_st (h.below hB2) hw hF.toGood old ho false).mono ?_; rintro e w3 ⟨hR, hb3⟩; rw [hta] at hR; obtain ⟨rfl, hzn⟩ := hR; have hzb := (bne_iff_ne.2 hzn); have hB3 := Below.after hB2 hb3))
        go_ret
        exact ⟨L, _, [], _, ((N0.below hB3).alloc _).st, ((N0.below hB3).alloc _).step, by simp, fun _ e => e.elim, rfl, hzn, 0, trivial⟩
      | ok a =>
        obtain ⟨xa, hxa⟩ := toP_some hta hF.root
        obtain ⟨b, hax, hbx⟩ := Adr.of_st hxa
        obtain ⟨ha1, ha2⟩ := hF.ids _ _ hxa
        have hla := hF.many _ _ hxa
        rw [hta] at hto
        dsimp only at hto ⊢
        cases hnq : nameP (stOf L nb) other with
        | error z =>
          have hka : kindOf (stOf L nb) a.inode = xa.kind := by unfold kindOf; rw [hxa]; rfl
          clear hpa hma hxa hbx hka
          go_enter Tryz.func58, Tryz.ntmps58
          go_wp2_with (first | (go_at_call 59; refine HP.mono ?_; rintro e w1 ⟨hb1, v1, rfl, hown1⟩; obtain ⟨ao1, c1, rfl, _⟩ := own_shape2 hown1; have u0 := (hb1.cell (p := ⟨bo, 0, none⟩) m0).trans f0; have u1 := (hb1.cell (p := ⟨bn, 0, none⟩) m1).trans f1; have u2 := (hb1.cell (p := ⟨bf, 0, none⟩) m2).trans f2) | (go_at_call 56; refine (HM w1).mono ?_; rintro e w2 ⟨hb2, v2, rfl, hst2⟩; have hst2' := hst2; obtain ⟨ao2, c2, rfl, _, _⟩ := hst2'; have hB2 := Below.after hb1 hb2; have s0 := (hB2.cell (p := ⟨bo, 0, none⟩) m0).trans f0; have s1 := (hB2.cell (p := ⟨bn, 0, none⟩) m1).trans f1; have s2 := (hB2.cell (p := ⟨bf, 0, none⟩) m2).trans f2) | (go_at_call 60; refine (to_st (h.below hB2) hw hF.toGood old ho false).mono ?_; rintro e w3 ⟨hR, hb3⟩; rw [hta] at hR; obtain ⟨v3, rfl, hown3⟩ := hR; obtain ⟨ao3, c3, rfl, _⟩ := own_shape2 hown3; have hB3 := Below.after hB2 hb3; have N3 := (N0.below hB3).alloc (.cells #[.slice ao3 a.chain.length c3, .string (mk a.name), .int .i64 a.inode] 99); have pl3 := Off.new (N0.below hB3) #[.slice ao3 a.chain.length c3, .string (mk a.name), .int .i64 a.inode] 99; have y0 := (hB3.cell (p := ⟨bo, 0, none⟩) m0).trans f0; have y1 := (hB3.cell (p := ⟨bn, 0, none⟩) m1).trans f1; have y2 := (hB3.cell (p := ⟨bf, 0, none⟩) m2).trans f2; have l0 := Nat.lt_of_lt_of_le m0 hB3.size; have l1 := Nat.lt_of_lt_of_le m1 hB3.size; have l2 := Nat.lt_of_lt_of_le m2 hB3.size) | (go_at_call 46; refine (name_st N3.st.sim hw hF.toGood other hr).mono ?_; rintro e w4 ⟨hR4, hb4⟩; rw [hnq] at hR4; obtain ⟨rfl, hzn⟩ := hR4; have hzb := (bne_iff_ne.2 hzn); have N4 := (N3.below hb4).alloc (.cells #[.slice none 0 0, .string (mk []), .int .i64 0] 99); have lp3 := pl3.lt; have pp4 := pl3.below hb4; have q3 : w4.cell? ⟨w3.heap.size, 2, none⟩ = some (.int .i64 a.inode) := pp4.1.cell 2; have lp4 := pp4.lt; have hB4 : Below W.heap.size W w4 := Below.after (hB3.alloc hB3.size _) hb4; have z0 := (hB4.cell (p := ⟨bo, 0, none⟩) m0).trans f0; have z1 := (hB4.cell (p := ⟨bn, 0, none⟩) m1).trans f1; have z2 := (hB4.cell (p := ⟨bf, 0, none⟩) m2).trans f2; have n0 := Nat.lt_of_lt_of_le m0 hB4.size; have n1 := Nat.lt_of_lt_of_le m1 hB4.size; have n2 := Nat.lt_of_lt_of_le m2 hB4.size) | (go_at_call 40; refine (at_st N4.st.sim hw hax ha1 ha2).mono ?_; rintro e w' ⟨rfl, rfl⟩))
          go_ret
          exact ⟨L, _, [], _, (N4).st, (N4).step, by simp, fun _ e => e.elim, rfl, hzn, 0, trivial⟩
        | ok q =>
          obtain ⟨hqc, hql, hqn, hqk, x0, hx0⟩ := nameP_dir hnq hF.root
          obtain ⟨d, had, _⟩ := Adr.of_st hx0
          obtain ⟨hd1, hd2⟩ := hF.ids _ x0 hx0
          obtain ⟨d1, d2, d3, d4, d5⟩ := hF.many _ x0 hx0
          have hng := fun h0 => nameP_none hF hnq h0
          have hlo : linksOf (stOf L nb) a.inode = xa.links := by unfold linksOf; rw [hxa]; rfl
          have hlb1 : -1000000 ≤ linksOf (stOf L nb) a.inode := by rw [hlo]; exact hla.2.2.2.1
          have hlb2 : linksOf (stOf L nb) a.inode ≤ 1000000 := by rw [hlo]; exact hla.2.2.2.2
          rw [hnq] at hto
          dsimp only at hto ⊢
          have Hz := Lib.hid (And.intro hpa (And.intro hma (And.intro hxa (And.intro hbx (And.intro hx0 (And.intro hqk (And.intro hng hlo)))))))
          clear hpa hma hxa hbx hx0 hqk hng hlo
          by_cases c1 : kindOf (stOf L nb) a.inode = 2
          · rw [if_pos c1]
            have hkb : (kindOf (stOf L nb) a.inode == 2) = true := by rw [c1]; rfl
            clear c1 hto
            go_enter Tryz.func58, Tryz.ntmps58
            go_wp2_with (first | (go_at_call 59; refine HP.mono ?_; rintro e w1 ⟨hb1, v1, rfl, hown1⟩; obtain ⟨ao1, c1, rfl, _⟩ := own_shape2 hown1; have u0 := (hb1.cell (p := ⟨bo, 0, none⟩) m0).trans f0; have u1 := (hb1.cell (p := ⟨bn, 0, none⟩) m1).trans f1; have u2 := (hb1.cell (p := ⟨bf, 0, none⟩) m2).trans f2) | (go_at_call 56; refine (HM w1).mono ?_; rintro e w2 ⟨hb2, v2, rfl, hst2⟩; have hst2' := hst2; obtain ⟨ao2, c2, rfl, _, _⟩ := hst2'; have hB2 := Below.after hb1 hb2; have s0 := (hB2.cell (p := ⟨bo, 0, none⟩) m0).trans f0; have s1 := (hB2.cell (p := ⟨bn, 0, none⟩) m1).trans f1; have s2 := (hB2.cell (p := ⟨bf, 0, none⟩) m2).trans f2) | (go_at_call 60; refine (to_st (h.below hB2) hw hF.toGood old ho false).mono ?_; rintro e w3 ⟨hR, hb3⟩; rw [hta] at hR; obtain ⟨v3, rfl, hown3⟩ := hR; obtain ⟨ao3, c3, rfl, _⟩ := own_shape2 hown3; have hB3 := Below.after hB2 hb3; have N3 := (N0.below hB3).alloc (.cells #[.slice ao3 a.chain.length c3, .string (mk a.name), .int .i64 a.inode] 99); have pl3 := Off.new (N0.below hB3) #[.slice ao3 a.chain.length c3, .string (mk a.name), .int .i64 a.inode] 99; have y0 := (hB3.cell (p := ⟨bo, 0, none⟩) m0).trans f0; have y1 := (hB3.cell (p := ⟨bn, 0, none⟩) m1).trans f1; have y2 := (hB3.cell (p := ⟨bf, 0, none⟩) m2).trans f2; have l0 := Nat.lt_of_lt_of_le m0 hB3.size; have l1 := Nat.lt_of_lt_of_le m1 hB3.size; have l2 := Nat.lt_of_lt_of_le m2 hB3.size) | (go_at_call 46; refine (name_st N3.st.sim hw hF.toGood other hr).mono ?_; rintro e w4 ⟨hR4, hb4⟩; rw [hnq] at hR4; obtain ⟨v4, rfl, hown4⟩ := hR4; obtain ⟨ao4, c4, rfl, _⟩ := own_shape2 hown4; have N4 := (N3.below hb4).alloc (.cells #[.slice ao4 q.chain.length c4, .string (mk q.name), .int .i64 q.inode] 99); have lp3 := pl3.lt; have pp4 := pl3.below hb4; have q3 : w4.cell? ⟨w3.heap.size, 2, none⟩ = some (.int .i64 a.inode) := pp4.1.cell 2; have lp4 := pp4.lt; have hB4 : Below W.heap.size W w4 := Below.after (hB3.alloc hB3.size _) hb4; have z0 := (hB4.cell (p := ⟨bo, 0, none⟩) m0).trans f0; have z1 := (hB4.cell (p := ⟨bn, 0, none⟩) m1).trans f1; have z2 := (hB4.cell (p := ⟨bf, 0, none⟩) m2).trans f2; have n0 := Nat.lt_of_lt_of_le m0 hB4.size; have n1 := Nat.lt_of_lt_of_le m1 hB4.size; have n2 := Nat.lt_of_lt_of_le m2 hB4.size; obtain ⟨_, _, _, _, k0, k1⟩ := N4.st.node hax; obtain ⟨_, _, _, _, _, k2⟩ := (N3.below hb4).st.node hax; have lx := adr_lt (N3.below hb4).st.sim hw hax) | (go_at_call 40; refine (at_st N4.st.sim hw hax ha1 ha2).mono ?_; rintro e w' ⟨rfl, rfl⟩) | (go_at_call 48; refine (isDir_any _ k0).mono ?_; rintro e w' ⟨rfl, rfl⟩; rw [hkb]))
            go_ret
            exact ⟨L, _, [], _, (N4).st, (N4).step, by simp, fun _ e => e.elim, rfl, by decide, 0, trivial⟩
          have hkb : (kindOf (stOf L nb) a.inode == 2) = false := by rw [beq_eq_false_iff_ne]; exact c1
          rw [if_neg c1] at hto ⊢
          clear c1
          by_cases c2 : q.inode ≠ 0
          · rw [if_pos c2]
            have hzq := bne_iff_ne.2 c2
            clear c2 hto
            go_enter Tryz.func58, Tryz.ntmps58
            go_wp2_with (first | (go_at_call 59; refine HP.mono ?_; rintro e w1 ⟨hb1, v1, rfl, hown1⟩; obtain ⟨ao1, c1, rfl, _⟩ := own_shape2 hown1; have u0 := (hb1.cell (p := ⟨bo, 0, none⟩) m0).trans f0; have u1 := (hb1.cell (p := ⟨bn, 0, none⟩) m1).trans f1; have u2 := (hb1.cell (p := ⟨bf, 0, none⟩) m2).trans f2) | (go_at_call 56; refine (HM w1).mono ?_; rintro e w2 ⟨hb2, v2, rfl, hst2⟩; have hst2' := hst2; obtain ⟨ao2, c2, rfl, _, _⟩ := hst2'; have hB2 := Below.after hb1 hb2; have s0 := (hB2.cell (p := ⟨bo, 0, none⟩) m0).trans f0; have s1 := (hB2.cell (p := ⟨bn, 0, none⟩) m1).trans f1; have s2 := (hB2.cell (p := ⟨bf, 0, none⟩) m2).trans f2) | (go_at_call 60; refine (to_st (h.below hB2) hw hF.toGood old ho false).mono ?_; rintro e w3 ⟨hR, hb3⟩; rw [hta] at hR; obtain ⟨v3, rfl, hown3⟩ := hR; obtain ⟨ao3, c3, rfl, _⟩ := own_shape2 hown3; have hB3 := Below.after hB2 hb3; have N3 := (N0.below hB3).alloc (.cells #[.slice ao3 a.chain.length c3, .string (mk a.name), .int .i64 a.inode] 99); have pl3 := Off.new (N0.below hB3) #[.slice ao3 a.chain.length c3, .string (mk a.name), .int .i64 a.inode] 99; have y0 := (hB3.cell (p := ⟨bo, 0, none⟩) m0).trans f0; have y1 := (hB3.cell (p := ⟨bn, 0, none⟩) m1).trans f1; have y2 := (hB3.cell (p := ⟨bf, 0, none⟩) m2).trans f2; have l0 := Nat.lt_of_lt_of_le m0 hB3.size; have l1 := Nat.lt_of_lt_of_le m1 hB3.size; have l2 := Nat.lt_of_lt_of_le m2 hB3.size) | (go_at_call 46; refine (name_st N3.st.sim hw hF.toGood other hr).mono ?_; rintro e w4 ⟨hR4, hb4⟩; rw [hnq] at hR4; obtain ⟨v4, rfl, hown4⟩ := hR4; obtain ⟨ao4, c4, rfl, _⟩ := own_shape2 hown4; have N4 := (N3.below hb4).alloc (.cells #[.slice ao4 q.chain.length c4, .string (mk q.name), .int .i64 q.inode] 99); have lp3 := pl3.lt; have pp4 := pl3.below hb4; have q3 : w4.cell? ⟨w3.heap.size, 2, none⟩ = some (.int .i64 a.inode) := pp4.1.cell 2; have lp4 := pp4.lt; have hB4 : Below W.heap.size W w4 := Below.after (hB3.alloc hB3.size _) hb4; have z0 := (hB4.cell (p := ⟨bo, 0, none⟩) m0).trans f0; have z1 := (hB4.cell (p := ⟨bn, 0, none⟩) m1).trans f1; have z2 := (hB4.cell (p := ⟨bf, 0, none⟩) m2).trans f2; have n0 := Nat.lt_of_lt_of_le m0 hB4.size; have n1 := Nat.lt_of_lt_of_le m1 hB4.size; have n2 := Nat.lt_of_lt_of_le m2 hB4.size; obtain ⟨_, _, _, _, k0, k1⟩ := N4.st.node hax; obtain ⟨_, _, _, _, _, k2⟩ := (N3.below hb4).st.node hax; have lx := adr_lt (N3.below hb4).st.sim hw hax) | (go_at_call 40; refine (at_st N4.st.sim hw hax ha1 ha2).mono ?_; rintro e w' ⟨rfl, rfl⟩) | (go_at_call 48; refine (isDir_any _ k0).mono ?_; rintro e w' ⟨rfl, rfl⟩; rw [hkb]))
            go_ret
            exact ⟨L, _, [], _, (N4).st, (N4).step, by simp, fun _ e => e.elim, rfl, by decide, 0, trivial⟩
          have hzq : (q.inode != 0) = false := by simpa using c2
          rw [if_neg c2] at hto ⊢
          have Hc2 := Lib.hid c2
          clear c2
          by_cases c3 : 1000 ≤ linksOf (stOf L nb) a.inode
          · rw [if_pos c3]
            clear hto
            go_enter Tryz.func58, Tryz.ntmps58
            go_wp2_with (first | (go_at_call 59; refine HP.mono ?_; rintro e w1 ⟨hb1, v1, rfl, hown1⟩; obtain ⟨ao1, c1, rfl, _⟩ := own_shape2 hown1; have u0 := (hb1.cell (p := ⟨bo, 0, none⟩) m0).trans f0; have u1 := (hb1.cell (p := ⟨bn, 0, none⟩) m1).trans f1; have u2 := (hb1.cell (p := ⟨bf, 0, none⟩) m2).trans f2) | (go_at_call 56; refine (HM w1).mono ?_; rintro e w2 ⟨hb2, v2, rfl, hst2⟩; have hst2' := hst2; obtain ⟨ao2, c2, rfl, _, _⟩ := hst2'; have hB2 := Below.after hb1 hb2; have s0 := (hB2.cell (p := ⟨bo, 0, none⟩) m0).trans f0; have s1 := (hB2.cell (p := ⟨bn, 0, none⟩) m1).trans f1; have s2 := (hB2.cell (p := ⟨bf, 0, none⟩) m2).trans f2) | (go_at_call 60; refine (to_st (h.below hB2) hw hF.toGood old ho false).mono ?_; rintro e w3 ⟨hR, hb3⟩; rw [hta] at hR; obtain ⟨v3, rfl, hown3⟩ := hR; obtain ⟨ao3, c3, rfl, _⟩ := own_shape2 hown3; have hB3 := Below.after hB2 hb3; have N3 := (N0.below hB3).alloc (.cells #[.slice ao3 a.chain.length c3, .string (mk a.name), .int .i64 a.inode] 99); have pl3 := Off.new (N0.below hB3) #[.slice ao3 a.chain.length c3, .string (mk a.name), .int .i64 a.inode] 99; have y0 := (hB3.cell (p := ⟨bo, 0, none⟩) m0).trans f0; have y1 := (hB3.cell (p := ⟨bn, 0, none⟩) m1).trans f1; have y2 := (hB3.cell (p := ⟨bf, 0, none⟩) m2).trans f2; have l0 := Nat.lt_of_lt_of_le m0 hB3.size; have l1 := Nat.lt_of_lt_of_le m1 hB3.size; have l2 := Nat.lt_of_lt_of_le m2 hB3.size) | (go_at_call 46; refine (name_st N3.st.sim hw hF.toGood other hr).mono ?_; rintro e w4 ⟨hR4, hb4⟩; rw [hnq] at hR4; obtain ⟨v4, rfl, hown4⟩ := hR4; obtain ⟨ao4, c4, rfl, _⟩ := own_shape2 hown4; have N4 := (N3.below hb4).alloc (.cells #[.slice ao4 q.chain.length c4, .string (mk q.name), .int .i64 q.inode] 99); have lp3 := pl3.lt; have pp4 := pl3.below hb4; have q3 : w4.cell? ⟨w3.heap.size, 2, none⟩ = some (.int .i64 a.inode) := pp4.1.cell 2; have lp4 := pp4.lt; have hB4 : Below W.heap.size W w4 := Below.after (hB3.alloc hB3.size _) hb4; have z0 := (hB4.cell (p := ⟨bo, 0, none⟩) m0).trans f0; have z1 := (hB4.cell (p := ⟨bn, 0, none⟩) m1).trans f1; have z2 := (hB4.cell (p := ⟨bf, 0, none⟩) m2).trans f2; have n0 := Nat.lt_of_lt_of_le m0 hB4.size; have n1 := Nat.lt_of_lt_of_le m1 hB4.size; have n2 := Nat.lt_of_lt_of_le m2 hB4.size; obtain ⟨_, _, _, _, k0, k1⟩ := N4.st.node hax; obtain ⟨_, _, _, _, _, k2⟩ := (N3.below hb4).st.node hax; have lx := adr_lt (N3.below hb4).st.sim hw hax) | (go_at_call 40; refine (at_st N4.st.sim hw hax ha1 ha2).mono ?_; rintro e w' ⟨rfl, rfl⟩) | (go_at_call 48; refine (isDir_any _ k0).mono ?_; rintro e w' ⟨rfl, rfl⟩; rw [hkb]))
            go_ret
            exact ⟨L, _, [], _, (N4).st, (N4).step, by simp, fun _ e => e.elim, rfl, by decide, 0, trivial⟩
          rw [if_neg c3] at hto ⊢
          by_cases c4 : 32 < q.chain.length
          · rw [if_pos c4]
            clear hto
            go_enter Tryz.func58, Tryz.ntmps58
            go_wp2_with (first | (go_at_call 59; refine HP.mono ?_; rintro e w1 ⟨hb1, v1, rfl, hown1⟩; obtain ⟨ao1, c1, rfl, _⟩ := own_shape2 hown1; have u0 := (hb1.cell (p := ⟨bo, 0, none⟩) m0).trans f0; have u1 := (hb1.cell (p := ⟨bn, 0, none⟩) m1).trans f1; have u2 := (hb1.cell (p := ⟨bf, 0, none⟩) m2).trans f2) | (go_at_call 56; refine (HM w1).mono ?_; rintro e w2 ⟨hb2, v2, rfl, hst2⟩; have hst2' := hst2; obtain ⟨ao2, c2, rfl, _, _⟩ := hst2'; have hB2 := Below.after hb1 hb2; have s0 := (hB2.cell (p := ⟨bo, 0, none⟩) m0).trans f0; have s1 := (hB2.cell (p := ⟨bn, 0, none⟩) m1).trans f1; have s2 := (hB2.cell (p := ⟨bf, 0, none⟩) m2).trans f2) | (go_at_call 60; refine (to_st (h.below hB2) hw hF.toGood old ho false).mono ?_; rintro e w3 ⟨hR, hb3⟩; rw [hta] at hR; obtain ⟨v3, rfl, hown3⟩ := hR; obtain ⟨ao3, c3, rfl, _⟩ := own_shape2 hown3; have hB3 := Below.after hB2 hb3; have N3 := (N0.below hB3).alloc (.cells #[.slice ao3 a.chain.length c3, .string (mk a.name), .int .i64 a.inode] 99); have pl3 := Off.new (N0.below hB3) #[.slice ao3 a.chain.length c3, .string (mk a.name), .int .i64 a.inode] 99; have y0 := (hB3.cell (p := ⟨bo, 0, none⟩) m0).trans f0; have y1 := (hB3.cell (p := ⟨bn, 0, none⟩) m1).trans f1; have y2 := (hB3.cell (p := ⟨bf, 0, none⟩) m2).trans f2; have l0 := Nat.lt_of_lt_of_le m0 hB3.size; have l1 := Nat.lt_of_lt_of_le m1 hB3.size; have l2 := Nat.lt_of_lt_of_le m2 hB3.size) | (go_at_call 46; refine (name_st N3.st.sim hw hF.toGood other hr).mono ?_; rintro e w4 ⟨hR4, hb4⟩; rw [hnq] at hR4; obtain ⟨v4, rfl, hown4⟩ := hR4; obtain ⟨ao4, c4, rfl, _⟩ := own_shape2 hown4; have N4 := (N3.below hb4).alloc (.cells #[.slice ao4 q.chain.length c4, .string (mk q.name), .int .i64 q.inode] 99); have lp3 := pl3.lt; have pp4 := pl3.below hb4; have q3 : w4.cell? ⟨w3.heap.size, 2, none⟩ = some (.int .i64 a.inode) := pp4.1.cell 2; have lp4 := pp4.lt; have hB4 : Below W.heap.size W w4 := Below.after (hB3.alloc hB3.size _) hb4; have z0 := (hB4.cell (p := ⟨bo, 0, none⟩) m0).trans f0; have z1 := (hB4.cell (p := ⟨bn, 0, none⟩) m1).trans f1; have z2 := (hB4.cell (p := ⟨bf, 0, none⟩) m2).trans f2; have n0 := Nat.lt_of_lt_of_le m0 hB4.size; have n1 := Nat.lt_of_lt_of_le m1 hB4.size; have n2 := Nat.lt_of_lt_of_le m2 hB4.size; obtain ⟨_, _, _, _, k0, k1⟩ := N4.st.node hax; obtain ⟨_, _, _, _, _, k2⟩ := (N3.below hb4).st.node hax; have lx := adr_lt (N3.below hb4).st.sim hw hax) | (go_at_call 40; refine (at_st N4.st.sim hw hax ha1 ha2).mono ?_; rintro e w' ⟨rfl, rfl⟩) | (go_at_call 48; refine (isDir_any _ k0).mono ?_; rintro e w' ⟨rfl, rfl⟩; rw [hkb]))
            go_ret
            exact ⟨L, _, [], _, (N4).st, (N4).step, by simp, fun _ e => e.elim, rfl, by decide, 0, trivial⟩
          rw [if_neg c4] at hto ⊢
          have hto' := hto _ _ _ rfl
          have HT0 := Lib.hid hto'
          clear hto hto'
          go_enter Tryz.func58, Tryz.ntmps58
          go_wp2_with (first | (go_at_call 59; refine HP.mono ?_; rintro e w1 ⟨hb1, v1, rfl, hown1⟩; obtain ⟨ao1, c1, rfl, _⟩ := own_shape2 hown1; have u0 := (hb1.cell (p := ⟨bo, 0, none⟩) m0).trans f0; have u1 := (hb1.cell (p := ⟨bn, 0, none⟩) m1).trans f1; have u2 := (hb1.cell (p := ⟨bf, 0, none⟩) m2).trans f2) | (go_at_call 56; refine (HM w1).mono ?_; rintro e w2 ⟨hb2, v2, rfl, hst2⟩; have hst2' := hst2; obtain ⟨ao2, c2, rfl, _, _⟩ := hst2'; have hB2 := Below.after hb1 hb2; have s0 := (hB2.cell (p := ⟨bo, 0, none⟩) m0).trans f0; have s1 := (hB2.cell (p := ⟨bn, 0, none⟩) m1).trans f1; have s2 := (hB2.cell (p := ⟨bf, 0, none⟩) m2).trans f2) | (go_at_call 60; refine (to_st (h.below hB2) hw hF.toGood old ho false).mono ?_; rintro e w3 ⟨hR, hb3⟩; rw [hta] at hR; obtain ⟨v3, rfl, hown3⟩ := hR; obtain ⟨ao3, c3, rfl, _⟩ := own_shape2 hown3; have hB3 := Below.after hB2 hb3; have N3 := (N0.below hB3).alloc (.cells #[.slice ao3 a.chain.length c3, .string (mk a.name), .int .i64 a.inode] 99); have pl3 := Off.new (N0.below hB3) #[.slice ao3 a.chain.length c3, .string (mk a.name), .int .i64 a.inode] 99; have y0 := (hB3.cell (p := ⟨bo, 0, none⟩) m0).trans f0; have y1 := (hB3.cell (p := ⟨bn, 0, none⟩) m1).trans f1; have y2 := (hB3.cell (p := ⟨bf, 0, none⟩) m2).trans f2; have l0 := Nat.lt_of_lt_of_le m0 hB3.size; have l1 := Nat.lt_of_lt_of_le m1 hB3.size; have l2 := Nat.lt_of_lt_of_le m2 hB3.size) | (go_at_call 46; refine (name_st N3.st.sim hw hF.toGood other hr).mono ?_; rintro e w4 ⟨hR4, hb4⟩; rw [hnq] at hR4; obtain ⟨v4, rfl, hown4⟩ := hR4; obtain ⟨ao4, c4, rfl, _⟩ := own_shape2 hown4; have N4 := (N3.below hb4).alloc (.cells #[.slice ao4 q.chain.length c4, .string (mk q.name), .int .i64 q.inode] 99); have lp3 := pl3.lt; have pp4 := pl3.below hb4; have q3 : w4.cell? ⟨w3.heap.size, 2, none⟩ = some (.int .i64 a.inode) := pp4.1.cell 2; have lp4 := pp4.lt; have hB4 : Below W.heap.size W w4 := Below.after (hB3.alloc hB3.size _) hb4; have z0 := (hB4.cell (p := ⟨bo, 0, none⟩) m0).trans f0; have z1 := (hB4.cell (p := ⟨bn, 0, none⟩) m1).trans f1; have z2 := (hB4.cell (p := ⟨bf, 0, none⟩) m2).trans f2; have n0 := Nat.lt_of_lt_of_le m0 hB4.size; have n1 := Nat.lt_of_lt_of_le m1 hB4.size; have n2 := Nat.lt_of_lt_of_le m2 hB4.size; obtain ⟨_, _, _, _, k0, k1⟩ := N4.st.node hax; obtain ⟨_, _, _, _, _, k2⟩ := (N3.below hb4).st.node hax; have lx := adr_lt (N3.below hb4).st.sim hw hax) | (go_at_call 40; refine (at_st N4.st.sim hw hax ha1 ha2).mono ?_; rintro e w' ⟨rfl, rfl⟩) | (go_at_call 48; refine (isDir_any _ k0).mono ?_; rintro e w' ⟨rfl, rfl⟩; rw [hkb]) | (go_at_call 53; refine (links_st N4.st (by simp) hax 1 hlb1 hlb2 (by omega) (by omega)).mono ?_; rintro e w5 ⟨rfl, ha5⟩; obtain ⟨L5, uv5, vals5, N5, T5, len5, ne5, adr5⟩ := N4.after ha5))
          obtain ⟨hpa, hma, hxa, hbx, hx0, hqk, hng, hlo⟩ := Hz
          have hc2 : q.inode = 0 := by unfold Hid at Hc2; simpa using Hc2
          have had5 := adr5 _ _ had
          have bf5 := ((hbf.below hB4).alloc _).step T5
          have pl5 := (pp4.alloc _).step T5
          have pm5 := (Off.new (N3.below hb4) _ _).step T5
          have rw5 := ((OffRow.new N3 hown4).alloc _).step T5
          have hn5 : namesOf (linksN (stOf L nb) a.inode 1) q.dir = x0.names := by rw [namesOf_linksN]; unfold namesOf; rw [hx0]; rfl
          have hng' := hng hc2
          rw [show namesOf (stOf L nb) q.dir = x0.names by unfold namesOf; rw [hx0]; rfl] at hng'
          have hk5 : kindOf (linksN (stOf L nb) a.inode 1) q.dir = 2 := by rw [kindOf_linksN]; exact hqk
          have hbl : ∀ x, get (linksN (stOf L nb) a.inode 1) q.dir = some x → 0 ≤ x.blocks ∧ x.blocks ≤ 1000000 := fun x hx => by
            have := field_mod (stOf L nb) a.inode q.dir (fun x => { x with links := x.links + 1 }) (·.blocks) (fun _ => rfl)
            rw [show get (modN (stOf L nb) a.inode fun x => { x with links := x.links + 1 }) q.dir = some x from hx, hx0] at this
            simp only [Option.map_some, Option.some.injEq] at this
            rw [this]; exact ⟨d2, d3⟩
          have hdir : ∀ w6, Below w5.heap.size w5 w6 → Calls Tryz.prog 50 #[.agg #[.slice ao4 q.chain.length c4, .string (mk q.name), .int .i64 q.inode]] w6 fun e w7 => e = .returned (.int .i64 q.dir) ∧ Below w6.heap.size w6 w7 := fun w6 h6 => by
            obtain ⟨⟨_, ho⟩, _⟩ := rw5.below h6
            exact dir_any ho hqc (by omega) _ _
          have hput : ∀ w6, Below w5.heap.size w5 w6 → Calls Tryz.prog 61 #[.pointer (some ⟨fb, 0, none⟩), .int .i64 q.dir, .string (mk q.name), .int .i64 a.inode] w6 fun e w7 => e = .returned (.tuple #[]) ∧ After w6 L5 uv5 fb n nb L (vals5.length + 3) (Adr L5 nb) (putN (linksN (stOf L nb) a.inode 1) q.dir q.name a.inode) w7 := fun w6 h6 =>
            put_st (N5.below h6).st (by simp at len5; omega) had5 hd1 hd2 hk5 _ (by omega) (by rw [hn5]; exact hng') (by rw [hn5]; exact d1) _ hbl
          have Hd := Lib.hid hdir
          have Hp := Lib.hid hput
          have xf : w5.cell? ⟨bf, 0, none⟩ = some (.pointer (some ⟨fb, 0, none⟩)) := bf5.1.cell 0
          have xp0 : w5.cell? ⟨w4.heap.size, 0, none⟩ = some (.slice ao4 q.chain.length c4) := pm5.1.cell 0
          have xp1 : w5.cell? ⟨w4.heap.size, 1, none⟩ = some (.string (mk q.name)) := pm5.1.cell 1
          have xp2 : w5.cell? ⟨w4.heap.size, 2, none⟩ = some (.int .i64 q.inode) := pm5.1.cell 2
          have xo : w5.cell? ⟨w3.heap.size, 2, none⟩ = some (.int .i64 a.inode) := pl5.1.cell 2
          have lf := bf5.lt
          have lp := pm5.lt
          have lo := pl5.lt
          generalize hpb : w4.heap.size = pb at *
          generalize hpo : w3.heap.size = po at *
          clear hpa hma hxa hbx hx0 hqk hng hlo Hc2 hc2 had5 hn5 hng' hk5 hbl hdir hput hpb hpo ha5 T5 hzq HP HM hown3 hown4 N3 N4 pl3 pp4 f0 f1 f2 u0 u1 u2 s0 s1 s2
          go_region_held3 (fun w' => w'.cell? ⟨bf, 0, none⟩ = some (.pointer (some ⟨fb, 0, none⟩)) ∧ w'.cell? ⟨pb, 0, none⟩ = some (.slice ao4 q.chain.length c4) ∧ w'.cell? ⟨pb, 1, none⟩ = some (.string (mk q.name)) ∧ w'.cell? ⟨pb, 2, none⟩ = some (.int .i64 q.inode) ∧ w'.cell? ⟨po, 2, none⟩ = some (.int .i64 a.inode)) (refine ⟨?_, ?_, ?_, ?_, ?_⟩ <;> assumption) (first | (go_at_call 61; have hc := Hp; unfold Hid at hc; refine (hc _ hb6').mono ?_; clear hc; rintro e w7 ⟨rfl, ha7⟩; obtain ⟨L7, uv7, vals7, N7, T7, len7, ne7, adr7⟩ := (N5.below hb6').after ha7; have bf7 := (bf5.below hb6').step T7; have pm7 := (pm5.below hb6').step T7; have pl7 := (pl5.below hb6').step T7; have k1 : w7.cell? ⟨bf, 0, none⟩ = some (.pointer (some ⟨fb, 0, none⟩)) := bf7.1.cell 0; have k2 : w7.cell? ⟨pb, 0, none⟩ = some (.slice ao4 q.chain.length c4) := pm7.1.cell 0; have k3 : w7.cell? ⟨pb, 1, none⟩ = some (.string (mk q.name)) := pm7.1.cell 1; have k4 : w7.cell? ⟨pb, 2, none⟩ = some (.int .i64 q.inode) := pm7.1.cell 2; have k5 : w7.cell? ⟨po, 2, none⟩ = some (.int .i64 a.inode) := pl7.1.cell 2) | (go_at_call 50; have hc := Hd; unfold Hid at hc; refine (hc _ (Below.refl _ _).drew).mono ?_; clear hc; rintro e w6 ⟨rfl, hb6⟩; have hb6' : Below w5.heap.size w5 w6 := ⟨hb6.os, hb6.tape, hb6.output, hb6.size, hb6.block⟩; have j1 := (hb6.cell (p := ⟨bf, 0, none⟩) lf).trans xf; have j2 := (hb6.cell (p := ⟨pb, 0, none⟩) lp).trans xp0; have j3 := (hb6.cell (p := ⟨pb, 1, none⟩) lp).trans xp1; have j4 := (hb6.cell (p := ⟨pb, 2, none⟩) lp).trans xp2; have j5 := (hb6.cell (p := ⟨po, 2, none⟩) lo).trans xo))
          go_wp2_with fail
          go_ret
          exact ⟨L7, uv7, vals7, _, N7.st, N7.step, by simp at len5; omega, fun _ e => e.elim, rfl, rfl, by simp [ne7], trivial, HT0⟩
end
end Fs
end Go.Proofs.YtlnnbjgfpiefdaaGreat
