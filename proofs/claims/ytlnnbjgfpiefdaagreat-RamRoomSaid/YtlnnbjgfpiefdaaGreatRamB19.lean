/- Names are taken away: Unlink, rmdir. -/
import Derived.Test.YtlnnbjgfpiefdaaGreatRamB18
namespace Go.Proofs.YtlnnbjgfpiefdaaGreat
open Go.RowKit Go.Maps Go.Shelf

namespace Fs
theorem nameP_at {s : Tree} {t : Tx} {p : Place} (h : nameP s t = .ok p) (h1 : kindOf s 1 = 2) (hn : p.name ≠ []) (h0 : p.inode ≠ 0) : get (namesOf s p.dir) p.name = some p.inode := by
  obtain ⟨_, _, _, h5⟩ := nameP_ok h h1
  rcases h5 with ⟨e, _⟩ | ⟨_, e⟩
  · exact absurd e hn
  · cases hm : get (namesOf s p.dir) p.name with
    | none => rw [hm] at e; exact absurd e h0
    | some m => rw [hm] at e; rw [e]; rfl
theorem kind_get {s : Tree} {i : Int} {x : Nd} (h : get s i = some x) : kindOf s i = x.kind := by unfold kindOf; rw [h]; rfl
theorem links_get {s : Tree} {i : Int} {x : Nd} (h : get s i = some x) : linksOf s i = x.links := by unfold linksOf; rw [h]; rfl
theorem names_get {s : Tree} {i : Int} {x : Nd} (h : get s i = some x) : namesOf s i = x.names := by unfold namesOf; rw [h]; rfl
section
variable {W : World} {L : Lay} {fb : Nat} {n : Int} {nb : Nat}
set_option maxRecDepth 100000 in
set_option maxHeartbeats 8000000 in
theorem unlink1_st (h : Sim W L fb n nb (.slice none 0 0) []) (hw : WF L nb) (hF : Fit (stOf L nb)) (p : Tx) (hp : p.length ≤ 140737488355328) (hold : Bool) (bf bp bh bi : Nat) (hbf : Off W L (.slice none 0 0) bf #[evP fb] 23) (hbp : Off W L (.slice none 0 0) bp #[.string (mk p)] 9) (hbh : Off W L (.slice none 0 0) bh #[.bool hold] 4) {v0 : Int} (hbi : Off W L (.slice none 0 0) bi #[.int .i64 v0] 3)
    (hto : ∀ s' t v, unlinkD (stOf L nb) p hold = .ok (s', t, v) → TOk s') :
    Body fb n nb L (· = bi) (Holds bi 3) (unlinkD (stOf L nb) p hold) W 45 #[evP bf, evP bp, evP bh, evP bi] := by
  have N0 : Now W L (· = bi) fb n nb W L (.slice none 0 0) [] (stOf L nb) := .start h hw fun x e => by rw [e]; exact ⟨hbi.lt, hbi.2⟩
  have HT := name_st h hw hF.toGood p hp
  have f0 : W.cell? ⟨bf, 0, none⟩ = some (.pointer (some ⟨fb, 0, none⟩)) := hbf.1.cell 0
  have f1 : W.cell? ⟨bp, 0, none⟩ = some (.string (mk p)) := hbp.1.cell 0
  have f2 : W.cell? ⟨bh, 0, none⟩ = some (.bool hold) := hbh.1.cell 0
  have m0 := hbf.lt
  have m1 := hbp.lt
  have m2 := hbh.lt
  unfold Body evP
  unfold unlinkD at hto ⊢
  cases hnq : nameP (stOf L nb) p with
  | error z =>
    rw [hnq] at HT
    go_enter Tryz.func45, Tryz.ntmps45
    go_wp2_with (go_at_call 46; refine HT.mono ?_; rintro e w3 ⟨⟨rfl, hzn⟩, hb3⟩; have hzb := (bne_iff_ne.2 hzn))
    go_ret
    have N1 := (N0.below hb3).alloc (.cells #[.slice none 0 0, .string (mk []), .int .i64 0] 99)
    exact ⟨L, _, [], _, N1.st, N1.step, by simp, fun x e => (N1.z x e).2, rfl, hzn, v0, ((hbi.below hb3).alloc _).1⟩
  | ok q =>
    obtain ⟨hqc, hql, hqn, hqk, x0, hx0⟩ := nameP_dir hnq hF.root
    obtain ⟨d, had, _⟩ := Adr.of_st hx0
    obtain ⟨hd1, hd2⟩ := hF.ids _ x0 hx0
    obtain ⟨d1, d2, d3, d4, d5⟩ := hF.many _ x0 hx0
    have hat := nameP_at hnq hF.root
    have hth := nameP_there hF hnq
    rw [hnq] at HT hto
    dsimp only at hto ⊢
    have Hz := Lib.hid (And.intro hx0 hqk)
    clear hx0 hqk hnq
    by_cases c1 : q.name = []
    · rw [if_pos c1]
      have hroot : (q.name == []) = true := by rw [c1]; rfl
      have Hx := Lib.hid (And.intro c1 (And.intro hat hth))
      clear c1 hat hth
      clear hto
      go_enter Tryz.func45, Tryz.ntmps45
      go_wp2_with (first | (go_at_call 46; refine HT.mono ?_; rintro e w3 ⟨hR3, hb3⟩; obtain ⟨v3, rfl, hown3⟩ := hR3; obtain ⟨ao3, c3, rfl, _⟩ := own_shape2 hown3; have N1 := (N0.below hb3).alloc (.cells #[.slice ao3 q.chain.length c3, .string (mk q.name), .int .i64 q.inode] 99); have pl3 := Off.new (N0.below hb3) #[.slice ao3 q.chain.length c3, .string (mk q.name), .int .i64 q.inode] 99; have g0 := (hb3.cell (p := ⟨bf, 0, none⟩) m0).trans f0; have g1 := (hb3.cell (p := ⟨bp, 0, none⟩) m1).trans f1; have g2 := (hb3.cell (p := ⟨bh, 0, none⟩) m2).trans f2; have l0 := Nat.lt_of_lt_of_le m0 hb3.size; have l1 := Nat.lt_of_lt_of_le m1 hb3.size; have l2 := Nat.lt_of_lt_of_le m2 hb3.size) | (go_at_call 47; refine (isRoot_any _ _ _ _).mono ?_; rintro e w4 ⟨rfl, hb4⟩; rw [hroot]; have N4 := N1.below hb4; have pl4 := pl3.below hb4; have hB4 : Below W.heap.size W w4 := Below.after (hb3.alloc hb3.size _) hb4; have q0 : w4.cell? ⟨w3.heap.size, 0, none⟩ = some (.slice ao3 q.chain.length c3) := pl4.1.cell 0; have q1 : w4.cell? ⟨w3.heap.size, 1, none⟩ = some (.string (mk q.name)) := pl4.1.cell 1; have q2 : w4.cell? ⟨w3.heap.size, 2, none⟩ = some (.int .i64 q.inode) := pl4.1.cell 2; have z0 := (hB4.cell (p := ⟨bf, 0, none⟩) m0).trans f0; have z1 := (hB4.cell (p := ⟨bp, 0, none⟩) m1).trans f1; have z2 := (hB4.cell (p := ⟨bh, 0, none⟩) m2).trans f2; have n0 := Nat.lt_of_lt_of_le m0 hB4.size; have n1 := Nat.lt_of_lt_of_le m1 hB4.size; have n2 := Nat.lt_of_lt_of_le m2 hB4.size))
      go_ret
      exact ⟨L, _, [], _, N4.st, N4.step, by simp, fun x e => (N4.z x e).2, rfl, by decide, v0, (((hbi.below hb3).alloc _).below hb4).1⟩
    have hroot : (q.name == []) = false := by rw [beq_eq_false_iff_ne]; exact c1
    rw [if_neg c1] at hto ⊢
    by_cases c2 : q.inode = 0
    · rw [if_pos c2]
      have hzq : (q.inode == 0) = true := by rw [c2]; rfl
      clear c1 c2 hat hth
      clear hto
      go_enter Tryz.func45, Tryz.ntmps45
      go_wp2_with (first | (go_at_call 46; refine HT.mono ?_; rintro e w3 ⟨hR3, hb3⟩; obtain ⟨v3, rfl, hown3⟩ := hR3; obtain ⟨ao3, c3, rfl, _⟩ := own_shape2 hown3; have N1 := (N0.below hb3).alloc (.cells #[.slice ao3 q.chain.length c3, .string (mk q.name), .int .i64 q.inode] 99); have pl3 := Off.new (N0.below hb3) #[.slice ao3 q.chain.length c3, .string (mk q.name), .int .i64 q.inode] 99; have g0 := (hb3.cell (p := ⟨bf, 0, none⟩) m0).trans f0; have g1 := (hb3.cell (p := ⟨bp, 0, none⟩) m1).trans f1; have g2 := (hb3.cell (p := ⟨bh, 0, none⟩) m2).trans f2; have l0 := Nat.lt_of_lt_of_le m0 hb3.size; have l1 := Nat.lt_of_lt_of_le m1 hb3.size; have l2 := Nat.lt_of_lt_of_le m2 hb3.size) | (go_at_call 47; refine (isRoot_any _ _ _ _).mono ?_; rintro e w4 ⟨rfl, hb4⟩; rw [hroot]; have N4 := N1.below hb4; have pl4 := pl3.below hb4; have hB4 : Below W.heap.size W w4 := Below.after (hb3.alloc hb3.size _) hb4; have q0 : w4.cell? ⟨w3.heap.size, 0, none⟩ = some (.slice ao3 q.chain.length c3) := pl4.1.cell 0; have q1 : w4.cell? ⟨w3.heap.size, 1, none⟩ = some (.string (mk q.name)) := pl4.1.cell 1; have q2 : w4.cell? ⟨w3.heap.size, 2, none⟩ = some (.int .i64 q.inode) := pl4.1.cell 2; have z0 := (hB4.cell (p := ⟨bf, 0, none⟩) m0).trans f0; have z1 := (hB4.cell (p := ⟨bp, 0, none⟩) m1).trans f1; have z2 := (hB4.cell (p := ⟨bh, 0, none⟩) m2).trans f2; have n0 := Nat.lt_of_lt_of_le m0 hB4.size; have n1 := Nat.lt_of_lt_of_le m1 hB4.size; have n2 := Nat.lt_of_lt_of_le m2 hB4.size))
      go_ret
      exact ⟨L, _, [], _, N4.st, N4.step, by simp, fun x e => (N4.z x e).2, rfl, by decide, v0, (((hbi.below hb3).alloc _).below hb4).1⟩
    have hzq : (q.inode == 0) = false := by rw [beq_eq_false_iff_ne]; exact c2
    rw [if_neg c2] at hto ⊢
    obtain ⟨y, hy⟩ := hth c2
    have hj := hat c1 c2
    obtain ⟨yb, hay, _⟩ := Adr.of_st hy
    obtain ⟨hy1, hy2⟩ := hF.ids _ y hy
    obtain ⟨e1, e2, e3, e4, e5⟩ := hF.many _ y hy
    have hky := kind_get hy
    have hly := links_get hy
    have hny := names_get hy
    have hq1 : q.inode ≠ 0 := c2
    clear c1 c2 hat hth
    have Hy := Lib.hid (And.intro hy (And.intro hj (And.intro hly (And.intro hny hq1))))
    clear hy hj hly hny hq1
    by_cases c3 : kindOf (stOf L nb) q.inode = 2
    · rw [if_pos c3]
      have hkb : (kindOf (stOf L nb) q.inode == 2) = true := by rw [c3]; rfl
      clear c3 hky
      clear hto
      go_enter Tryz.func45, Tryz.ntmps45
      go_wp2_with (first | (go_at_call 46; refine HT.mono ?_; rintro e w3 ⟨hR3, hb3⟩; obtain ⟨v3, rfl, hown3⟩ := hR3; obtain ⟨ao3, c3, rfl, _⟩ := own_shape2 hown3; have N1 := (N0.below hb3).alloc (.cells #[.slice ao3 q.chain.length c3, .string (mk q.name), .int .i64 q.inode] 99); have pl3 := Off.new (N0.below hb3) #[.slice ao3 q.chain.length c3, .string (mk q.name), .int .i64 q.inode] 99; have g0 := (hb3.cell (p := ⟨bf, 0, none⟩) m0).trans f0; have g1 := (hb3.cell (p := ⟨bp, 0, none⟩) m1).trans f1; have g2 := (hb3.cell (p := ⟨bh, 0, none⟩) m2).trans f2; have l0 := Nat.lt_of_lt_of_le m0 hb3.size; have l1 := Nat.lt_of_lt_of_le m1 hb3.size; have l2 := Nat.lt_of_lt_of_le m2 hb3.size) | (go_at_call 47; refine (isRoot_any _ _ _ _).mono ?_; rintro e w4 ⟨rfl, hb4⟩; rw [hroot]; have N4 := N1.below hb4; have pl4 := pl3.below hb4; have hB4 : Below W.heap.size W w4 := Below.after (hb3.alloc hb3.size _) hb4; have q0 : w4.cell? ⟨w3.heap.size, 0, none⟩ = some (.slice ao3 q.chain.length c3) := pl4.1.cell 0; have q1 : w4.cell? ⟨w3.heap.size, 1, none⟩ = some (.string (mk q.name)) := pl4.1.cell 1; have q2 : w4.cell? ⟨w3.heap.size, 2, none⟩ = some (.int .i64 q.inode) := pl4.1.cell 2; have z0 := (hB4.cell (p := ⟨bf, 0, none⟩) m0).trans f0; have z1 := (hB4.cell (p := ⟨bp, 0, none⟩) m1).trans f1; have z2 := (hB4.cell (p := ⟨bh, 0, none⟩) m2).trans f2; have n0 := Nat.lt_of_lt_of_le m0 hB4.size; have n1 := Nat.lt_of_lt_of_le m1 hB4.size; have n2 := Nat.lt_of_lt_of_le m2 hB4.size; obtain ⟨_, _, _, _, k0, _⟩ := N4.st.node hay) | (go_at_call 40; refine (at_st N4.st.sim hw hay hy1 hy2).mono ?_; rintro e w' ⟨rfl, rfl⟩) | (go_at_call 48; refine (isDir_any _ k0).mono ?_; rintro e w' ⟨rfl, rfl⟩; rw [hkb]))
      go_ret
      exact ⟨L, _, [], _, N4.st, N4.step, by simp, fun x e => (N4.z x e).2, rfl, by decide, v0, (((hbi.below hb3).alloc _).below hb4).1⟩
    have hkb : (kindOf (stOf L nb) q.inode == 2) = false := by rw [beq_eq_false_iff_ne]; exact c3
    rw [if_neg c3] at hto ⊢
    have hto' := hto _ _ _ rfl
    have HT0 := Lib.hid hto'
    clear hto hto' c3 hky
    go_enter Tryz.func45, Tryz.ntmps45
    go_wp2_with (first | (go_at_call 46; refine HT.mono ?_; rintro e w3 ⟨hR3, hb3⟩; obtain ⟨v3, rfl, hown3⟩ := hR3; obtain ⟨ao3, c3, rfl, _⟩ := own_shape2 hown3; have N1 := (N0.below hb3).alloc (.cells #[.slice ao3 q.chain.length c3, .string (mk q.name), .int .i64 q.inode] 99); have pl3 := Off.new (N0.below hb3) #[.slice ao3 q.chain.length c3, .string (mk q.name), .int .i64 q.inode] 99; have g0 := (hb3.cell (p := ⟨bf, 0, none⟩) m0).trans f0; have g1 := (hb3.cell (p := ⟨bp, 0, none⟩) m1).trans f1; have g2 := (hb3.cell (p := ⟨bh, 0, none⟩) m2).trans f2; have l0 := Nat.lt_of_lt_of_le m0 hb3.size; have l1 := Nat.lt_of_lt_of_le m1 hb3.size; have l2 := Nat.lt_of_lt_of_le m2 hb3.size) | (go_at_call 47; refine (isRoot_any _ _ _ _).mono ?_; rintro e w4 ⟨rfl, hb4⟩; rw [hroot]; have N4 := N1.below hb4; have pl4 := pl3.below hb4; have hB4 : Below W.heap.size W w4 := Below.after (hb3.alloc hb3.size _) hb4; have q0 : w4.cell? ⟨w3.heap.size, 0, none⟩ = some (.slice ao3 q.chain.length c3) := pl4.1.cell 0; have q1 : w4.cell? ⟨w3.heap.size, 1, none⟩ = some (.string (mk q.name)) := pl4.1.cell 1; have q2 : w4.cell? ⟨w3.heap.size, 2, none⟩ = some (.int .i64 q.inode) := pl4.1.cell 2; have z0 := (hB4.cell (p := ⟨bf, 0, none⟩) m0).trans f0; have z1 := (hB4.cell (p := ⟨bp, 0, none⟩) m1).trans f1; have z2 := (hB4.cell (p := ⟨bh, 0, none⟩) m2).trans f2; have n0 := Nat.lt_of_lt_of_le m0 hB4.size; have n1 := Nat.lt_of_lt_of_le m1 hB4.size; have n2 := Nat.lt_of_lt_of_le m2 hB4.size; obtain ⟨_, _, _, _, k0, _⟩ := N4.st.node hay) | (go_at_call 40; refine (at_st N4.st.sim hw hay hy1 hy2).mono ?_; rintro e w' ⟨rfl, rfl⟩) | (go_at_call 48; refine (isDir_any _ k0).mono ?_; rintro e w' ⟨rfl, rfl⟩; rw [hkb]))
    obtain ⟨hx0, hqk⟩ := Hz
    obtain ⟨hy, hj, hly, hny, hq1⟩ := Hy
    have bf4 := ((hbf.below hb3).alloc (.cells #[.slice ao3 q.chain.length c3, .string (mk q.name), .int .i64 q.inode] 99)).below hb4
    have bh4 := ((hbh.below hb3).alloc (.cells #[.slice ao3 q.chain.length c3, .string (mk q.name), .int .i64 q.inode] 99)).below hb4
    have bi4 := ((hbi.below hb3).alloc (.cells #[.slice ao3 q.chain.length c3, .string (mk q.name), .int .i64 q.inode] 99)).below hb4
    have rw4 := ((OffRow.new N0 hown3).alloc (.cells #[.slice ao3 q.chain.length c3, .string (mk q.name), .int .i64 q.inode] 99)).below hb4
    have hdir : ∀ w6, Below w4.heap.size w4 w6 → Calls Tryz.prog 50 #[.agg #[.slice ao3 q.chain.length c3, .string (mk q.name), .int .i64 q.inode]] w6 fun e w7 => e = .returned (.int .i64 q.dir) ∧ Below w6.heap.size w6 w7 := fun w6 h6 => by
      obtain ⟨⟨_, ho⟩, _⟩ := rw4.below h6
      exact dir_any ho hqc (by omega) _ _
    have htake : ∀ w6, Below w4.heap.size w4 w6 → Calls Tryz.prog 49 #[.pointer (some ⟨fb, 0, none⟩), .int .i64 q.dir, .string (mk q.name)] w6 fun e w7 => e = .returned (.tuple #[]) ∧ After w6 L (.slice none 0 0) fb n nb L (([] : List Value).length + 1) (Adr L nb) (takeN (stOf L nb) q.dir q.name) w7 := fun w6 h6 =>
      take_st (N4.below h6).st (by simp) had hd1 hd2 hqk _ (by omega) hj (by rw [names_get hx0]; exact d1)
    have Hd := Lib.hid hdir
    have Ht := Lib.hid htake
    have hle : linksOf (takeN (stOf L nb) q.dir q.name) q.inode = y.links := by rw [linksOf_takeN]; exact hly
    have hls : (takeN (stOf L nb) q.dir q.name).length ≤ 1000000 := by unfold takeN; rw [length_mod]; exact hF.len
    have hld : linksOf (takeN (stOf L nb) q.dir q.name) q.dir = x0.links := by rw [linksOf_takeN]; exact links_get hx0
    have Hz := Lib.hid (And.intro hx0 (And.intro hqk (And.intro hy (And.intro hj (And.intro hly (And.intro hny (And.intro hq1 (And.intro hle (And.intro hls hld)))))))))
    have lf := bf4.lt
    have lp := pl4.lt
    have lh := bh4.lt
    generalize hpb : w3.heap.size = pb at *
    clear hx0 hqk hy hj hly hny hq1 hle hls hld hdir htake hpb HT hzq hown3 N1 pl3 f0 f1 g0 g1 l0 l1 hkb hroot k0
    have p0 : w4.cell? ⟨bf, 0, none⟩ = some (.pointer (some ⟨fb, 0, none⟩)) := bf4.1.cell 0
    have p1 : w4.cell? ⟨pb, 0, none⟩ = some (.slice ao3 q.chain.length c3) := pl4.1.cell 0
    have p2 : w4.cell? ⟨pb, 1, none⟩ = some (.string (mk q.name)) := pl4.1.cell 1
    have p3 : w4.cell? ⟨pb, 2, none⟩ = some (.int .i64 q.inode) := pl4.1.cell 2
    go_region_held3 (fun w' => w'.cell? ⟨bf, 0, none⟩ = some (.pointer (some ⟨fb, 0, none⟩)) ∧ w'.cell? ⟨pb, 0, none⟩ = some (.slice ao3 q.chain.length c3) ∧ w'.cell? ⟨pb, 1, none⟩ = some (.string (mk q.name)) ∧ w'.cell? ⟨pb, 2, none⟩ = some (.int .i64 q.inode)) (refine ⟨?_, ?_, ?_, ?_⟩ <;> assumption) (first | (go_at_call 49; have hc := Ht; unfold Hid at hc; refine (hc _ hb6').mono ?_; clear hc; rintro e w7 ⟨rfl, ha7⟩; obtain ⟨L7, uv7, vals7, N7, T7, len7, ne7, adr7⟩ := (N4.below hb6').after ha7; have bf7 := (bf4.below hb6').step T7; have pl7 := (pl4.below hb6').step T7; have rw7 := (rw4.below hb6').step T7; have bh7 := (bh4.below hb6').step T7; have bi7 := (bi4.below hb6').step T7; have k0 : w7.cell? ⟨bf, 0, none⟩ = some (.pointer (some ⟨fb, 0, none⟩)) := bf7.1.cell 0; have k1 : w7.cell? ⟨pb, 0, none⟩ = some (.slice ao3 q.chain.length c3) := pl7.1.cell 0; have k2 : w7.cell? ⟨pb, 1, none⟩ = some (.string (mk q.name)) := pl7.1.cell 1; have k3 : w7.cell? ⟨pb, 2, none⟩ = some (.int .i64 q.inode) := pl7.1.cell 2) | (go_at_call 50; have hc := Hd; unfold Hid at hc; refine (hc _ (Below.refl _ _).drew).mono ?_; clear hc; rintro e w6 ⟨rfl, hb6⟩; have hb6' : Below w4.heap.size w4 w6 := ⟨hb6.os, hb6.tape, hb6.output, hb6.size, hb6.block⟩; have j0 := (hb6'.cell (p := ⟨bf, 0, none⟩) lf).trans p0; have j1 := (hb6'.cell (p := ⟨pb, 0, none⟩) lp).trans p1; have j2 := (hb6'.cell (p := ⟨pb, 1, none⟩) lp).trans p2; have j3 := (hb6'.cell (p := ⟨pb, 2, none⟩) lp).trans p3))
    obtain ⟨hx0, hqk, hy, hj, hly, hny, hq1, hle, hls, hld⟩ := Hz
    have hay7 := adr7 _ _ hay
    have had7 := adr7 _ _ had
    have lh7 : w7.cell? ⟨bh, 0, none⟩ = some (.bool hold) := bh7.1.cell 0
    have Hx := Lib.hid (And.intro hx0 (And.intro hqk (And.intro hy (And.intro hj (And.intro hny hq1)))))
    clear hx0 hqk hy hj hny hq1 hly hld ha7
    have HL := lose_st N7.st (by simp at len7; omega) hay7 hy1 hy2 hls (by rw [hle]; exact e4) (by rw [hle]; exact e5) hold
    clear hle hls
    go_wp2_with (go_at_call 51; refine HL.mono ?_; rintro e w8 ⟨rfl, ha8⟩; obtain ⟨L8, uv8, vals8, N8, T8, len8, ne8, adr8⟩ := N7.after ha8; have bi8 := bi7.step T8; have s0 := bi8.1.cell 0; have s1 := bi8.1.free 0)
    go_ret
    have N9 := N8.setZ (p := ⟨bi, 0, none⟩) rfl (.int .i64 (loseN (takeN (stOf L nb) q.dir q.name) q.inode hold).2)
    exact ⟨L8, uv8, vals8, _, N9.st, N9.step, by simp at len7; omega, fun x e => (N9.z x e).2, rfl, rfl, by simp [ne8], bi8.1.set 0 _, HT0⟩
set_option maxRecDepth 100000 in
set_option maxHeartbeats 8000000 in
theorem rmdir1_st (h : Sim W L fb n nb (.slice none 0 0) []) (hw : WF L nb) (hF : Fit (stOf L nb)) (p : Tx) (hp : p.length ≤ 140737488355328) (bf bp : Nat) (hbf : Off W L (.slice none 0 0) bf #[evP fb] 23) (hbp : Off W L (.slice none 0 0) bp #[.string (mk p)] 9)
    (hto : ∀ s' t v, rmdirD (stOf L nb) p = .ok (s', t, v) → TOk s') :
    Body fb n nb L (fun _ => False) (fun _ _ => True) (rmdirD (stOf L nb) p) W 52 #[evP bf, evP bp] := by
  have N0 : Now W L (fun _ => False) fb n nb W L (.slice none 0 0) [] (stOf L nb) := .start h hw fun x e => e.elim
  have HT := name_st h hw hF.toGood p hp
  have f0 : W.cell? ⟨bf, 0, none⟩ = some (.pointer (some ⟨fb, 0, none⟩)) := hbf.1.cell 0
  have f1 : W.cell? ⟨bp, 0, none⟩ = some (.string (mk p)) := hbp.1.cell 0
  have m0 := hbf.lt
  have m1 := hbp.lt
  unfold Body evP
  unfold rmdirD at hto ⊢
  cases hnq : nameP (stOf L nb) p with
  | error z =>
    rw [hnq] at HT
    go_enter Tryz.func52, Tryz.ntmps52
    go_wp2_with (go_at_call 46; refine HT.mono ?_; rintro e w3 ⟨⟨rfl, hzn⟩, hb3⟩; have hzb := (bne_iff_ne.2 hzn))
    go_ret
    have N1 := (N0.below hb3).alloc (.cells #[.slice none 0 0, .string (mk []), .int .i64 0] 99)
    exact ⟨L, _, [], _, N1.st, N1.step, by simp, fun _ e => e.elim, rfl, hzn, 0, trivial⟩
  | ok q =>
    obtain ⟨hqc, hql, hqn, hqk, x0, hx0⟩ := nameP_dir hnq hF.root
    obtain ⟨d, had, _⟩ := Adr.of_st hx0
    obtain ⟨hd1, hd2⟩ := hF.ids _ x0 hx0
    obtain ⟨d1, d2, d3, d4, d5⟩ := hF.many _ x0 hx0
    have hat := nameP_at hnq hF.root
    have hth := nameP_there hF hnq
    rw [hnq] at HT hto
    dsimp only at hto ⊢
    have Hz := Lib.hid (And.intro hx0 hqk)
    clear hx0 hqk hnq
    by_cases c1 : q.name = []
    · rw [if_pos c1]
      have hroot : (q.name == []) = true := by rw [c1]; rfl
      have Hx := Lib.hid (And.intro c1 (And.intro hat hth))
      clear c1 hat hth
      clear hto
      go_enter Tryz.func52, Tryz.ntmps52
      go_wp2_with (first | (go_at_call 46; refine HT.mono ?_; rintro e w3 ⟨hR3, hb3⟩; obtain ⟨v3, rfl, hown3⟩ := hR3; obtain ⟨ao3, c3, rfl, _⟩ := own_shape2 hown3; have N1 := (N0.below hb3).alloc (.cells #[.slice ao3 q.chain.length c3, .string (mk q.name), .int .i64 q.inode] 99); have pl3 := Off.new (N0.below hb3) #[.slice ao3 q.chain.length c3, .string (mk q.name), .int .i64 q.inode] 99; have g0 := (hb3.cell (p := ⟨bf, 0, none⟩) m0).trans f0; have g1 := (hb3.cell (p := ⟨bp, 0, none⟩) m1).trans f1; have l0 := Nat.lt_of_lt_of_le m0 hb3.size; have l1 := Nat.lt_of_lt_of_le m1 hb3.size) | (go_at_call 47; refine (isRoot_any _ _ _ _).mono ?_; rintro e w4 ⟨rfl, hb4⟩; rw [hroot]; have N4 := N1.below hb4; have pl4 := pl3.below hb4; have hB4 : Below W.heap.size W w4 := Below.after (hb3.alloc hb3.size _) hb4; have q0 : w4.cell? ⟨w3.heap.size, 0, none⟩ = some (.slice ao3 q.chain.length c3) := pl4.1.cell 0; have q1 : w4.cell? ⟨w3.heap.size, 1, none⟩ = some (.string (mk q.name)) := pl4.1.cell 1; have q2 : w4.cell? ⟨w3.heap.size, 2, none⟩ = some (.int .i64 q.inode) := pl4.1.cell 2; have z0 := (hB4.cell (p := ⟨bf, 0, none⟩) m0).trans f0; have z1 := (hB4.cell (p := ⟨bp, 0, none⟩) m1).trans f1; have n0 := Nat.lt_of_lt_of_le m0 hB4.size; have n1 := Nat.lt_of_lt_of_le m1 hB4.size))
      go_ret
      exact ⟨L, _, [], _, N4.st, N4.step, by simp, fun _ e => e.elim, rfl, by decide, 0, trivial⟩
    have hroot : (q.name == []) = false := by rw [beq_eq_false_iff_ne]; exact c1
    rw [if_neg c1] at hto ⊢
    by_cases c2 : q.inode = 0
    · rw [if_pos c2]
      have hzq : (q.inode == 0) = true := by rw [c2]; rfl
      clear c1 c2 hat hth
      clear hto
      go_enter Tryz.func52, Tryz.ntmps52
      go_wp2_with (first | (go_at_call 46; refine HT.mono ?_; rintro e w3 ⟨hR3, hb3⟩; obtain ⟨v3, rfl, hown3⟩ := hR3; obtain ⟨ao3, c3, rfl, _⟩ := own_shape2 hown3; have N1 := (N0.below hb3).alloc (.cells #[.slice ao3 q.chain.length c3, .string (mk q.name), .int .i64 q.inode] 99); have pl3 := Off.new (N0.below hb3) #[.slice ao3 q.chain.length c3, .string (mk q.name), .int .i64 q.inode] 99; have g0 := (hb3.cell (p := ⟨bf, 0, none⟩) m0).trans f0; have g1 := (hb3.cell (p := ⟨bp, 0, none⟩) m1).trans f1; have l0 := Nat.lt_of_lt_of_le m0 hb3.size; have l1 := Nat.lt_of_lt_of_le m1 hb3.size) | (go_at_call 47; refine (isRoot_any _ _ _ _).mono ?_; rintro e w4 ⟨rfl, hb4⟩; rw [hroot]; have N4 := N1.below hb4; have pl4 := pl3.below hb4; have hB4 : Below W.heap.size W w4 := Below.after (hb3.alloc hb3.size _) hb4; have q0 : w4.cell? ⟨w3.heap.size, 0, none⟩ = some (.slice ao3 q.chain.length c3) := pl4.1.cell 0; have q1 : w4.cell? ⟨w3.heap.size, 1, none⟩ = some (.string (mk q.name)) := pl4.1.cell 1; have q2 : w4.cell? ⟨w3.heap.size, 2, none⟩ = some (.int .i64 q.inode) := pl4.1.cell 2; have z0 := (hB4.cell (p := ⟨bf, 0, none⟩) m0).trans f0; have z1 := (hB4.cell (p := ⟨bp, 0, none⟩) m1).trans f1; have n0 := Nat.lt_of_lt_of_le m0 hB4.size; have n1 := Nat.lt_of_lt_of_le m1 hB4.size))
      go_ret
      exact ⟨L, _, [], _, N4.st, N4.step, by simp, fun _ e => e.elim, rfl, by decide, 0, trivial⟩
    have hzq : (q.inode == 0) = false := by rw [beq_eq_false_iff_ne]; exact c2
    rw [if_neg c2] at hto ⊢
    obtain ⟨y, hy⟩ := hth c2
    have hj := hat c1 c2
    obtain ⟨yb, hay, _⟩ := Adr.of_st hy
    obtain ⟨hy1, hy2⟩ := hF.ids _ y hy
    obtain ⟨e1, e2, e3, e4, e5⟩ := hF.many _ y hy
    have hky := kind_get hy
    have hly := links_get hy
    have hny := names_get hy
    have hq1 : q.inode ≠ 0 := c2
    clear c1 c2 hat hth
    have Hy := Lib.hid (And.intro hy (And.intro hj (And.intro hly (And.intro hny hq1))))
    clear hy hj hly hq1
    by_cases c3 : kindOf (stOf L nb) q.inode ≠ 2
    · rw [if_pos c3]
      have hkb : (kindOf (stOf L nb) q.inode == 2) = false := by rw [beq_eq_false_iff_ne]; exact c3
      clear c3 hky hny
      clear hto
      go_enter Tryz.func52, Tryz.ntmps52
      go_wp2_with (first | (go_at_call 46; refine HT.mono ?_; rintro e w3 ⟨hR3, hb3⟩; obtain ⟨v3, rfl, hown3⟩ := hR3; obtain ⟨ao3, c3, rfl, _⟩ := own_shape2 hown3; have N1 := (N0.below hb3).alloc (.cells #[.slice ao3 q.chain.length c3, .string (mk q.name), .int .i64 q.inode] 99); have pl3 := Off.new (N0.below hb3) #[.slice ao3 q.chain.length c3, .string (mk q.name), .int .i64 q.inode] 99; have g0 := (hb3.cell (p := ⟨bf, 0, none⟩) m0).trans f0; have g1 := (hb3.cell (p := ⟨bp, 0, none⟩) m1).trans f1; have l0 := Nat.lt_of_lt_of_le m0 hb3.size; have l1 := Nat.lt_of_lt_of_le m1 hb3.size) | (go_at_call 47; refine (isRoot_any _ _ _ _).mono ?_; rintro e w4 ⟨rfl, hb4⟩; rw [hroot]; have N4 := N1.below hb4; have pl4 := pl3.below hb4; have hB4 : Below W.heap.size W w4 := Below.after (hb3.alloc hb3.size _) hb4; have q0 : w4.cell? ⟨w3.heap.size, 0, none⟩ = some (.slice ao3 q.chain.length c3) := pl4.1.cell 0; have q1 : w4.cell? ⟨w3.heap.size, 1, none⟩ = some (.string (mk q.name)) := pl4.1.cell 1; have q2 : w4.cell? ⟨w3.heap.size, 2, none⟩ = some (.int .i64 q.inode) := pl4.1.cell 2; have z0 := (hB4.cell (p := ⟨bf, 0, none⟩) m0).trans f0; have z1 := (hB4.cell (p := ⟨bp, 0, none⟩) m1).trans f1; have n0 := Nat.lt_of_lt_of_le m0 hB4.size; have n1 := Nat.lt_of_lt_of_le m1 hB4.size; obtain ⟨_, _, _, _, k0, _⟩ := N4.st.node hay) | (go_at_call 40; refine (at_st N4.st.sim hw hay hy1 hy2).mono ?_; rintro e w' ⟨rfl, rfl⟩) | (go_at_call 48; refine (isDir_any _ k0).mono ?_; rintro e w' ⟨rfl, rfl⟩; rw [hkb]))
      go_ret
      exact ⟨L, _, [], _, N4.st, N4.step, by simp, fun _ e => e.elim, rfl, by decide, 0, trivial⟩
    have hk2 : kindOf (stOf L nb) q.inode = 2 := by omega
    have hkb : (kindOf (stOf L nb) q.inode == 2) = true := by rw [hk2]; rfl
    rw [if_neg c3] at hto ⊢
    clear c3 hky
    obtain ⟨nm, hnm⟩ : ∃ m, namesOf (stOf L nb) q.inode = m := ⟨_, rfl⟩
    rw [hnm] at hto ⊢ hny
    by_cases c4 : nm.length ≠ 0
    · rw [if_pos c4]
      have hlg : (0 : Int) < nm.length := by omega
      clear c4 hny
      clear hto
      go_enter Tryz.func52, Tryz.ntmps52
      go_wp2_with (first | (go_at_call 46; refine HT.mono ?_; rintro e w3 ⟨hR3, hb3⟩; obtain ⟨v3, rfl, hown3⟩ := hR3; obtain ⟨ao3, c3, rfl, _⟩ := own_shape2 hown3; have N1 := (N0.below hb3).alloc (.cells #[.slice ao3 q.chain.length c3, .string (mk q.name), .int .i64 q.inode] 99); have pl3 := Off.new (N0.below hb3) #[.slice ao3 q.chain.length c3, .string (mk q.name), .int .i64 q.inode] 99; have g0 := (hb3.cell (p := ⟨bf, 0, none⟩) m0).trans f0; have g1 := (hb3.cell (p := ⟨bp, 0, none⟩) m1).trans f1; have l0 := Nat.lt_of_lt_of_le m0 hb3.size; have l1 := Nat.lt_of_lt_of_le m1 hb3.size) | (go_at_call 47; refine (isRoot_any _ _ _ _).mono ?_; rintro e w4 ⟨rfl, hb4⟩; rw [hroot]; have N4 := N1.below hb4; have pl4 := pl3.below hb4; have hB4 : Below W.heap.size W w4 := Below.after (hb3.alloc hb3.size _) hb4; have q0 : w4.cell? ⟨w3.heap.size, 0, none⟩ = some (.slice ao3 q.chain.length c3) := pl4.1.cell 0; have q1 : w4.cell? ⟨w3.heap.size, 1, none⟩ = some (.string (mk q.name)) := pl4.1.cell 1; have q2 : w4.cell? ⟨w3.heap.size, 2, none⟩ = some (.int .i64 q.inode) := pl4.1.cell 2; have z0 := (hB4.cell (p := ⟨bf, 0, none⟩) m0).trans f0; have z1 := (hB4.cell (p := ⟨bp, 0, none⟩) m1).trans f1; have n0 := Nat.lt_of_lt_of_le m0 hB4.size; have n1 := Nat.lt_of_lt_of_le m1 hB4.size; obtain ⟨_, _, _, _, k0, _⟩ := N4.st.node hay; obtain ⟨yd, yq, ym, _, _, _, hyme, _, _, _, hyMA, hy4⟩ := N4.st.dir hay hk2; rw [hnm] at hyme; subst hyme; have hlenm := fun ty => hyMA.len Tryz.underlying63 ty) | (go_at_call 40; refine (at_st N4.st.sim hw hay hy1 hy2).mono ?_; rintro e w' ⟨rfl, rfl⟩) | (go_at_call 48; refine (isDir_any _ k0).mono ?_; rintro e w' ⟨rfl, rfl⟩; rw [hkb]))
      go_ret
      exact ⟨L, _, [], _, N4.st, N4.step, by simp, fun _ e => e.elim, rfl, by decide, 0, trivial⟩
    have hlg : ¬ (0 : Int) < nm.length := by omega
    rw [if_neg c4] at hto ⊢
    have hto' := hto _ _ _ rfl
    have HT0 := Lib.hid hto'
    clear hto hto' c4 hny
    go_enter Tryz.func52, Tryz.ntmps52
    go_wp2_with (first | (go_at_call 46; refine HT.mono ?_; rintro e w3 ⟨hR3, hb3⟩; obtain ⟨v3, rfl, hown3⟩ := hR3; obtain ⟨ao3, c3, rfl, _⟩ := own_shape2 hown3; have N1 := (N0.below hb3).alloc (.cells #[.slice ao3 q.chain.length c3, .string (mk q.name), .int .i64 q.inode] 99); have pl3 := Off.new (N0.below hb3) #[.slice ao3 q.chain.length c3, .string (mk q.name), .int .i64 q.inode] 99; have g0 := (hb3.cell (p := ⟨bf, 0, none⟩) m0).trans f0; have g1 := (hb3.cell (p := ⟨bp, 0, none⟩) m1).trans f1; have l0 := Nat.lt_of_lt_of_le m0 hb3.size; have l1 := Nat.lt_of_lt_of_le m1 hb3.size) | (go_at_call 47; refine (isRoot_any _ _ _ _).mono ?_; rintro e w4 ⟨rfl, hb4⟩; rw [hroot]; have N4 := N1.below hb4; have pl4 := pl3.below hb4; have hB4 : Below W.heap.size W w4 := Below.after (hb3.alloc hb3.size _) hb4; have q0 : w4.cell? ⟨w3.heap.size, 0, none⟩ = some (.slice ao3 q.chain.length c3) := pl4.1.cell 0; have q1 : w4.cell? ⟨w3.heap.size, 1, none⟩ = some (.string (mk q.name)) := pl4.1.cell 1; have q2 : w4.cell? ⟨w3.heap.size, 2, none⟩ = some (.int .i64 q.inode) := pl4.1.cell 2; have z0 := (hB4.cell (p := ⟨bf, 0, none⟩) m0).trans f0; have z1 := (hB4.cell (p := ⟨bp, 0, none⟩) m1).trans f1; have n0 := Nat.lt_of_lt_of_le m0 hB4.size; have n1 := Nat.lt_of_lt_of_le m1 hB4.size; obtain ⟨_, _, _, _, k0, _⟩ := N4.st.node hay; obtain ⟨yd, yq, ym, _, _, _, hyme, _, _, _, hyMA, hy4⟩ := N4.st.dir hay hk2; rw [hnm] at hyme; subst hyme; have hlenm := fun ty => hyMA.len Tryz.underlying63 ty) | (go_at_call 40; refine (at_st N4.st.sim hw hay hy1 hy2).mono ?_; rintro e w' ⟨rfl, rfl⟩) | (go_at_call 48; refine (isDir_any _ k0).mono ?_; rintro e w' ⟨rfl, rfl⟩; rw [hkb]))
    obtain ⟨hx0, hqk⟩ := Hz
    obtain ⟨hy, hj, hly, hny, hq1⟩ := Hy
    have bf4 := ((hbf.below hb3).alloc (.cells #[.slice ao3 q.chain.length c3, .string (mk q.name), .int .i64 q.inode] 99)).below hb4
    have rw4 := ((OffRow.new N0 hown3).alloc (.cells #[.slice ao3 q.chain.length c3, .string (mk q.name), .int .i64 q.inode] 99)).below hb4
    have hdir : ∀ w6, Below w4.heap.size w4 w6 → Calls Tryz.prog 50 #[.agg #[.slice ao3 q.chain.length c3, .string (mk q.name), .int .i64 q.inode]] w6 fun e w7 => e = .returned (.int .i64 q.dir) ∧ Below w6.heap.size w6 w7 := fun w6 h6 => by
      obtain ⟨⟨_, ho⟩, _⟩ := rw4.below h6
      exact dir_any ho hqc (by omega) _ _
    have htake : ∀ w6, Below w4.heap.size w4 w6 → Calls Tryz.prog 49 #[.pointer (some ⟨fb, 0, none⟩), .int .i64 q.dir, .string (mk q.name)] w6 fun e w7 => e = .returned (.tuple #[]) ∧ After w6 L (.slice none 0 0) fb n nb L (([] : List Value).length + 1) (Adr L nb) (takeN (stOf L nb) q.dir q.name) w7 := fun w6 h6 =>
      take_st (N4.below h6).st (by simp) had hd1 hd2 hqk _ (by omega) hj (by rw [names_get hx0]; exact d1)
    have Hd := Lib.hid hdir
    have Ht := Lib.hid htake
    have hle : linksOf (takeN (stOf L nb) q.dir q.name) q.inode = y.links := by rw [linksOf_takeN]; exact hly
    have hls : (takeN (stOf L nb) q.dir q.name).length ≤ 1000000 := by unfold takeN; rw [length_mod]; exact hF.len
    have hld : linksOf (takeN (stOf L nb) q.dir q.name) q.dir = x0.links := by rw [linksOf_takeN]; exact links_get hx0
    have Hz := Lib.hid (And.intro hx0 (And.intro hqk (And.intro hy (And.intro hj (And.intro hly (And.intro hny (And.intro hq1 (And.intro hle (And.intro hls hld)))))))))
    have lf := bf4.lt
    have lp := pl4.lt
    generalize hpb : w3.heap.size = pb at *
    clear hx0 hqk hy hj hly hny hq1 hle hls hld hdir htake hpb HT hzq hown3 N1 pl3 f0 f1 g0 g1 l0 l1 hkb hroot k0 hnm hlg hk2
    have p0 : w4.cell? ⟨bf, 0, none⟩ = some (.pointer (some ⟨fb, 0, none⟩)) := bf4.1.cell 0
    have p1 : w4.cell? ⟨pb, 0, none⟩ = some (.slice ao3 q.chain.length c3) := pl4.1.cell 0
    have p2 : w4.cell? ⟨pb, 1, none⟩ = some (.string (mk q.name)) := pl4.1.cell 1
    have p3 : w4.cell? ⟨pb, 2, none⟩ = some (.int .i64 q.inode) := pl4.1.cell 2
    go_region_held3 (fun w' => w'.cell? ⟨bf, 0, none⟩ = some (.pointer (some ⟨fb, 0, none⟩)) ∧ w'.cell? ⟨pb, 0, none⟩ = some (.slice ao3 q.chain.length c3) ∧ w'.cell? ⟨pb, 1, none⟩ = some (.string (mk q.name)) ∧ w'.cell? ⟨pb, 2, none⟩ = some (.int .i64 q.inode)) (refine ⟨?_, ?_, ?_, ?_⟩ <;> assumption) (first | (go_at_call 49; have hc := Ht; unfold Hid at hc; refine (hc _ hb6').mono ?_; clear hc; rintro e w7 ⟨rfl, ha7⟩; obtain ⟨L7, uv7, vals7, N7, T7, len7, ne7, adr7⟩ := (N4.below hb6').after ha7; have bf7 := (bf4.below hb6').step T7; have pl7 := (pl4.below hb6').step T7; have rw7 := (rw4.below hb6').step T7; have k0 : w7.cell? ⟨bf, 0, none⟩ = some (.pointer (some ⟨fb, 0, none⟩)) := bf7.1.cell 0; have k1 : w7.cell? ⟨pb, 0, none⟩ = some (.slice ao3 q.chain.length c3) := pl7.1.cell 0; have k2 : w7.cell? ⟨pb, 1, none⟩ = some (.string (mk q.name)) := pl7.1.cell 1; have k3 : w7.cell? ⟨pb, 2, none⟩ = some (.int .i64 q.inode) := pl7.1.cell 2) | (go_at_call 50; have hc := Hd; unfold Hid at hc; refine (hc _ (Below.refl _ _).drew).mono ?_; clear hc; rintro e w6 ⟨rfl, hb6⟩; have hb6' : Below w4.heap.size w4 w6 := ⟨hb6.os, hb6.tape, hb6.output, hb6.size, hb6.block⟩; have j0 := (hb6'.cell (p := ⟨bf, 0, none⟩) lf).trans p0; have j1 := (hb6'.cell (p := ⟨pb, 0, none⟩) lp).trans p1; have j2 := (hb6'.cell (p := ⟨pb, 1, none⟩) lp).trans p2; have j3 := (hb6'.cell (p := ⟨pb, 2, none⟩) lp).trans p3))
    obtain ⟨hx0, hqk, hy, hj, hly, hny, hq1, hle, hls, hld⟩ := Hz
    have hay7 := adr7 _ _ hay
    have had7 := adr7 _ _ had
    have hdir : ∀ w8, Below w7.heap.size w7 w8 → Calls Tryz.prog 50 #[.agg #[.slice ao3 q.chain.length c3, .string (mk q.name), .int .i64 q.inode]] w8 fun e w9 => e = .returned (.int .i64 q.dir) ∧ Below w8.heap.size w8 w9 := fun w8 h8 => by
      obtain ⟨⟨_, ho⟩, _⟩ := rw7.below h8
      exact dir_any ho hqc (by omega) _ _
    have hat : ∀ w8, Below w7.heap.size w7 w8 → Calls Tryz.prog 40 #[.pointer (some ⟨fb, 0, none⟩), .int .i64 q.dir] w8 fun e w9 => e = .returned (.pointer (some ⟨d, 0, none⟩)) ∧ w8 = w9 := fun w8 h8 => at_st (N7.below h8).st.sim N7.st.wf had7 hd1 hd2
    have hlinks : ∀ w8, Below w7.heap.size w7 w8 → Calls Tryz.prog 53 #[.pointer (some ⟨fb, 0, none⟩), .pointer (some ⟨d, 0, none⟩), .int .i64 (-1)] w8 fun e w9 => e = .returned (.tuple #[]) ∧ After w8 L7 uv7 fb n nb L (vals7.length + 1) (Adr L7 nb) (linksN (takeN (stOf L nb) q.dir q.name) q.dir (-1)) w9 := fun w8 h8 =>
      links_st (N7.below h8).st (by simp at len7; omega) had7 (-1) (by rw [hld]; exact d4) (by rw [hld]; exact d5) (by omega) (by omega)
    have Hd7 := Lib.hid hdir
    have Ha7 := Lib.hid hat
    have Hl7 := Lib.hid hlinks
    have lf7 := bf7.lt
    have lp7 := pl7.lt
    have Hx := Lib.hid (And.intro hx0 (And.intro hqk (And.intro hy (And.intro hj (And.intro hny hq1)))))
    have Hls := Lib.hid hls
    clear hx0 hqk hy hj hny hq1 hly hld ha7 hdir hat hlinks hle hls
    go_wp2_with fail
    go_region_held3 (fun w' => w'.cell? ⟨bf, 0, none⟩ = some (.pointer (some ⟨fb, 0, none⟩)) ∧ w'.cell? ⟨pb, 0, none⟩ = some (.slice ao3 q.chain.length c3) ∧ w'.cell? ⟨pb, 1, none⟩ = some (.string (mk q.name)) ∧ w'.cell? ⟨pb, 2, none⟩ = some (.int .i64 q.inode)) (refine ⟨?_, ?_, ?_, ?_⟩ <;> assumption) (first | (go_at_call 53; have hc := Hl7; unfold Hid at hc; refine (hc _ hb9').mono ?_; clear hc; rintro e wA ⟨rfl, haA⟩; obtain ⟨LA, uvA, valsA, NA, TA, lenA, neA, adrA⟩ := (N7.below hb9').after haA; have bfA := (bf7.below hb9').step TA; have plA := (pl7.below hb9').step TA; have o0 : wA.cell? ⟨bf, 0, none⟩ = some (.pointer (some ⟨fb, 0, none⟩)) := bfA.1.cell 0; have o1 : wA.cell? ⟨pb, 0, none⟩ = some (.slice ao3 q.chain.length c3) := plA.1.cell 0; have o2 : wA.cell? ⟨pb, 1, none⟩ = some (.string (mk q.name)) := plA.1.cell 1; have o3 : wA.cell? ⟨pb, 2, none⟩ = some (.int .i64 q.inode) := plA.1.cell 2) | (go_at_call 40; have hc := Ha7; unfold Hid at hc; refine (hc _ hb8').mono ?_; clear hc; rintro e w9 ⟨rfl, rfl⟩; have hb9' := hb8') | (go_at_call 50; have hc := Hd7; unfold Hid at hc; refine (hc _ (Below.refl _ _).drew).mono ?_; clear hc; rintro e w8 ⟨rfl, hb8⟩; have hb8' : Below w7.heap.size w7 w8 := ⟨hb8.os, hb8.tape, hb8.output, hb8.size, hb8.block⟩; have i0 := (hb8'.cell (p := ⟨bf, 0, none⟩) lf7).trans k0; have i1 := (hb8'.cell (p := ⟨pb, 0, none⟩) lp7).trans k1; have i2 := (hb8'.cell (p := ⟨pb, 1, none⟩) lp7).trans k2; have i3 := (hb8'.cell (p := ⟨pb, 2, none⟩) lp7).trans k3))
    have hayA := adrA _ _ hay7
    have hlsA : (nodesOf LA nb).length ≤ 1000000 := by
      have e := congrArg List.length NA.st.st
      rw [show (stOf LA nb).length = (nodesOf LA nb).length by unfold stOf; rw [List.length_map]] at e
      unfold linksN at e
      rw [length_mod] at e
      unfold Hid at Hls
      omega
    have HL := drop_st NA.st (by simp at len7; omega) hayA hy1 hy2 hlsA
    clear hlsA
    go_wp2_with (go_at_call 54; refine HL.mono ?_; rintro e wB ⟨rfl, haB⟩; obtain ⟨LB, uvB, valsB, NB, TB, lenB, neB, adrB⟩ := NA.after haB)
    go_ret
    exact ⟨LB, uvB, valsB, _, NB.st, NB.step, by simp at len7; omega, fun _ e => e.elim, rfl, rfl, by simp [neB], trivial, HT0⟩
end
end Fs
end Go.Proofs.YtlnnbjgfpiefdaaGreat
