/- A file by its number: opened, written, cut. -/
import Derived.Test.YtlnnbjgfpiefdaaGreatRamB16
import Derived.Test.YtlnnbjgfpiefdaaGreatRamB20
import Derived.Shelf.Strings.BuilderX
import Derived.Shelf.Strings.Builder1
import Derived.Test.YtlnnbjgfpiefdaaGreatProg
namespace Go.Proofs.YtlnnbjgfpiefdaaGreat
open Go.RowKit Go.Maps Go.Shelf

namespace Fs
/-- What a tree's files keep. -/
def Filed (s : Tree) : Prop := ∀ i x, get s i = some x → NdOk x ∧ (x.kind = 1 → x.pieces.length ≤ 100000 ∧ Whole x.pieces)
section
variable {W : World} {L : Lay} {fb : Nat} {n : Int} {nb : Nat} {uv : Value} {vals : List Value}
theorem kind_cell (h : Sim W L fb n nb uv vals) (hw : WF L nb) {i : Int} {b : Nat} (ha : Adr L nb i b) : W.cell? ⟨b, 0, none⟩ = some (.int .i64 (kindOf (stOf L nb) i)) := by
  obtain ⟨hd, hb⟩ := hw.at ha
  obtain ⟨c0, _⟩ := node_cells (h.is b _ hb).2
  rw [c0]
  unfold kindOf
  rw [ha.st, ndAtB_of hb]; rfl
set_option maxRecDepth 100000 in
set_option maxHeartbeats 4000000 in
theorem file_st (h : Sim W L fb n nb uv vals) (hw : WF L nb) (hF : Fit (stOf L nb)) (p : Tx) (hp : p.length ≤ 140737488355328) :
    Calls Tryz.prog 39 #[.pointer (some ⟨fb, 0, none⟩), .string (mk p)] W fun e W' => Below W.heap.size W W' ∧ match fileP (stOf L nb) p with
      | .error z => e = .returned (.tuple #[.int .i64 0, .int .i64 z]) ∧ z ≠ 0
      | .ok i => e = .returned (.tuple #[.int .i64 i, .int .i64 0]) := by
  have HT := to_st h hw hF.toGood p hp true
  unfold fileP
  cases hq : toP (stOf L nb) p true with
  | error z =>
    rw [hq] at HT
    go_enter Tryz.func39, Tryz.ntmps39
    go_wp2_with (go_at_call 60; refine HT.mono ?_; rintro e w3 ⟨⟨rfl, hzn⟩, hb3⟩; have hzb := (bne_iff_ne.2 hzn))
    go_ret2
    exact ⟨hb3.alloc hb3.size _, rfl, hzn⟩
  | ok q =>
    obtain ⟨x, hx⟩ := toP_some hq hF.root
    obtain ⟨b, ha, _⟩ := Adr.of_st hx
    obtain ⟨i1, i2⟩ := hF.ids _ x hx
    rw [hq] at HT
    dsimp only
    have Hx := Lib.hid hx
    clear hx hq
    by_cases hk : kindOf (stOf L nb) q.inode = 2
    · rw [if_pos hk]
      have hkb : (kindOf (stOf L nb) q.inode == 2) = true := by rw [hk]; rfl
      clear hk
      go_enter Tryz.func39, Tryz.ntmps39
      go_wp2_with (first | (go_at_call 60; refine HT.mono ?_; rintro e w3 ⟨⟨v3, rfl, hown3⟩, hb3⟩; obtain ⟨ao3, c3, rfl, _⟩ := own_shape2 hown3; have S4 := (h.below hb3).alloc (.cells #[.slice ao3 q.chain.length c3, .string (mk q.name), .int .i64 q.inode] 99); have k0 := kind_cell S4 hw ha) | (go_at_call 40; refine (at_st S4 hw ha i1 i2).mono ?_; rintro e w' ⟨rfl, rfl⟩) | (go_at_call 48; refine (isDir_any _ k0).mono ?_; rintro e w' ⟨rfl, rfl⟩; rw [hkb]))
      go_ret2
      exact ⟨hb3.alloc hb3.size _, rfl, by decide⟩
    · rw [if_neg hk]
      have hkb : (kindOf (stOf L nb) q.inode == 2) = false := by rw [beq_eq_false_iff_ne]; exact hk
      clear hk
      go_enter Tryz.func39, Tryz.ntmps39
      go_wp2_with (first | (go_at_call 60; refine HT.mono ?_; rintro e w3 ⟨⟨v3, rfl, hown3⟩, hb3⟩; obtain ⟨ao3, c3, rfl, _⟩ := own_shape2 hown3; have S4 := (h.below hb3).alloc (.cells #[.slice ao3 q.chain.length c3, .string (mk q.name), .int .i64 q.inode] 99); have k0 := kind_cell S4 hw ha) | (go_at_call 40; refine (at_st S4 hw ha i1 i2).mono ?_; rintro e w' ⟨rfl, rfl⟩) | (go_at_call 48; refine (isDir_any _ k0).mono ?_; rintro e w' ⟨rfl, rfl⟩; rw [hkb]))
      go_ret2
      exact ⟨hb3.alloc hb3.size _, rfl⟩
set_option maxRecDepth 100000 in
theorem has_st (h : Sim W L fb n nb uv vals) (hw : WF L nb) (i : Int) (h1 : 0 ≤ i) (h2 : i ≤ 1000000) :
    Calls Tryz.prog 99 #[.pointer (some ⟨fb, 0, none⟩), .int .i64 i] W fun e W' => e = (match get (nodesOf L nb) i with
      | none => .returned (.tuple #[.pointer none, .int .i64 110])
      | some b => .returned (.tuple #[.pointer (some ⟨b, 0, none⟩), .int .i64 0])) ∧ W = W' := by
  have hlook := (h.nodesAt hw).look_ok kI Tryz.underlying57 (zP _) (keyI (i := i) (wfI (by omega) (by omega)))
  obtain ⟨_, _, _, c6, _⟩ := fs_cells h.blk
  cases hg : get (nodesOf L nb) i with
  | none =>
    rw [hg] at hlook
    simp only [Option.map_none, Option.getD_none, Option.isSome_none] at hlook
    clear hg
    go_enter Tryz.func99, Tryz.ntmps99
    go_wp2_with fail
    go_ret2
    exact ⟨rfl, rfl⟩
  | some b =>
    rw [hg] at hlook
    simp only [Option.map_some, Option.getD_some, evP, Option.isSome_some] at hlook
    clear hg
    go_enter Tryz.func99, Tryz.ntmps99
    go_wp2_with fail
    go_ret2
    exact ⟨rfl, rfl⟩
set_option maxRecDepth 100000 in
set_option maxHeartbeats 1000000 in
theorem open_st (h : Sim W L fb n nb uv vals) (hw : WF L nb) (i : Int) (h1 : 0 ≤ i) (h2 : i ≤ 1000000) :
    Calls Tryz.prog 72 #[.pointer (some ⟨fb, 0, none⟩), .int .i64 i] W fun e W' => W = W' ∧ match openP (stOf L nb) i with
      | .error z => e = .returned (.tuple #[.pointer none, .int .i64 z]) ∧ z ≠ 0
      | .ok _ => ∃ b x, e = .returned (.tuple #[.pointer (some ⟨b, 0, none⟩), .int .i64 0]) ∧ Adr L nb i b ∧ get (stOf L nb) i = some x ∧ x.kind = 1 := by
  have HS := has_st h hw i h1 h2
  unfold openP
  cases hg : get (nodesOf L nb) i with
  | none =>
    rw [hg] at HS
    rw [Adr.none.2 hg]
    dsimp only at HS ⊢
    clear hg
    go_enter Tryz.func72, Tryz.ntmps72
    go_wp2_with (go_at_call 99; refine HS.mono ?_; rintro e w' ⟨rfl, rfl⟩)
    go_ret2
    exact ⟨rfl, rfl, by decide⟩
  | some b =>
    have ha : Adr L nb i b := hg
    rw [hg] at HS
    have hx := ha.st
    rw [hx]
    dsimp only at HS ⊢
    have k0 := kind_cell h hw ha
    rw [show kindOf (stOf L nb) i = (ndAtB L b).kind by unfold kindOf; rw [hx]; rfl] at k0
    have Hx := Lib.hid (And.intro hx ha)
    clear hg hx ha
    generalize hnd : ndAtB L b = x at *
    clear hnd
    by_cases hk : x.kind = 2
    · rw [if_pos hk]
      have hkb : (x.kind == 2) = true := by rw [hk]; rfl
      clear hk
      go_enter Tryz.func72, Tryz.ntmps72
      go_wp2_with (first | (go_at_call 99; refine HS.mono ?_; rintro e w' ⟨rfl, rfl⟩) | (go_at_call 48; refine (isDir_any _ k0).mono ?_; rintro e w' ⟨rfl, rfl⟩; rw [hkb]))
      go_ret2
      exact ⟨rfl, rfl, by decide⟩
    · rw [if_neg hk]
      have hkb : (x.kind == 2) = false := by rw [beq_eq_false_iff_ne]; exact hk
      clear hk
      by_cases hk1 : x.kind ≠ 1
      · rw [if_pos hk1]
        have hkc := bne_iff_ne.2 hk1
        clear hk1
        go_enter Tryz.func72, Tryz.ntmps72
        go_wp2_with (first | (go_at_call 99; refine HS.mono ?_; rintro e w' ⟨rfl, rfl⟩) | (go_at_call 48; refine (isDir_any _ k0).mono ?_; rintro e w' ⟨rfl, rfl⟩; rw [hkb]))
        go_ret2
        exact ⟨rfl, rfl, by decide⟩
      · rw [if_neg hk1]
        have hkc : (x.kind != 1) = false := by simpa using hk1
        have Hk1 := Lib.hid hk1
        clear hk1
        go_enter Tryz.func72, Tryz.ntmps72
        go_wp2_with (first | (go_at_call 99; refine HS.mono ?_; rintro e w' ⟨rfl, rfl⟩) | (go_at_call 48; refine (isDir_any _ k0).mono ?_; rintro e w' ⟨rfl, rfl⟩; rw [hkb]))
        go_ret2
        obtain ⟨hx, ha⟩ := Hx
        unfold Hid at Hk1
        exact ⟨rfl, b, x, rfl, ha, rfl, by omega⟩
end
/-- What WriteAt comes to. -/
def writeR (n : Int) (s : Tree) (i off : Int) (t : Tx) : Tree × Except Int Int := if off < 0 ∨ 16384 < t.length then (s, .error 1) else match openP s i with
  | .error e => (s, .error e)
  | .ok j => fin n s (writeD s j off t)
/-- What CutAt comes to. -/
def cutR (n : Int) (s : Tree) (i size : Int) : Tree × Except Int Int := if size < 0 then (s, .error 1) else match openP s i with
  | .error e => (s, .error e)
  | .ok j => fin n s (cutD s j size)
theorem openP_ok {s : Tree} {i j : Int} (h : openP s i = .ok j) : j = i := by
  unfold openP at h
  split at h
  · cases h
  · split at h
    · cases h
    · split at h
      · cases h
      · cases h; rfl
section
variable {W : World} {L : Lay} {fb : Nat} {n : Int} {nb : Nat}
set_option maxRecDepth 100000 in
set_option maxHeartbeats 4000000 in
theorem write_big (W : World) (fb b : Nat) (off : Int) (t : Tx) (h0 : 0 ≤ off) (h1 : off ≤ 9223372036854775807) (hb : 8459264 - off < (t.length : Int)) :
    Calls Tryz.prog 74 #[.pointer (some ⟨fb, 0, none⟩), .pointer (some ⟨b, 0, none⟩), .int .i64 off, .string (mk t)] W fun e W' => e = .returned (.int .i64 120) ∧ W = W' := by
  have hsz : (mk t).size = t.length := mk_size t
  have hw1 : IntKind.i64.wrap (8459264 - off) = 8459264 - off := IntWalk.i64_in _ (by omega)
  go_enter Tryz.func74, Tryz.ntmps74
  go_wp2_with fail
  go_ret
  exact ⟨rfl, rfl⟩
set_option maxRecDepth 100000 in
theorem cut_big (W : World) (fb b : Nat) (size : Int) (hb : 8459264 < size) :
    Calls Tryz.prog 76 #[.pointer (some ⟨fb, 0, none⟩), .pointer (some ⟨b, 0, none⟩), .int .i64 size] W fun e W' => e = .returned (.int .i64 120) ∧ Below W.heap.size W W' := by
  go_enter Tryz.func76, Tryz.ntmps76
  go_wp2_with fail
  go_ret
  exact ⟨rfl, (Below.refl _ _).alloc (Nat.le_refl _) _⟩
set_option maxRecDepth 100000 in
set_option maxHeartbeats 4000000 in
theorem write1_st (h : Sim W L fb n nb (.slice none 0 0) []) (hw : WF L nb) (hD : Filed (stOf L nb)) {i : Int} {b : Nat} (ha : Adr L nb i b) {x : Nd} (hx : get (stOf L nb) i = some x) (hk : x.kind = 1) (off : Int) (h0 : 0 ≤ off) (h1 : off ≤ 9223372036854775807) (t : Tx) (ht : t.length ≤ 16384) (bf bx bo bt : Nat)
    (hbf : Off W L (.slice none 0 0) bf #[evP fb] 23) (hbx : Off W L (.slice none 0 0) bx #[evP b] 61) (hbo : Off W L (.slice none 0 0) bo #[.int .i64 off] 3) (hbt : Off W L (.slice none 0 0) bt #[.string (mk t)] 9)
    (hto : ∀ s' u v, writeD (stOf L nb) i off t = .ok (s', u, v) → TOk s') :
    Body fb n nb L (fun _ => False) (fun _ _ => True) (writeD (stOf L nb) i off t) W 73 #[evP bf, evP bx, evP bo, evP bt] := by
  have N0 : Now W L (fun _ => False) fb n nb W L (.slice none 0 0) [] (stOf L nb) := .start h hw fun x e => e.elim
  have f0 : W.cell? ⟨bf, 0, none⟩ = some (.pointer (some ⟨fb, 0, none⟩)) := hbf.1.cell 0
  have f1 : W.cell? ⟨bx, 0, none⟩ = some (.pointer (some ⟨b, 0, none⟩)) := hbx.1.cell 0
  have f2 : W.cell? ⟨bo, 0, none⟩ = some (.int .i64 off) := hbo.1.cell 0
  have f3 : W.cell? ⟨bt, 0, none⟩ = some (.string (mk t)) := hbt.1.cell 0
  obtain ⟨hok, hfl⟩ := hD i x hx
  obtain ⟨hx1, hx2⟩ := hfl hk
  unfold Body evP
  unfold writeD at hto ⊢
  by_cases c1 : 8459264 - off < (t.length : Int)
  · rw [if_pos c1]
    have HB := write_big W fb b off t h0 h1 c1
    clear c1
    go_enter Tryz.func73, Tryz.ntmps73
    go_wp2_with (go_at_call 74; refine HB.mono ?_; rintro e w' ⟨rfl, rfl⟩)
    go_ret
    exact ⟨L, _, [], _, N0.st, N0.step, by simp, fun _ e => e.elim, rfl, by decide, 0, trivial⟩
  · rw [if_neg c1] at hto ⊢
    have ho : off = (off.toNat : Int) := by omega
    have HWr := write_st N0 (by simp) ha hx hk hx1 hx2 off.toNat t ht (by omega)
    rw [← ho] at HWr
    by_cases c2 : t = []
    · rw [if_pos c2] at hto ⊢
      have hto' := hto _ _ _ rfl
      have Hx := Lib.hid (And.intro c2 (And.intro ho hto'))
      clear c1 c2 ho hto hto'
      go_enter Tryz.func73, Tryz.ntmps73
      go_wp2_with (go_at_call 74; refine HWr.mono ?_; rintro e w' ⟨rfl, hm⟩)
      go_ret
      obtain ⟨c2, ho, hto'⟩ := Hx
      obtain ⟨L', uv', vals', N', l1, _, l2⟩ := hm
      rw [if_pos c2] at N'
      have hv : vals' = [] := List.eq_nil_of_length_eq_zero (by have := l2 c2; simp at this; simp [this])
      exact ⟨L', uv', vals', _, N'.st, N'.step, by rw [hv]; simp, fun _ e => e.elim, rfl, rfl, by simp [hv], trivial, hto'⟩
    · rw [if_neg c2] at hto ⊢
      have hto' := hto _ _ _ rfl
      have Hx := Lib.hid (And.intro c2 (And.intro ho hto'))
      clear c1 c2 ho hto hto'
      go_enter Tryz.func73, Tryz.ntmps73
      go_wp2_with (go_at_call 74; refine HWr.mono ?_; rintro e w' ⟨rfl, hm⟩)
      go_ret
      obtain ⟨c2, ho, hto'⟩ := Hx
      obtain ⟨L', uv', vals', N', l1, l3, _⟩ := hm
      rw [if_neg c2] at N'
      exact ⟨L', uv', vals', _, N'.st, N'.step, by simp at l1; omega, fun _ e => e.elim, rfl, rfl, by simp [l3 c2], trivial, hto'⟩
set_option maxRecDepth 100000 in
set_option maxHeartbeats 4000000 in
theorem cut1_st (h : Sim W L fb n nb (.slice none 0 0) []) (hw : WF L nb) (hD : Filed (stOf L nb)) {i : Int} {b : Nat} (ha : Adr L nb i b) {x : Nd} (hx : get (stOf L nb) i = some x) (hk : x.kind = 1) (size : Int) (h0 : 0 ≤ size) (bf bx bo : Nat)
    (hbf : Off W L (.slice none 0 0) bf #[evP fb] 23) (hbx : Off W L (.slice none 0 0) bx #[evP b] 61) (hbo : Off W L (.slice none 0 0) bo #[.int .i64 size] 3)
    (hto : ∀ s' u v, cutD (stOf L nb) i size = .ok (s', u, v) → TOk s') :
    Body fb n nb L (fun _ => False) (fun _ _ => True) (cutD (stOf L nb) i size) W 75 #[evP bf, evP bx, evP bo] := by
  have N0 : Now W L (fun _ => False) fb n nb W L (.slice none 0 0) [] (stOf L nb) := .start h hw fun x e => e.elim
  have f0 : W.cell? ⟨bf, 0, none⟩ = some (.pointer (some ⟨fb, 0, none⟩)) := hbf.1.cell 0
  have f1 : W.cell? ⟨bx, 0, none⟩ = some (.pointer (some ⟨b, 0, none⟩)) := hbx.1.cell 0
  have f2 : W.cell? ⟨bo, 0, none⟩ = some (.int .i64 size) := hbo.1.cell 0
  obtain ⟨hok, hfl⟩ := hD i x hx
  obtain ⟨hx1, hx2⟩ := hfl hk
  have hsz : sizeOf (stOf L nb) i = x.size := by unfold sizeOf; rw [hx]; rfl
  unfold Body evP
  unfold cutD at hto ⊢
  by_cases c1 : 8459264 < size
  · rw [if_pos c1]
    have HB := cut_big W fb b size c1
    clear c1
    go_enter Tryz.func75, Tryz.ntmps75
    go_wp2_with (go_at_call 76; refine HB.mono ?_; rintro e w' ⟨rfl, hb'⟩)
    go_ret
    have N1 := N0.below hb'
    exact ⟨L, _, [], _, N1.st, N1.step, by simp, fun _ e => e.elim, rfl, by decide, 0, trivial⟩
  · rw [if_neg c1] at hto ⊢
    have HWr := cut_st N0 (by simp) ha hx hk hok hx1 hx2 size h0 (by omega)
    by_cases c2 : size = sizeOf (stOf L nb) i
    · rw [if_pos c2] at hto ⊢
      have hto' := hto _ _ _ rfl
      have Hx := Lib.hid (And.intro c2 (And.intro hsz hto'))
      clear c1 c2 hsz hto hto'
      go_enter Tryz.func75, Tryz.ntmps75
      go_wp2_with (go_at_call 76; refine HWr.mono ?_; rintro e w' ⟨rfl, hm⟩)
      go_ret
      obtain ⟨c2, hsz, hto'⟩ := Hx
      rw [hsz] at c2
      obtain ⟨L', uv', vals', N', l1, _, l2⟩ := hm
      rw [if_pos c2] at N'
      have hv : vals' = [] := List.eq_nil_of_length_eq_zero (by have := l2 c2; simp at this; simp [this])
      exact ⟨L', uv', vals', _, N'.st, N'.step, by rw [hv]; simp, fun _ e => e.elim, rfl, rfl, by simp [hv], trivial, hto'⟩
    · rw [if_neg c2] at hto ⊢
      have hto' := hto _ _ _ rfl
      have Hx := Lib.hid (And.intro c2 (And.intro hsz hto'))
      clear c1 c2 hsz hto hto'
      go_enter Tryz.func75, Tryz.ntmps75
      go_wp2_with (go_at_call 76; refine HWr.mono ?_; rintro e w' ⟨rfl, hm⟩)
      go_ret
      obtain ⟨c2, hsz, hto'⟩ := Hx
      rw [hsz] at c2
      obtain ⟨L', uv', vals', N', l1, l3, _⟩ := hm
      rw [if_neg c2] at N'
      exact ⟨L', uv', vals', _, N'.st, N'.step, by simp at l1; omega, fun _ e => e.elim, rfl, rfl, by simp [l3 c2], trivial, hto'⟩
set_option maxRecDepth 100000 in
set_option maxHeartbeats 4000000 in
theorem writeAt_st (h : Sim W L fb n nb (.slice none 0 0) []) (hw : WF L nb) (hD : Filed (stOf L nb)) (hn1 : 128 ≤ n) (hn2 : n ≤ 16384) (i : Int) (hi1 : 0 ≤ i) (hi2 : i ≤ 1000000) (off : Int) (hoff : off ≤ 9223372036854775807) (t : Tx)
    (hto : 0 ≤ off → t.length ≤ 16384 → ∀ s' u v, writeD (stOf L nb) i off t = .ok (s', u, v) → TOk s') :
    Calls Tryz.prog 42 #[.pointer (some ⟨fb, 0, none⟩), .int .i64 i, .int .i64 off, .string (mk t)] W fun e W' => Errd fb n nb W L (.slice none 0 0) (writeR n (stOf L nb) i off t) e W' := by
  obtain ⟨W1, hW1⟩ : ∃ x, x = (((W.alloc (.cells #[evP fb] 23)).alloc (.cells #[.int .i64 off] 3)).alloc (.cells #[.string (mk t)] 9)) := ⟨_, rfl⟩
  have hb1 : Below W.heap.size W W1 := by rw [hW1]; exact (((Below.refl _ _).alloc (Nat.le_refl _) _).alloc (by simp) _).alloc (by simp; omega) _
  have hs1 : W1.heap.size = W.heap.size + 3 := by rw [hW1]; simp
  have S1 := h.below hb1
  have hoff0 : ∀ x, W.heap.size ≤ x → ¬ Mine L (.slice none 0 0) x := fun x hx => h.not_mine hx
  have bf1 : Blk W1 (W.heap.size + 0) #[evP fb] 23 := by rw [hW1]; exact ((Blk.newAt _ _ rfl).alloc _).alloc _
  have bo1 : Blk W1 (W.heap.size + 1) #[.int .i64 off] 3 := by rw [hW1]; exact (Blk.newAt _ _ (by simp)).alloc _
  have bt1 : Blk W1 (W.heap.size + 2) #[.string (mk t)] 9 := by rw [hW1]; exact Blk.newAt _ _ (by simp)
  have g0 : W1.cell? ⟨W.heap.size, 0, none⟩ = some (.pointer (some ⟨fb, 0, none⟩)) := bf1.cell 0
  have g1 : W1.cell? ⟨W.heap.size + 1, 0, none⟩ = some (.int .i64 off) := bo1.cell 0
  have g2 : W1.cell? ⟨W.heap.size + 2, 0, none⟩ = some (.string (mk t)) := bt1.cell 0
  have hsz : (mk t).size = t.length := mk_size t
  have l0 : W.heap.size < W1.heap.size := by omega
  have l1 : W.heap.size + 1 < W1.heap.size := by omega
  have l2 : W.heap.size + 2 < W1.heap.size := by omega
  clear hs1
  have HO := open_st S1 hw i hi1 hi2
  unfold Errd writeR
  by_cases c1 : off < 0 ∨ 16384 < t.length
  · rw [if_pos c1]
    by_cases c2 : off < 0
    · clear c1 hto
      go_enter Tryz.func42, Tryz.ntmps42
      go_wp2_with fail
      go_ret
      unfold evP at hW1
      rw [hW1] at S1 hb1
      first | exact ⟨L, S1, hw, rfl, Step.of_below hb1, rfl, by decide⟩ | exact ⟨L, S1, hw, rfl, Step.of_below hb1, rfl⟩
    · have c3 : 16384 < t.length := c1.resolve_left c2
      have c3' : (16384 : Int) < (t.length : Int) := by omega
      clear c1 hto
      go_enter Tryz.func42, Tryz.ntmps42
      go_wp2_with fail
      go_ret
      unfold evP at hW1
      rw [hW1] at S1 hb1
      first | exact ⟨L, S1, hw, rfl, Step.of_below hb1, rfl, by decide⟩ | exact ⟨L, S1, hw, rfl, Step.of_below hb1, rfl⟩
  rw [if_neg c1]
  have c2 : ¬ off < 0 := fun e => c1 (.inl e)
  have c3 : ¬ (16384 : Int) < (t.length : Int) := fun e => c1 (.inr (by omega))
  have c4 : t.length ≤ 16384 := by omega
  clear c1
  cases hop : openP (stOf L nb) i with
  | error z =>
    rw [hop] at HO
    dsimp only at HO ⊢
    clear hto hop
    go_enter Tryz.func42, Tryz.ntmps42
    go_wp2_with fail
    unfold evP at hW1
    rw [← hW1]
    clear hW1
    refine HO.mono ?_
    rintro e w' ⟨rfl, rfl, hzn⟩
    have hzb := (bne_iff_ne.2 hzn)
    go_wp2_with fail
    go_ret
    exact ⟨L, S1.alloc _, hw, rfl, Step.of_below (hb1.alloc hb1.size _), rfl, hzn⟩
  | ok j =>
    have hj := openP_ok hop
    rw [hop] at HO
    dsimp only at HO ⊢
    rw [hj]
    clear hj
    obtain ⟨R, hR⟩ : ∃ R, R = fin n (stOf L nb) (writeD (stOf L nb) i off t) := ⟨_, rfl⟩
    rw [← hR]
    obtain ⟨s', r⟩ := R
    dsimp only
    have HR := Lib.hid hR
    clear hR
    cases r with
    | error z =>
      clear hop
      go_enter Tryz.func42, Tryz.ntmps42
      go_wp2_with fail
      unfold evP at hW1
      rw [← hW1]
      refine HO.mono ?_
      rintro e w' ⟨rfl, b, x, rfl, ha, hx, hk⟩
      obtain ⟨W2, hW2⟩ : ∃ y, y = W1.alloc (.cells #[.pointer (some ⟨b, 0, none⟩)] 61) := ⟨_, rfl⟩
      have hb2 : Below W.heap.size W W2 := by rw [hW2]; exact hb1.alloc hb1.size _
      have S2 := h.below hb2
      have h12 : ∀ y, y < W1.heap.size → W2.heap[y]? = W1.heap[y]? := fun y hy => by rw [hW2]; exact ((Below.refl _ _).alloc (Nat.le_refl _) _).block _ hy
      have bx2 : Blk W2 W1.heap.size #[evP b] 61 := by rw [hW2]; exact Blk.newAt _ _ rfl
      have HC := call_st S2 hw hn1 hn2 73 #[evP W.heap.size, evP W1.heap.size, evP (W.heap.size + 1), evP (W.heap.size + 2)] (enters_of Tryz.func73 (by kernel_rfl) rfl) (fun _ => False)
        (fun x hx => hx.elim) (fun _ _ => True) (fun v w w' hv hx => trivial) (writeD (stOf L nb) i off t) (fun w Sw Tw hsz => by
          have o : ∀ (y : Nat) (xs : Array Value) (t : TypeId), W.heap.size ≤ y → Blk W2 y xs t → Off w L (.slice none 0 0) y xs t := fun y xs t hy hb => Off.step ⟨hb, hoff0 y hy⟩ Tw
          exact write1_st Sw hw hD ha hx hk off (by omega) hoff t c4 W.heap.size W1.heap.size (W.heap.size + 1) (W.heap.size + 2) (o _ _ _ (by omega) (bf1.same (h12 _ (by omega)))) (o _ _ _ (by omega) bx2) (o _ _ _ (by omega) (bo1.same (h12 _ (by omega)))) (o _ _ _ (by omega) (bt1.same (h12 _ (by omega)))) (hto (by omega) c4))
      unfold fnV evP Ended at HC
      have hR := HR
      unfold Hid at hR
      rw [hW2, ← hR] at HC
      clear hR
      dsimp only at HC
      have Hall := Lib.hid (And.intro hb2 (And.intro hW2 (And.intro ha (And.intro hx hk))))
      clear hb2 hW2 h12 bx2 S2 bf1 bo1 bt1 hoff0 ha hx hk hto hW1 hb1 HO
      go_wp2_with (go_at_call 44; refine HC.mono ?_; rintro e w3 ⟨L3, S3, F3, st3, T3, z3, rfl, hzn, v, hv⟩)
      go_ret
      obtain ⟨hb2, hW2, _⟩ := Hall
      rw [hW2] at hb2
      exact ⟨L3, S3, F3, st3, Step.unz hb2 T3 (fun x hx => hx.elim), rfl, hzn⟩
    | ok v =>
      clear hop
      go_enter Tryz.func42, Tryz.ntmps42
      go_wp2_with fail
      unfold evP at hW1
      rw [← hW1]
      refine HO.mono ?_
      rintro e w' ⟨rfl, b, x, rfl, ha, hx, hk⟩
      obtain ⟨W2, hW2⟩ : ∃ y, y = W1.alloc (.cells #[.pointer (some ⟨b, 0, none⟩)] 61) := ⟨_, rfl⟩
      have hb2 : Below W.heap.size W W2 := by rw [hW2]; exact hb1.alloc hb1.size _
      have S2 := h.below hb2
      have h12 : ∀ y, y < W1.heap.size → W2.heap[y]? = W1.heap[y]? := fun y hy => by rw [hW2]; exact ((Below.refl _ _).alloc (Nat.le_refl _) _).block _ hy
      have bx2 : Blk W2 W1.heap.size #[evP b] 61 := by rw [hW2]; exact Blk.newAt _ _ rfl
      have HC := call_st S2 hw hn1 hn2 73 #[evP W.heap.size, evP W1.heap.size, evP (W.heap.size + 1), evP (W.heap.size + 2)] (enters_of Tryz.func73 (by kernel_rfl) rfl) (fun _ => False)
        (fun x hx => hx.elim) (fun _ _ => True) (fun v w w' hv hx => trivial) (writeD (stOf L nb) i off t) (fun w Sw Tw hsz => by
          have o : ∀ (y : Nat) (xs : Array Value) (t : TypeId), W.heap.size ≤ y → Blk W2 y xs t → Off w L (.slice none 0 0) y xs t := fun y xs t hy hb => Off.step ⟨hb, hoff0 y hy⟩ Tw
          exact write1_st Sw hw hD ha hx hk off (by omega) hoff t c4 W.heap.size W1.heap.size (W.heap.size + 1) (W.heap.size + 2) (o _ _ _ (by omega) (bf1.same (h12 _ (by omega)))) (o _ _ _ (by omega) bx2) (o _ _ _ (by omega) (bo1.same (h12 _ (by omega)))) (o _ _ _ (by omega) (bt1.same (h12 _ (by omega)))) (hto (by omega) c4))
      unfold fnV evP Ended at HC
      have hR := HR
      unfold Hid at hR
      rw [hW2, ← hR] at HC
      clear hR
      dsimp only at HC
      have Hall := Lib.hid (And.intro hb2 (And.intro hW2 (And.intro ha (And.intro hx hk))))
      clear hb2 hW2 h12 bx2 S2 bf1 bo1 bt1 hoff0 ha hx hk hto hW1 hb1 HO
      go_wp2_with (go_at_call 44; refine HC.mono ?_; rintro e w3 ⟨L3, S3, F3, st3, T3, z3, rfl, hv⟩)
      go_ret
      obtain ⟨hb2, hW2, _⟩ := Hall
      rw [hW2] at hb2
      exact ⟨L3, S3, F3, st3, Step.unz hb2 T3 (fun x hx => hx.elim), rfl⟩
set_option maxRecDepth 100000 in
set_option maxHeartbeats 4000000 in
theorem cutAt_st (h : Sim W L fb n nb (.slice none 0 0) []) (hw : WF L nb) (hD : Filed (stOf L nb)) (hn1 : 128 ≤ n) (hn2 : n ≤ 16384) (i : Int) (hi1 : 0 ≤ i) (hi2 : i ≤ 1000000) (size : Int)
    (hto : ∀ s' u v, cutD (stOf L nb) i size = .ok (s', u, v) → TOk s') :
    Calls Tryz.prog 43 #[.pointer (some ⟨fb, 0, none⟩), .int .i64 i, .int .i64 size] W fun e W' => Errd fb n nb W L (.slice none 0 0) (cutR n (stOf L nb) i size) e W' := by
  obtain ⟨W1, hW1⟩ : ∃ x, x = ((W.alloc (.cells #[evP fb] 23)).alloc (.cells #[.int .i64 size] 3)) := ⟨_, rfl⟩
  have hb1 : Below W.heap.size W W1 := by rw [hW1]; exact ((Below.refl _ _).alloc (Nat.le_refl _) _).alloc (by simp) _
  have hs1 : W1.heap.size = W.heap.size + 2 := by rw [hW1]; simp
  have S1 := h.below hb1
  have hoff0 : ∀ x, W.heap.size ≤ x → ¬ Mine L (.slice none 0 0) x := fun x hx => h.not_mine hx
  have bf1 : Blk W1 (W.heap.size + 0) #[evP fb] 23 := by rw [hW1]; exact (Blk.newAt _ _ rfl).alloc _
  have bo1 : Blk W1 (W.heap.size + 1) #[.int .i64 size] 3 := by rw [hW1]; exact Blk.newAt _ _ (by simp)
  have g0 : W1.cell? ⟨W.heap.size, 0, none⟩ = some (.pointer (some ⟨fb, 0, none⟩)) := bf1.cell 0
  have g1 : W1.cell? ⟨W.heap.size + 1, 0, none⟩ = some (.int .i64 size) := bo1.cell 0
  have l0 : W.heap.size < W1.heap.size := by omega
  have l1 : W.heap.size + 1 < W1.heap.size := by omega
  clear hs1
  have HO := open_st S1 hw i hi1 hi2
  unfold Errd cutR
  by_cases c2 : size < 0
  · rw [if_pos c2]
    clear hto
    go_enter Tryz.func43, Tryz.ntmps43
    go_wp2_with fail
    go_ret
    unfold evP at hW1
    rw [hW1] at S1 hb1
    first | exact ⟨L, S1, hw, rfl, Step.of_below hb1, rfl, by decide⟩ | exact ⟨L, S1, hw, rfl, Step.of_below hb1, rfl⟩
  rw [if_neg c2]
  cases hop : openP (stOf L nb) i with
  | error z =>
    rw [hop] at HO
    dsimp only at HO ⊢
    clear hto hop
    go_enter Tryz.func43, Tryz.ntmps43
    go_wp2_with fail
    unfold evP at hW1
    rw [← hW1]
    clear hW1
    refine HO.mono ?_
    rintro e w' ⟨rfl, rfl, hzn⟩
    have hzb := (bne_iff_ne.2 hzn)
    go_wp2_with fail
    go_ret
    exact ⟨L, S1.alloc _, hw, rfl, Step.of_below (hb1.alloc hb1.size _), rfl, hzn⟩
  | ok j =>
    have hj := openP_ok hop
    rw [hop] at HO
    dsimp only at HO ⊢
    rw [hj]
    clear hj
    obtain ⟨R, hR⟩ : ∃ R, R = fin n (stOf L nb) (cutD (stOf L nb) i size) := ⟨_, rfl⟩
    rw [← hR]
    obtain ⟨s', r⟩ := R
    dsimp only
    have HR := Lib.hid hR
    clear hR
    cases r with
    | error z =>
      clear hop
      go_enter Tryz.func43, Tryz.ntmps43
      go_wp2_with fail
      unfold evP at hW1
      rw [← hW1]
      refine HO.mono ?_
      rintro e w' ⟨rfl, b, x, rfl, ha, hx, hk⟩
      obtain ⟨W2, hW2⟩ : ∃ y, y = W1.alloc (.cells #[.pointer (some ⟨b, 0, none⟩)] 61) := ⟨_, rfl⟩
      have hb2 : Below W.heap.size W W2 := by rw [hW2]; exact hb1.alloc hb1.size _
      have S2 := h.below hb2
      have h12 : ∀ y, y < W1.heap.size → W2.heap[y]? = W1.heap[y]? := fun y hy => by rw [hW2]; exact ((Below.refl _ _).alloc (Nat.le_refl _) _).block _ hy
      have bx2 : Blk W2 W1.heap.size #[evP b] 61 := by rw [hW2]; exact Blk.newAt _ _ rfl
      have HC := call_st S2 hw hn1 hn2 75 #[evP W.heap.size, evP W1.heap.size, evP (W.heap.size + 1)] (enters_of Tryz.func75 (by kernel_rfl) rfl) (fun _ => False)
        (fun x hx => hx.elim) (fun _ _ => True) (fun v w w' hv hx => trivial) (cutD (stOf L nb) i size) (fun w Sw Tw hsz => by
          have o : ∀ (y : Nat) (xs : Array Value) (t : TypeId), W.heap.size ≤ y → Blk W2 y xs t → Off w L (.slice none 0 0) y xs t := fun y xs t hy hb => Off.step ⟨hb, hoff0 y hy⟩ Tw
          exact cut1_st Sw hw hD ha hx hk size (by omega) W.heap.size W1.heap.size (W.heap.size + 1) (o _ _ _ (by omega) (bf1.same (h12 _ (by omega)))) (o _ _ _ (by omega) bx2) (o _ _ _ (by omega) (bo1.same (h12 _ (by omega)))) hto)
      unfold fnV evP Ended at HC
      have hR := HR
      unfold Hid at hR
      rw [hW2, ← hR] at HC
      clear hR
      dsimp only at HC
      have Hall := Lib.hid (And.intro hb2 (And.intro hW2 (And.intro ha (And.intro hx hk))))
      clear hb2 hW2 h12 bx2 S2 bf1 bo1 hoff0 ha hx hk hto hW1 hb1 HO
      go_wp2_with (go_at_call 44; refine HC.mono ?_; rintro e w3 ⟨L3, S3, F3, st3, T3, z3, rfl, hzn, v, hv⟩)
      go_ret
      obtain ⟨hb2, hW2, _⟩ := Hall
      rw [hW2] at hb2
      exact ⟨L3, S3, F3, st3, Step.unz hb2 T3 (fun x hx => hx.elim), rfl, hzn⟩
    | ok v =>
      clear hop
      go_enter Tryz.func43, Tryz.ntmps43
      go_wp2_with fail
      unfold evP at hW1
      rw [← hW1]
      refine HO.mono ?_
      rintro e w' ⟨rfl, b, x, rfl, ha, hx, hk⟩
      obtain ⟨W2, hW2⟩ : ∃ y, y = W1.alloc (.cells #[.pointer (some ⟨b, 0, none⟩)] 61) := ⟨_, rfl⟩
      have hb2 : Below W.heap.size W W2 := by rw [hW2]; exact hb1.alloc hb1.size _
      have S2 := h.below hb2
      have h12 : ∀ y, y < W1.heap.size → W2.heap[y]? = W1.heap[y]? := fun y hy => by rw [hW2]; exact ((Below.refl _ _).alloc (Nat.le_refl _) _).block _ hy
      have bx2 : Blk W2 W1.heap.size #[evP b] 61 := by rw [hW2]; exact Blk.newAt _ _ rfl
      have HC := call_st S2 hw hn1 hn2 75 #[evP W.heap.size, evP W1.heap.size, evP (W.heap.size + 1)] (enters_of Tryz.func75 (by kernel_rfl) rfl) (fun _ => False)
        (fun x hx => hx.elim) (fun _ _ => True) (fun v w w' hv hx => trivial) (cutD (stOf L nb) i size) (fun w Sw Tw hsz => by
          have o : ∀ (y : Nat) (xs : Array Value) (t : TypeId), W.heap.size ≤ y → Blk W2 y xs t → Off w L (.slice none 0 0) y xs t := fun y xs t hy hb => Off.step ⟨hb, hoff0 y hy⟩ Tw
          exact cut1_st Sw hw hD ha hx hk size (by omega) W.heap.size W1.heap.size (W.heap.size + 1) (o _ _ _ (by omega) (bf1.same (h12 _ (by omega)))) (o _ _ _ (by omega) bx2) (o _ _ _ (by omega) (bo1.same (h12 _ (by omega)))) hto)
      unfold fnV evP Ended at HC
      have hR := HR
      unfold Hid at hR
      rw [hW2, ← hR] at HC
      clear hR
      dsimp only at HC
      have Hall := Lib.hid (And.intro hb2 (And.intro hW2 (And.intro ha (And.intro hx hk))))
      clear hb2 hW2 h12 bx2 S2 bf1 bo1 hoff0 ha hx hk hto hW1 hb1 HO
      go_wp2_with (go_at_call 44; refine HC.mono ?_; rintro e w3 ⟨L3, S3, F3, st3, T3, z3, rfl, hv⟩)
      go_ret
      obtain ⟨hb2, hW2, _⟩ := Hall
      rw [hW2] at hb2
      exact ⟨L3, S3, F3, st3, Step.unz hb2 T3 (fun x hx => hx.elim), rfl⟩
end
end Fs
end Go.Proofs.YtlnnbjgfpiefdaaGreat
/- A strings.Builder: bytes are written to it; its string. -/
namespace Go.Proofs.YtlnnbjgfpiefdaaGreat
open Go.RowKit Go.Maps Go.Shelf

namespace Fs
set_option maxHeartbeats 1000000 in
set_option maxRecDepth 100000 in
theorem check_used (b : Nat) (w : World) (h0 : w.cell? ⟨b, 0, none⟩ = some (.pointer (some ⟨b, 0, none⟩))) :
    Calls Tryz.prog 98 #[.pointer (some ⟨b, 0, none⟩)] w fun e w' => e = .returned (.tuple #[]) ∧ w' = w := by
  obtain ⟨j, hj, _⟩ := Option.map_eq_some_iff.1 (show (Tryz.prog.info? 128).map (·.size) = some 2 by kernel_rfl)
  go_enter Tryz.func98, Tryz.ntmps98
  go_wp2
  rw [Lib.run_neq_ptr_same w _ Tryz.underlying125 hj]
  go_wp2
  go_end0
  exact ⟨rfl, rfl⟩
set_option maxHeartbeats 1000000 in
set_option maxRecDepth 100000 in
theorem check_fresh (b : Nat) (w : World) (h0 : w.cell? ⟨b, 0, none⟩ = some (.pointer none)) (hsh : w.shape? b = some (128, 2)) (hfz : w.frozen? ⟨b, 0, none⟩ = false) :
    Calls Tryz.prog 98 #[.pointer (some ⟨b, 0, none⟩)] w fun e w' => e = .returned (.tuple #[]) ∧ w' = w.setCell ⟨b, 0, none⟩ (.pointer (some ⟨b, 0, none⟩)) := by
  obtain ⟨j, hj, hjs⟩ := Option.map_eq_some_iff.1 (show (Tryz.prog.info? 128).map (·.size) = some 2 by kernel_rfl)
  go_enter Tryz.func98, Tryz.ntmps98
  go_wp2
  rw [Lib.run_to_unsafe w ⟨b, 0, none⟩ Tryz.underlying125 Tryz.underlying162 hj (by rw [hjs]; decide) hsh (Nat.zero_lt_succ 1)]
  simp only [Result.andThen]
  rw [Oper.upon_value]
  go_wp2
  rw [run_callFunc_extern Tryz.func112 (by kernel_rfl) (by kernel_rfl) (by kernel_rfl) (e := Extern.AbiNoEscape.same) (by kernel_rfl)]
  rw [Lib.run_noEscape]
  simp only [Result.andThen]
  rw [Oper.upon_value]
  go_wp2
  rw [Lib.run_from_unsafe w ⟨b, 0, none⟩ Tryz.underlying162 Tryz.underlying125 hj hsh (by kernel_rfl)]
  simp only [Result.andThen]
  rw [Oper.upon_value]
  go_wp2
  go_end0
  exact ⟨rfl, rfl⟩
/-- A builder in block b, its bytes in a row from block B on. -/
def Bld (B b : Nat) (l : List UInt8) (w : World) : Prop := ∃ p v, Blk w b #[p, v] 128 ∧ (p = .pointer none ∨ p = .pointer (some ⟨b, 0, none⟩)) ∧ w.ownsRow B 5 1 v l.length (Lib.byteCells l) ∧ v.ownBlock ≠ some b
theorem info_byte : (Tryz.prog.info? 5).map (fun i => (i.zero, i.size, i.bytes)) = some (some (.int .u8 0), 1, 1) := by kernel_rfl
set_option maxHeartbeats 2000000 in
set_option maxRecDepth 100000 in
theorem write_bytes {B b : Nat} {l : List UInt8} {w : World} (h : Bld B b l w) (hB : B ≤ b) (ad : Addr) (m c : Nat) (news : List UInt8) (hl : news.length = m) (hnews : ∀ j u, (Lib.byteCells news)[j]? = some u → w.cell? (ad.add j) = some u) (hne : ad.block ≠ b) (hlen : l.length + m ≤ 1000000000000) :
    Calls Tryz.prog 70 #[.pointer (some ⟨b, 0, none⟩), .slice (some ad) m c] w fun e w' => e = .returned (.tuple #[.int .i64 m, .nilIface]) ∧ Bld B b (l ++ news) w' ∧ Below B w w' := by
  obtain ⟨p, v, hb, hp, hown, hnb⟩ := h
  -- behind the check
  have HC : Calls Tryz.prog 98 #[.pointer (some ⟨b, 0, none⟩)] w fun e w' => e = .returned (.tuple #[]) ∧ Blk w' b #[.pointer (some ⟨b, 0, none⟩), v] 128 ∧ w'.heap.size = w.heap.size ∧ w'.os = w.os ∧ w'.tape = w.tape ∧ w'.output = w.output ∧ ∀ x, x ≠ b → w'.heap[x]? = w.heap[x]? := by
    rcases hp with rfl | rfl
    · have hsh : w.shape? b = some (128, 2) := by unfold Blk at hb; simp [World.shape?, hb]
      refine (check_fresh b w (hb.cell 0) hsh (hb.free 0)).mono ?_
      rintro e w' ⟨rfl, rfl⟩
      exact ⟨rfl, hb.set 0 _, by simp, rfl, rfl, rfl, fun x hx => Below.heap_setCell _ _ _ _ hx⟩
    · refine (check_used b w (hb.cell 0)).mono ?_
      rintro e w' ⟨rfl, rfl⟩
      exact ⟨rfl, hb, rfl, rfl, rfl, rfl, fun _ _ => rfl⟩
  obtain ⟨i0, hi, hz0, hz1, hz2⟩ := info_parts info_byte
  clear hp hb
  go_enter Tryz.func70, Tryz.ntmps70
  go_wp2_with (go_at_call 98; refine HC.mono ?_)
  rintro e w1 ⟨rfl, hb1, hs1, ho1, ht1, hu1, hk1⟩
  have c1 := hb1.cell 1
  have f1 := hb1.free 1
  have hown1 := row_same hown (W' := w1) fun g hg => hk1 g (fun e => hnb (by rw [hg, e]))
  have hnews1 : ∀ j u, (Lib.byteCells news)[j]? = some u → w1.cell? (ad.add j) = some u := fun j u hj => by
    have e : (ad.add j).block = ad.block := by unfold Addr.add; split <;> rfl
    rw [World.cell?_of_block (hk1 _ (by rw [e]; exact hne))]; exact hnews j u hj
  go_wp2_with (at_builtin; refine wpList_append_own_at _ rfl _ _ 126 rfl B 5 i0 (.int .u8 0) 1 1 Tryz.underlying126 hi hz0 hz1 hz2 rfl (by decide) v _ _ rfl hown1 ad m c (Lib.byteCells news) rfl (by rw [Lib.byteCells_length]; omega) hnews1 (Lib.byteCells_one _) (by unfold maxLen; omega) (by omega) (by have := hb1.lt; omega) ?_; intro v2 w2 hown2 hg2 hx2 hloc; obtain ⟨ao2, c2, rfl, _⟩ := own_shape2 hown2; have hb2 : Blk w2 b #[.pointer (some ⟨b, 0, none⟩), v] 128 := hb1.same (hg2.block b hb1.lt (fun e => hnb e.symm)); have d1 := hb2.cell 1; have d2 := hb2.free 1)
  go_ret2
  have hnb2 : (Value.slice ao2 (l.length + m) c2).ownBlock ≠ some b := by
    rcases hloc with e | e
    · rw [e]; exact hnb
    · rw [e]; intro c'; cases c'; exact Nat.lt_irrefl _ hb1.lt
  have hown3 := ownsRow_setCell_other hown2 (a := ⟨b, 1, none⟩) hnb2 (.slice ao2 (l.length + m) c2)
  have hw2 : Below B w w2 := ⟨hg2.os.trans ho1, hg2.tape.trans ht1, hg2.output.trans hu1, by have := hg2.size; omega, fun k hk => (hg2.block k (by have := hb1.lt; omega) (fun e => by have := (hown.lt k e.symm).1; omega)).trans (hk1 k (by omega))⟩
  refine ⟨rfl, ⟨_, _, hb2.set 1 _, .inr rfl, ?_, hnb2⟩, hw2.setCell (p := ⟨b, 1, none⟩) hB _⟩
  rw [List.length_append, hl, show Lib.byteCells (l ++ news) = Lib.byteCells l ++ Lib.byteCells news from List.map_append]
  exact hown3
end Fs
end Go.Proofs.YtlnnbjgfpiefdaaGreat
/- The contracts of the library's functions that the walks use, laid at this program (by the kit's own tool; cut to what is used). -/
namespace Go.Proofs
open Go.Shelf
def Tryz.lays169_ren : Go.Shelf.Ren := ⟨fun | 169 => 71 | n => n, fun | 70 => 125 | 9 => 9 | 0 => 0 | 72 => 128 | 37 => 126 | 127 => 151 | 3 => 3 | 5 => 5 | n => n, fun | n => n⟩
theorem Tryz.lays169 : Go.Proofs.Lays.n169 Tryz.prog Tryz.lays169_ren := {
  mixed := by kernel_rfl
  f169 := Tryz.func71.trans (congrArg some (by kernel_rfl))
  t0 := Tryz.underlying0
  a0 := Tryz.isAgg0
  z0 := Tryz.sizeOf0
  v0 := Tryz.zeroValue0
  t3 := Tryz.underlying3
  a3 := Tryz.isAgg3
  z3 := Tryz.sizeOf3
  v3 := Tryz.zeroValue3
  t9 := Tryz.underlying9
  a9 := Tryz.isAgg9
  z9 := Tryz.sizeOf9
  v9 := Tryz.zeroValue9
  t37 := Tryz.underlying126
  a37 := Tryz.isAgg126
  z37 := Tryz.sizeOf126
  v37 := Tryz.zeroValue126
  t70 := Tryz.underlying125
  a70 := Tryz.isAgg125
  z70 := Tryz.sizeOf125
  v70 := Tryz.zeroValue125
  t72 := Tryz.underlying128
  a72 := Tryz.isAgg128
  z72 := Tryz.sizeOf128
  v72 := Tryz.zeroValue128
  t127 := Tryz.underlying151
  a127 := Tryz.isAgg151
  z127 := Tryz.sizeOf151
  v127 := Tryz.zeroValue151 }
theorem Tryz.Builder_Extra_169 : Builder.Extra Tryz.prog Tryz.lays169_ren := {
  sizeBuilder := by kernel_rfl
  liesBuilder := by kernel_rfl
  t5 := Tryz.underlying5
  a5 := Tryz.isAgg5
  z5 := Tryz.sizeOf5
  v5 := Tryz.zeroValue5
  infoByte := by kernel_rfl
  cellsByte := by kernel_rfl
  sizeByte := by kernel_rfl
  neB5 := by decide }
open Go.RowKit in
theorem Tryz.Builder_String_any (B b : Nat) (l : List UInt8) (w : World) (h : Lib.IsBuilder 128 5 B b (Lib.byteCells l) w) (hBw : B ≤ w.heap.size) :
    Calls Tryz.prog 71 #[.pointer (some ⟨b, 0, none⟩)] w fun e w' => e = .returned (.string ⟨l.toArray⟩) ∧ Below B w w' := Any.Builder_String_any Tryz.lays169 Tryz.Builder_Extra_169 B b l w h hBw
end Go.Proofs
