/- What takes a change back: the closures that the file system notes, each walked. -/
import Derived.Test.YtlnnbjgfpiefdaaGreatRamB03
import Derived.Deep.MidRow
import Derived.Shelf.Abstract
import Derived.Deep.RegionHeld3
namespace Go.Proofs.YtlnnbjgfpiefdaaGreat
open Go.RowKit Go.Maps Go.Shelf

namespace Fs
/-- A closure that makes of block b, which is r', r again. -/
inductive Und (fb nb : Nat) (L : Lay) : Value → Nat → Ro → Ro → Prop
  | links (b : Nat) (hd : Hd) (d : Int) (x1 x2 : Nat) (h1 : L x1 = some (.box 61 (evP b))) (h2 : L x2 = some (.box 3 (.int .i64 d))) (b1 : -2000000 ≤ hd.links) (b2 : hd.links ≤ 2000000) (b3 : -10 ≤ d) (b4 : d ≤ 10) :
      Und fb nb L (fnV 81 #[evP x1, evP x2]) b (.node hd) (.node { hd with links := hd.links + d })
  | size (b : Nat) (hd : Hd) (z : Int) (x1 x2 : Nat) (h1 : L x1 = some (.box 3 (.int .i64 hd.size))) (h2 : L x2 = some (.box 61 (evP b))) :
      Und fb nb L (fnV 107 #[evP x1, evP x2]) b (.node hd) (.node { hd with size := z })
  | add (m m' : Al Int Nat) (i : Int) (x1 x2 : Nat) (h1 : L x1 = some (.box 23 (evP fb))) (h2 : L x2 = some (.box 3 (.int .i64 i))) (b1 : 0 ≤ i) (b2 : i ≤ 1000000) (hm : del m' i = m) :
      Und fb nb L (fnV 96 #[evP x1, evP x2]) nb (.nodes m) (.nodes m')
  | drop (m m' : Al Int Nat) (i : Int) (c : Nat) (x1 x2 x3 : Nat) (h1 : L x1 = some (.box 61 (evP c))) (h2 : L x2 = some (.box 23 (evP fb))) (h3 : L x3 = some (.box 3 (.int .i64 i))) (b1 : 0 ≤ i) (b2 : i ≤ 1000000) (hl : m'.length < maxLen)
      (hm : put m' i c = m) : Und fb nb L (fnV 82 #[evP x1, evP x2, evP x3]) nb (.nodes m) (.nodes m')
  | grow (b : Nat) (hd : Hd) (x1 : Nat) (h1 : L x1 = some (.box 61 (evP b))) (b1 : 0 ≤ hd.blocks) (b2 : hd.blocks ≤ 2000000) :
      Und fb nb L (fnV 88 #[evP x1]) b (.node hd) (.node { hd with blocks := hd.blocks + 1 })
  | put (b d : Nat) (hd : Hd) (m m' : Al Tx Int) (s : Tx) (x1 x2 : Nat) (h1 : L x1 = some (.box 61 (evP d))) (h2 : L x2 = some (.box 9 (.string (mk s)))) (hd1 : L d = some (.node hd)) (hd2 : hd.nm = some b) (hs : s.length ≤ maxLen)
      (hm : del m' s = m) : Und fb nb L (fnV 90 #[evP x1, evP x2]) b (.names m) (.names m')
  | take (b d : Nat) (hd : Hd) (m m' : Al Tx Int) (s : Tx) (i : Int) (x1 x2 x3 : Nat) (h1 : L x1 = some (.box 3 (.int .i64 i))) (h2 : L x2 = some (.box 61 (evP d))) (h3 : L x3 = some (.box 9 (.string (mk s))))
      (hd1 : L d = some (.node hd)) (hd2 : hd.nm = some b) (hs : s.length ≤ maxLen) (hl : m'.length < maxLen) (hm : Fs.put m' s i = m) : Und fb nb L (fnV 80 #[evP x1, evP x2, evP x3]) b (.names m) (.names m')
  | replace (b d : Nat) (hd : Hd) (m m' : Al Tx Int) (s : Tx) (i : Int) (x1 x2 x3 : Nat) (h1 : L x1 = some (.box 3 (.int .i64 i))) (h2 : L x2 = some (.box 61 (evP d))) (h3 : L x3 = some (.box 9 (.string (mk s))))
      (hd1 : L d = some (.node hd)) (hd2 : hd.nm = some b) (hs : s.length ≤ maxLen) (hl : m'.length < maxLen) (hm : Fs.put m' s i = m) : Und fb nb L (fnV 106 #[evP x1, evP x2, evP x3]) b (.names m) (.names m')
  | lay (b d : Nat) (hd : Hd) (m m' : Al Int Pc) (k : Int) (p : Pc) (ok : Bool) (x1 x2 x3 x4 : Nat) (h1 : L x1 = some (.box 68 (evPc p))) (h2 : L x2 = some (.box 61 (evP d))) (h3 : L x3 = some (.box 3 (.int .i64 k)))
      (h4 : L x4 = some (.box 4 (.bool ok))) (hd1 : L d = some (.node hd)) (hd2 : hd.pm = some b) (b1 : 0 ≤ k) (b2 : k ≤ 1000000) (hl : m'.length < maxLen) (hp : p.length = 512) (hm : (if ok then Fs.put m' k p else del (Fs.put m' k p) k) = m) :
      Und fb nb L (fnV 113 #[evP x1, evP x2, evP x3, evP x4]) b (.pieces m) (.pieces m')
  | cut (b d : Nat) (hd : Hd) (m m' : Al Int Pc) (k : Int) (p : Pc) (x1 x2 x3 : Nat) (h1 : L x1 = some (.box 68 (evPc p))) (h2 : L x2 = some (.box 61 (evP d))) (h3 : L x3 = some (.box 3 (.int .i64 k)))
      (hd1 : L d = some (.node hd)) (hd2 : hd.pm = some b) (b1 : 0 ≤ k) (b2 : k ≤ 1000000) (hl : m'.length < maxLen) (hp : p.length = 512) (hm : Fs.put m' k p = m) :
      Und fb nb L (fnV 101 #[evP x1, evP x2, evP x3]) b (.pieces m) (.pieces m')

/-- It is run. -/
def Runs (fb : Nat) (n : Int) (nb : Nat) (uv : Value) (vals : List Value) (W : World) (L : Lay) (k : FuncId) (cp : Array Value) (b : Nat) (r : Ro) : Prop :=
  Calls Tryz.prog k cp W fun e W' => e = .returned (.tuple #[]) ∧ Sim W' (upd L b r) fb n nb uv vals ∧ Step W (Mine L uv) W' (Mine (upd L b r) uv)

section
variable {W : World} {L : Lay} {fb : Nat} {n : Int} {nb : Nat} {uv : Value} {vals : List Value}
theorem Sim.box (h : Sim W L fb n nb uv vals) {x : Nat} {t : TypeId} {v : Value} (hx : L x = some (.box t v)) (hv : v.cells = #[v]) : W.cell? ⟨x, 0, none⟩ = some v := by
  have := (h.is x _ hx).2
  have k : Blk W x v.cells t := this
  rw [hv] at k
  exact k.cell 0
theorem mine_upd {b : Nat} {r : Ro} (hb : L b ≠ none) : Mine (upd L b r) uv = Mine L uv := by
  funext x
  unfold Mine upd
  by_cases e : x = b
  · subst e; simp [hb]
  · simp [e]
/-- A field of a node is stored. -/
theorem Sim.field (h : Sim W L fb n nb uv vals) {b : Nat} {hd hd' : Hd} (hb : L b = some (.node hd)) {j : Nat} {v : Value} (hc : hd.cells.setIfInBounds j v = hd'.cells) :
    Sim (W.setCell ⟨b, j, none⟩ v) (upd L b (.node hd')) fb n nb uv vals ∧ Step W (Mine L uv) (W.setCell ⟨b, j, none⟩ v) (Mine (upd L b (.node hd')) uv) := by
  have hi := h.is b _ hb
  have hne : L b ≠ none := by rw [hb]; simp
  refine ⟨h.turn (by simp) (fun x hx _ => Below.heap_setCell _ _ _ _ hx) (by simp; exact hi.1) ?_ ?_ ?_ ?_, ?_⟩
  · show Blk _ b hd'.cells _
    rw [← hc]
    exact Blk.set hi.2 j v
  · rintro rfl; rw [h.fs] at hb; cases hb
  · rintro rfl; obtain ⟨m, hm⟩ := h.nodes; rw [hm] at hb; cases hb
  · intro e; exact hne (h.sep b e)
  · rw [mine_upd hne]
    exact ⟨rfl, rfl, rfl, by simp, fun x _ hn => ⟨Below.heap_setCell _ _ _ _ (fun e => hn (.inl (by rw [e]; exact hne))), hn⟩⟩
/-- A map is written. -/
theorem Sim.wrote (h : Sim W L fb n nb uv vals) {W' : World} {b : Nat} {r r' : Ro} (hb : L b = some r) (hg : W.grownBy W' (some b)) (hi : Is W' b r') (hr : (∃ m, r' = .nodes m ∧ b = nb) ∨ (∃ m, r' = .names m ∧ b ≠ nb) ∨ (∃ m, r' = .pieces m ∧ b ≠ nb)) (hf : b ≠ fb) :
    Sim W' (upd L b r') fb n nb uv vals ∧ Step W (Mine L uv) W' (Mine (upd L b r') uv) := by
  have hi0 := h.is b _ hb
  have hne : L b ≠ none := by rw [hb]; simp
  refine ⟨h.turn hg.size (fun x hx hm => hg.block x (h.mine_lt hm) (fun e => hx (by cases e; rfl))) (Nat.lt_of_lt_of_le hi0.1 hg.size) hi hf ?_ ?_, ?_⟩
  · intro e
    rcases hr with ⟨m, hm, _⟩ | ⟨m, _, he⟩ | ⟨m, _, he⟩
    · exact ⟨m, hm⟩
    · exact absurd e he
    · exact absurd e he
  · intro e; exact hne (h.sep b e)
  · rw [mine_upd hne]
    exact ⟨hg.os, hg.tape, hg.output, hg.size, fun x hx hn => ⟨hg.block x hx (fun e => hn (.inl (by cases e; exact hne))), hn⟩⟩
theorem Sim.drew (h : Sim W L fb n nb uv vals) : Sim W.drew L fb n nb uv vals := h.same (Nat.le_refl _) fun _ _ => rfl
theorem Step.drew {W' : World} {X X' : Nat → Prop} (h : Step W X W' X') : Step W X W'.drew X' := ⟨h.os, h.tape, h.output, h.size, h.block⟩
theorem Step.drew0 {W' : World} {X X' : Nat → Prop} (h : Step W.drew X W' X') : Step W X W' X' := ⟨h.os, h.tape, h.output, h.size, h.block⟩
end

section
variable {W : World} {L : Lay} {fb : Nat} {n : Int} {nb : Nat} {uv : Value} {vals : List Value}
set_option maxRecDepth 100000 in
set_option maxHeartbeats 1000000 in
theorem und_links (h : Sim W L fb n nb uv vals) (b : Nat) (hd : Hd) (d : Int) (x1 x2 : Nat) (h1 : L x1 = some (.box 61 (evP b))) (h2 : L x2 = some (.box 3 (.int .i64 d))) (b1 : -2000000 ≤ hd.links) (b2 : hd.links ≤ 2000000)
    (hb : L b = some (.node { hd with links := hd.links + d })) : Runs fb n nb uv vals W L 81 #[evP x1, evP x2] b (.node hd) := by
  have c1 := h.box h1 rfl
  have c2 := h.box h2 rfl
  have hi := (h.is b _ hb).2
  obtain ⟨_, c3, _, _, _, _, _, g⟩ := node_cells hi
  have g3 := g 1
  clear g
  have e1 : hd.links + d - d = hd.links := by omega
  unfold Runs evP at *
  go_enter Tryz.func81, Tryz.ntmps81
  go_region
  go_end0
  obtain ⟨a1, a2⟩ := h.field hb (hd' := hd) (j := 1) (v := .int .i64 hd.links) rfl
  exact ⟨rfl, a1.drew, a2.drew⟩
set_option maxRecDepth 100000 in
set_option maxHeartbeats 1000000 in
theorem und_size (h : Sim W L fb n nb uv vals) (b : Nat) (hd : Hd) (z : Int) (x1 x2 : Nat) (h1 : L x1 = some (.box 3 (.int .i64 hd.size))) (h2 : L x2 = some (.box 61 (evP b)))
    (hb : L b = some (.node { hd with size := z })) : Runs fb n nb uv vals W L 107 #[evP x1, evP x2] b (.node hd) := by
  have c1 := h.box h1 rfl
  have c2 := h.box h2 rfl
  have hi := (h.is b _ hb).2
  obtain ⟨_, _, c3, _, _, _, _, g⟩ := node_cells hi
  have g3 := g 2
  clear g
  unfold Runs evP at *
  go_enter Tryz.func107, Tryz.ntmps107
  go_wp2
  go_end0
  obtain ⟨a1, a2⟩ := h.field hb (hd' := hd) (j := 2) (v := .int .i64 hd.size) rfl
  exact ⟨rfl, a1, a2⟩
set_option maxRecDepth 100000 in
set_option maxHeartbeats 1000000 in
theorem und_grow (h : Sim W L fb n nb uv vals) (b : Nat) (hd : Hd) (x1 : Nat) (h1 : L x1 = some (.box 61 (evP b))) (b1 : 0 ≤ hd.blocks) (b2 : hd.blocks ≤ 2000000)
    (hb : L b = some (.node { hd with blocks := hd.blocks + 1 })) : Runs fb n nb uv vals W L 88 #[evP x1] b (.node hd) := by
  have c1 := h.box h1 rfl
  have hi := (h.is b _ hb).2
  obtain ⟨_, _, _, _, _, c3, _, g⟩ := node_cells hi
  have g3 := g 5
  clear g
  have e1 : hd.blocks + 1 - 1 = hd.blocks := by omega
  unfold Runs evP at *
  go_enter Tryz.func88, Tryz.ntmps88
  go_wp2
  go_end0
  obtain ⟨a1, a2⟩ := h.field hb (hd' := hd) (j := 5) (v := .int .i64 hd.blocks) rfl
  exact ⟨rfl, a1, a2⟩
set_option maxRecDepth 100000 in
set_option maxHeartbeats 1000000 in
theorem und_add (h : Sim W L fb n nb uv vals) (m m' : Al Int Nat) (i : Int) (x1 x2 : Nat) (h1 : L x1 = some (.box 23 (evP fb))) (h2 : L x2 = some (.box 3 (.int .i64 i))) (b1 : 0 ≤ i) (b2 : i ≤ 1000000) (hm : del m' i = m)
    (hb : L nb = some (.nodes m')) : Runs fb n nb uv vals W L 96 #[evP x1, evP x2] nb (.nodes m) := by
  have c1 := h.box h1 rfl
  have c2 := h.box h2 rfl
  obtain ⟨_, _, _, c3, _⟩ := fs_cells h.blk
  have hi : MapAt _ _ _ _ _ _ := (h.is nb _ hb).2
  obtain ⟨w', hrun, hi', hg⟩ := hi.drew.drop kI Tryz.underlying57 (keyI (i := i) (wfI (by omega) (by omega))) 0
  have hf : nb ≠ fb := by rintro e; rw [e, h.fs] at hb; cases hb
  unfold Runs evP at *
  go_enter Tryz.func96, Tryz.ntmps96
  go_region
  go_end0
  obtain ⟨a1, a2⟩ := h.drew.wrote hb hg (r' := .nodes m) (by rw [← hm]; exact hi') (.inl ⟨m, rfl, rfl⟩) hf
  exact ⟨rfl, a1, a2.drew0⟩
set_option maxRecDepth 100000 in
set_option maxHeartbeats 1000000 in
theorem und_drop (h : Sim W L fb n nb uv vals) (m m' : Al Int Nat) (i : Int) (c : Nat) (x1 x2 x3 : Nat) (h1 : L x1 = some (.box 61 (evP c))) (h2 : L x2 = some (.box 23 (evP fb))) (h3 : L x3 = some (.box 3 (.int .i64 i))) (b1 : 0 ≤ i) (b2 : i ≤ 1000000) (hl : m'.length < maxLen)
    (hm : put m' i c = m) (hb : L nb = some (.nodes m')) : Runs fb n nb uv vals W L 82 #[evP x1, evP x2, evP x3] nb (.nodes m) := by
  have c1 := h.box h1 rfl
  have c2 := h.box h2 rfl
  have c3 := h.box h3 rfl
  obtain ⟨_, _, _, c4, _⟩ := fs_cells h.blk
  have hi : MapAt _ _ _ _ _ _ := (h.is nb _ hb).2
  obtain ⟨w', hrun, hi', hg⟩ := hi.drew.update kI Tryz.underlying57 hl (keyI (i := i) (wfI (by omega) (by omega))) (v := c) rfl
  have hf : nb ≠ fb := by rintro e; rw [e, h.fs] at hb; cases hb
  unfold Runs evP at *
  go_enter Tryz.func82, Tryz.ntmps82
  go_region
  go_end0
  obtain ⟨a1, a2⟩ := h.drew.wrote hb hg (r' := .nodes m) (by rw [← hm]; exact hi') (.inl ⟨m, rfl, rfl⟩) hf
  exact ⟨rfl, a1, a2.drew0⟩
set_option maxRecDepth 100000 in
set_option maxHeartbeats 1000000 in
theorem und_put (h : Sim W L fb n nb uv vals) (b d : Nat) (hd : Hd) (m m' : Al Tx Int) (s : Tx) (x1 x2 : Nat) (h1 : L x1 = some (.box 61 (evP d))) (h2 : L x2 = some (.box 9 (.string (mk s)))) (hd1 : L d = some (.node hd)) (hd2 : hd.nm = some b) (hs : s.length ≤ maxLen)
    (hm : del m' s = m) (hb : L b = some (.names m')) : Runs fb n nb uv vals W L 90 #[evP x1, evP x2] b (.names m) := by
  have c1 := h.box h1 rfl
  have c2 := h.box h2 rfl
  obtain ⟨_, _, _, _, c3, _⟩ := node_cells (h.is d _ hd1).2
  rw [hd2] at c3
  have hi : MapAt _ _ _ _ _ _ := (h.is b _ hb).2
  obtain ⟨w', hrun, hi', hg⟩ := hi.drew.drop kT Tryz.underlying63 (keyT hs) 0
  have hf : b ≠ fb := by rintro e; rw [e, h.fs] at hb; cases hb
  have hn : b ≠ nb := by rintro e; obtain ⟨q, hq⟩ := h.nodes; rw [e, hq] at hb; cases hb
  unfold Runs evP at *
  go_enter Tryz.func90, Tryz.ntmps90
  go_region
  go_end0
  obtain ⟨a1, a2⟩ := h.drew.wrote hb hg (r' := .names m) (by rw [← hm]; exact hi') (.inr (.inl ⟨m, rfl, hn⟩)) hf
  exact ⟨rfl, a1, a2.drew0⟩
set_option maxRecDepth 100000 in
set_option maxHeartbeats 1000000 in
theorem und_take (h : Sim W L fb n nb uv vals) (b d : Nat) (hd : Hd) (m m' : Al Tx Int) (s : Tx) (i : Int) (x1 x2 x3 : Nat) (h1 : L x1 = some (.box 3 (.int .i64 i))) (h2 : L x2 = some (.box 61 (evP d))) (h3 : L x3 = some (.box 9 (.string (mk s))))
      (hd1 : L d = some (.node hd)) (hd2 : hd.nm = some b) (hs : s.length ≤ maxLen) (hl : m'.length < maxLen) (hm : Fs.put m' s i = m)
    (hb : L b = some (.names m')) : Runs fb n nb uv vals W L 80 #[evP x1, evP x2, evP x3] b (.names m) := by
  have c1 := h.box h1 rfl
  have c2 := h.box h2 rfl
  have c4 := h.box h3 rfl
  obtain ⟨_, _, _, _, c3, _⟩ := node_cells (h.is d _ hd1).2
  rw [hd2] at c3
  have hi : MapAt _ _ _ _ _ _ := (h.is b _ hb).2
  obtain ⟨w', hrun, hi', hg⟩ := hi.drew.update kT Tryz.underlying63 hl (keyT hs) (val := .int .i64 i) (v := i) rfl
  have hf : b ≠ fb := by rintro e; rw [e, h.fs] at hb; cases hb
  have hn : b ≠ nb := by rintro e; obtain ⟨q, hq⟩ := h.nodes; rw [e, hq] at hb; cases hb
  unfold Runs evP at *
  go_enter Tryz.func80, Tryz.ntmps80
  go_region
  go_end0
  obtain ⟨a1, a2⟩ := h.drew.wrote hb hg (r' := .names m) (by rw [← hm]; exact hi') (.inr (.inl ⟨m, rfl, hn⟩)) hf
  exact ⟨rfl, a1, a2.drew0⟩
set_option maxRecDepth 100000 in
set_option maxHeartbeats 1000000 in
theorem und_replace (h : Sim W L fb n nb uv vals) (b d : Nat) (hd : Hd) (m m' : Al Tx Int) (s : Tx) (i : Int) (x1 x2 x3 : Nat) (h1 : L x1 = some (.box 3 (.int .i64 i))) (h2 : L x2 = some (.box 61 (evP d))) (h3 : L x3 = some (.box 9 (.string (mk s))))
      (hd1 : L d = some (.node hd)) (hd2 : hd.nm = some b) (hs : s.length ≤ maxLen) (hl : m'.length < maxLen) (hm : Fs.put m' s i = m)
    (hb : L b = some (.names m')) : Runs fb n nb uv vals W L 106 #[evP x1, evP x2, evP x3] b (.names m) := by
  have c1 := h.box h1 rfl
  have c2 := h.box h2 rfl
  have c4 := h.box h3 rfl
  obtain ⟨_, _, _, _, c3, _⟩ := node_cells (h.is d _ hd1).2
  rw [hd2] at c3
  have hi : MapAt _ _ _ _ _ _ := (h.is b _ hb).2
  obtain ⟨w', hrun, hi', hg⟩ := hi.drew.update kT Tryz.underlying63 hl (keyT hs) (val := .int .i64 i) (v := i) rfl
  have hf : b ≠ fb := by rintro e; rw [e, h.fs] at hb; cases hb
  have hn : b ≠ nb := by rintro e; obtain ⟨q, hq⟩ := h.nodes; rw [e, hq] at hb; cases hb
  unfold Runs evP at *
  go_enter Tryz.func106, Tryz.ntmps106
  go_region
  go_end0
  obtain ⟨a1, a2⟩ := h.drew.wrote hb hg (r' := .names m) (by rw [← hm]; exact hi') (.inr (.inl ⟨m, rfl, hn⟩)) hf
  exact ⟨rfl, a1, a2.drew0⟩
theorem info_piece : (Tryz.prog.info? 68).map (·.size) = some 512 := by kernel_rfl
theorem evPc_cells (p : Pc) : (evPc p).cells = (p.map fun b => Value.int .u8 b.toNat).toArray := rfl
theorem evPc_size (p : Pc) : (evPc p).cells.size = p.length := by rw [evPc_cells]; simp
/-- A piece's block. -/
theorem Sim.piece (h : Sim W L fb n nb uv vals) {x : Nat} {t : TypeId} {p : Pc} (hx : L x = some (.box t (evPc p))) (hp : p.length = 512) :
    W.rangeAt x 0 (p.map fun b => Value.int .u8 b.toNat) ∧ (Tryz.prog.info? 68).map (·.size) = some (p.map fun b => Value.int .u8 b.toNat).length := by
  have k : Blk W x (evPc p).cells t := (h.is x _ hx).2
  refine ⟨fun j v hv => ?_, by rw [info_piece, List.length_map, hp]⟩
  rw [Nat.zero_add, k.cell, evPc_cells]
  simpa using hv
set_option maxRecDepth 100000 in
set_option maxHeartbeats 1000000 in
theorem und_cut (h : Sim W L fb n nb uv vals) (b d : Nat) (hd : Hd) (m m' : Al Int Pc) (k : Int) (p : Pc) (x1 x2 x3 : Nat) (h1 : L x1 = some (.box 68 (evPc p))) (h2 : L x2 = some (.box 61 (evP d))) (h3 : L x3 = some (.box 3 (.int .i64 k)))
      (hd1 : L d = some (.node hd)) (hd2 : hd.pm = some b) (b1 : 0 ≤ k) (b2 : k ≤ 1000000) (hl : m'.length < maxLen) (hp : p.length = 512) (hm : Fs.put m' k p = m)
    (hb : L b = some (.pieces m')) : Runs fb n nb uv vals W L 101 #[evP x1, evP x2, evP x3] b (.pieces m) := by
  have c1 := h.drew.piece h1 hp
  have c2 := h.box h2 rfl
  have c4 := h.box h3 rfl
  obtain ⟨_, _, _, c3, _⟩ := node_cells (h.is d _ hd1).2
  rw [hd2] at c3
  have hi : MapAt _ _ _ _ _ _ := (h.is b _ hb).2
  obtain ⟨w', hrun, hi', hg⟩ := hi.drew.update kI Tryz.underlying62 hl (keyI (i := k) (wfI (by omega) (by omega))) (v := p) rfl
  have hf : b ≠ fb := by rintro e; rw [e, h.fs] at hb; cases hb
  have hn : b ≠ nb := by rintro e; obtain ⟨q, hq⟩ := h.nodes; rw [e, hq] at hb; cases hb
  obtain ⟨a1, a2⟩ := h.drew.wrote hb hg (r' := .pieces m) (by rw [← hm]; exact hi') (.inr (.inr ⟨m, rfl, hn⟩)) hf
  have hx : ∀ x r, L x = some r → (∀ q, r ≠ .pieces q) → upd L b (.pieces m) x = some r := fun x r hr hq => by
    rw [upd_other _ _ (fun e => by rw [e, hb] at hr; cases hr; exact hq _ rfl)]; exact hr
  have k1 := (a1.piece (hx _ _ h1 (fun q e => by cases e)) hp).1
  have k2 := a1.box (hx _ _ h2 (fun q e => by cases e)) rfl
  have k4 := a1.box (hx _ _ h3 (fun q e => by cases e)) rfl
  obtain ⟨_, _, _, k3, _⟩ := node_cells (a1.is d _ (hx _ _ hd1 (fun q e => by cases e))).2
  rw [hd2] at k3
  rw [show evPc p = .agg (p.map fun b => Value.int .u8 b.toNat).toArray from rfl] at hrun
  generalize (p.map fun b => Value.int .u8 b.toNat) = cs at c1 hrun k1
  obtain ⟨cr, ci⟩ := c1
  have hu := Tryz.underlying68
  unfold Runs evP at *
  go_enter Tryz.func101, Tryz.ntmps101
  go_region_held3 (fun w' => w'.rangeAt x1 0 cs ∧ w'.cell? ⟨x2, 0, none⟩ = some (.pointer (some ⟨d, 0, none⟩)) ∧ w'.cell? ⟨d, 3, none⟩ = some (.map (some b)) ∧ w'.cell? ⟨x3, 0, none⟩ = some (.int .i64 k)) (refine ⟨?_, ?_, ?_, ?_⟩ <;> assumption) (fail)
  go_end0
  exact ⟨rfl, a1, a2.drew0⟩
set_option maxRecDepth 100000 in
set_option maxHeartbeats 1000000 in
theorem und_lay (h : Sim W L fb n nb uv vals) (b d : Nat) (hd : Hd) (m m' : Al Int Pc) (k : Int) (p : Pc) (ok : Bool) (x1 x2 x3 x4 : Nat) (h1 : L x1 = some (.box 68 (evPc p))) (h2 : L x2 = some (.box 61 (evP d))) (h3 : L x3 = some (.box 3 (.int .i64 k)))
      (h4 : L x4 = some (.box 4 (.bool ok))) (hd1 : L d = some (.node hd)) (hd2 : hd.pm = some b) (b1 : 0 ≤ k) (b2 : k ≤ 1000000) (hl : m'.length < maxLen) (hp : p.length = 512) (hm : (if ok then Fs.put m' k p else del (Fs.put m' k p) k) = m)
    (hb : L b = some (.pieces m')) : Runs fb n nb uv vals W L 113 #[evP x1, evP x2, evP x3, evP x4] b (.pieces m) := by
  have c1 := h.drew.piece h1 hp
  have c2 := h.box h2 rfl
  have c4 := h.box h3 rfl
  obtain ⟨_, _, _, c3, _⟩ := node_cells (h.is d _ hd1).2
  rw [hd2] at c3
  have hi : MapAt _ _ _ _ _ _ := (h.is b _ hb).2
  obtain ⟨w', hrun, hi', hg⟩ := hi.drew.update kI Tryz.underlying62 hl (keyI (i := k) (wfI (by omega) (by omega))) (v := p) rfl
  have hf : b ≠ fb := by rintro e; rw [e, h.fs] at hb; cases hb
  have hn : b ≠ nb := by rintro e; obtain ⟨q, hq⟩ := h.nodes; rw [e, hq] at hb; cases hb
  obtain ⟨a1, a2⟩ := h.drew.wrote hb hg (r' := .pieces (put m' k p)) hi' (.inr (.inr ⟨_, rfl, hn⟩)) hf
  have hx : ∀ x r, L x = some r → (∀ q, r ≠ .pieces q) → upd L b (.pieces (put m' k p)) x = some r := fun x r hr hq => by
    rw [upd_other _ _ (fun e => by rw [e, hb] at hr; cases hr; exact hq _ rfl)]; exact hr
  have k1 := (a1.piece (hx _ _ h1 (fun q e => by cases e)) hp).1
  have k2 := a1.box (hx _ _ h2 (fun q e => by cases e)) rfl
  have k4 := a1.box (hx _ _ h3 (fun q e => by cases e)) rfl
  have k5 := a1.box (hx _ _ h4 (fun q e => by cases e)) rfl
  obtain ⟨_, _, _, k3, _⟩ := node_cells (a1.is d _ (hx _ _ hd1 (fun q e => by cases e))).2
  rw [hd2] at k3
  rw [show evPc p = .agg (p.map fun b => Value.int .u8 b.toNat).toArray from rfl] at hrun
  generalize (p.map fun b => Value.int .u8 b.toNat) = cs at c1 hrun k1
  obtain ⟨cr, ci⟩ := c1
  have hu := Tryz.underlying68
  cases ok with
  | true =>
    unfold Runs evP at *
    go_enter Tryz.func113, Tryz.ntmps113
    go_wp2_with fail
    go_region_held3 (fun w' => w'.rangeAt x1 0 cs ∧ w'.cell? ⟨x2, 0, none⟩ = some (.pointer (some ⟨d, 0, none⟩)) ∧ w'.cell? ⟨d, 3, none⟩ = some (.map (some b)) ∧ w'.cell? ⟨x3, 0, none⟩ = some (.int .i64 k)) (refine ⟨?_, ?_, ?_, ?_⟩ <;> assumption) (fail)
    clear cr ci hu k1
    go_wp2
    go_end0
    have hm' : put m' k p = m := by simpa using hm
    subst hm'
    exact ⟨rfl, a1, a2.drew0⟩
  | false =>
    obtain ⟨w2, hrun2, hi2, hg2⟩ := (show MapAt _ _ _ _ _ _ from hi').drew.drop kI Tryz.underlying62 (keyI (i := k) (wfI (by omega) (by omega))) 0
    obtain ⟨z1, z2⟩ := a1.drew.wrote (upd_same _ _ _) hg2 (r' := .pieces m) (by rw [if_neg (by simp)] at hm; rw [← hm]; exact hi2) (.inr (.inr ⟨_, rfl, hn⟩)) hf
    rw [upd_upd] at z1 z2
    unfold Runs evP at *
    go_enter Tryz.func113, Tryz.ntmps113
    go_wp2_with fail
    go_region_held3 (fun w' => w'.rangeAt x1 0 cs ∧ w'.cell? ⟨x2, 0, none⟩ = some (.pointer (some ⟨d, 0, none⟩)) ∧ w'.cell? ⟨d, 3, none⟩ = some (.map (some b)) ∧ w'.cell? ⟨x3, 0, none⟩ = some (.int .i64 k)) (refine ⟨?_, ?_, ?_, ?_⟩ <;> assumption) (fail)
    clear cr ci hu k1
    go_wp2
    go_region
    go_end0
    exact ⟨rfl, z1, a2.drew0.trans z2.drew0⟩
/-- Whatever was noted, it can be run. -/
theorem und_run (h : Sim W L fb n nb uv vals) {v : Value} {b : Nat} {r r' : Ro} (hu : Und fb nb L v b r r') (hb : L b = some r') : ∃ k cp, v = fnV k cp ∧ Enters Tryz.prog k ∧ Runs fb n nb uv vals W L k cp b r := by
  cases hu with
  | links b hd d x1 x2 h1 h2 b1 b2 b3 b4 => exact ⟨_, _, rfl, enters_of Tryz.func81 (by kernel_rfl) rfl, und_links h b hd d x1 x2 h1 h2 b1 b2 hb⟩
  | size b hd z x1 x2 h1 h2 => exact ⟨_, _, rfl, enters_of Tryz.func107 (by kernel_rfl) rfl, und_size h b hd z x1 x2 h1 h2 hb⟩
  | add m m' i x1 x2 h1 h2 b1 b2 hm => exact ⟨_, _, rfl, enters_of Tryz.func96 (by kernel_rfl) rfl, und_add h m m' i x1 x2 h1 h2 b1 b2 hm hb⟩
  | drop m m' i c x1 x2 x3 h1 h2 h3 b1 b2 hl hm => exact ⟨_, _, rfl, enters_of Tryz.func82 (by kernel_rfl) rfl, und_drop h m m' i c x1 x2 x3 h1 h2 h3 b1 b2 hl hm hb⟩
  | grow b hd x1 h1 b1 b2 => exact ⟨_, _, rfl, enters_of Tryz.func88 (by kernel_rfl) rfl, und_grow h b hd x1 h1 b1 b2 hb⟩
  | put b d hd m m' s x1 x2 h1 h2 hd1 hd2 hs hm => exact ⟨_, _, rfl, enters_of Tryz.func90 (by kernel_rfl) rfl, und_put h b d hd m m' s x1 x2 h1 h2 hd1 hd2 hs hm hb⟩
  | take b d hd m m' s i x1 x2 x3 h1 h2 h3 hd1 hd2 hs hl hm => exact ⟨_, _, rfl, enters_of Tryz.func80 (by kernel_rfl) rfl, und_take h b d hd m m' s i x1 x2 x3 h1 h2 h3 hd1 hd2 hs hl hm hb⟩
  | replace b d hd m m' s i x1 x2 x3 h1 h2 h3 hd1 hd2 hs hl hm => exact ⟨_, _, rfl, enters_of Tryz.func106 (by kernel_rfl) rfl, und_replace h b d hd m m' s i x1 x2 x3 h1 h2 h3 hd1 hd2 hs hl hm hb⟩
  | lay b d hd m m' k p ok x1 x2 x3 x4 h1 h2 h3 h4 hd1 hd2 b1 b2 hl hp hm => exact ⟨_, _, rfl, enters_of Tryz.func113 (by kernel_rfl) rfl, und_lay h b d hd m m' k p ok x1 x2 x3 x4 h1 h2 h3 h4 hd1 hd2 b1 b2 hl hp hm hb⟩
  | cut b d hd m m' k p x1 x2 x3 h1 h2 h3 hd1 hd2 b1 b2 hl hp hm => exact ⟨_, _, rfl, enters_of Tryz.func101 (by kernel_rfl) rfl, und_cut h b d hd m m' k p x1 x2 x3 h1 h2 h3 hd1 hd2 b1 b2 hl hp hm hb⟩

/-- What holds of a layout holds of one that says more. -/
def Ex (L L' : Lay) : Prop := ∀ x r, L x = some r → L' x = some r
theorem Ex.refl (L : Lay) : Ex L L := fun _ _ h => h
theorem Ex.trans {L L' L'' : Lay} (h : Ex L L') (k : Ex L' L'') : Ex L L'' := fun x r hx => k x r (h x r hx)
theorem Ex.upd_new {L L' : Lay} (h : Ex L L') {b : Nat} (r : Ro) (hb : L b = none) : Ex L (upd L' b r) := fun x s hx => by
  rw [upd_other _ _ (fun e => by rw [e, hb] at hx; cases hx)]; exact h x s hx
theorem Und.ex {fb nb : Nat} {L L' : Lay} {v : Value} {b : Nat} {r r' : Ro} (hu : Und fb nb L v b r r') (h : Ex L L') : Und fb nb L' v b r r' := by
  cases hu with
  | links b hd d x1 x2 h1 h2 b1 b2 b3 b4 => exact .links b hd d x1 x2 (h _ _ h1) (h _ _ h2) b1 b2 b3 b4
  | size b hd z x1 x2 h1 h2 => exact .size b hd z x1 x2 (h _ _ h1) (h _ _ h2)
  | add m m' i x1 x2 h1 h2 b1 b2 hm => exact .add m m' i x1 x2 (h _ _ h1) (h _ _ h2) b1 b2 hm
  | drop m m' i c x1 x2 x3 h1 h2 h3 b1 b2 hl hm => exact .drop m m' i c x1 x2 x3 (h _ _ h1) (h _ _ h2) (h _ _ h3) b1 b2 hl hm
  | grow b hd x1 h1 b1 b2 => exact .grow b hd x1 (h _ _ h1) b1 b2
  | put b d hd m m' s x1 x2 h1 h2 hd1 hd2 hs hm => exact .put b d hd m m' s x1 x2 (h _ _ h1) (h _ _ h2) (h _ _ hd1) hd2 hs hm
  | take b d hd m m' s i x1 x2 x3 h1 h2 h3 hd1 hd2 hs hl hm => exact .take b d hd m m' s i x1 x2 x3 (h _ _ h1) (h _ _ h2) (h _ _ h3) (h _ _ hd1) hd2 hs hl hm
  | replace b d hd m m' s i x1 x2 x3 h1 h2 h3 hd1 hd2 hs hl hm => exact .replace b d hd m m' s i x1 x2 x3 (h _ _ h1) (h _ _ h2) (h _ _ h3) (h _ _ hd1) hd2 hs hl hm
  | lay b d hd m m' k p ok x1 x2 x3 x4 h1 h2 h3 h4 hd1 hd2 b1 b2 hl hp hm => exact .lay b d hd m m' k p ok x1 x2 x3 x4 (h _ _ h1) (h _ _ h2) (h _ _ h3) (h _ _ h4) (h _ _ hd1) hd2 b1 b2 hl hp hm
  | cut b d hd m m' k p x1 x2 x3 h1 h2 h3 hd1 hd2 b1 b2 hl hp hm => exact .cut b d hd m m' k p x1 x2 x3 (h _ _ h1) (h _ _ h2) (h _ _ h3) (h _ _ hd1) hd2 b1 b2 hl hp hm

/-- What was noted leads back to the layout L0. -/
inductive Chain (fb nb : Nat) (L0 : Lay) : Lay → List Value → Prop
  | nil (L : Lay) (h : Ex L0 L) : Chain fb nb L0 L []
  | snoc (L L1 L2 : Lay) (vals : List Value) (v : Value) (b : Nat) (r r' : Ro) (hc : Chain fb nb L0 L vals) (h1 : Ex L L1) (hb : L1 b = some r) (hu : Und fb nb (upd L1 b r') v b r r') (h2 : Ex (upd L1 b r') L2) : Chain fb nb L0 L2 (vals ++ [v])
theorem Chain.ex {fb nb : Nat} {L0 L L' : Lay} {vals : List Value} (h : Chain fb nb L0 L vals) (k : Ex L L') : Chain fb nb L0 L' vals := by
  cases h with
  | nil L h => exact .nil _ (h.trans k)
  | snoc L L1 L2 vals v b r r' hc h1 hb hu h2 => exact .snoc L L1 _ vals v b r r' hc h1 hb hu (h2.trans k)
/-- The last thing noted, taken back. -/
theorem Chain.back {fb nb : Nat} {L0 L : Lay} {vals : List Value} {v : Value} (h : Chain fb nb L0 L (vals ++ [v])) : ∃ b r r', L b = some r' ∧ Und fb nb L v b r r' ∧ Chain fb nb L0 (upd L b r) vals := by
  generalize hx : vals ++ [v] = xs at h
  cases h with
  | nil L h => simp at hx
  | snoc L L1 L2 vals' v' b r r' hc h1 hb hu h2 =>
    obtain ⟨e1, e2⟩ := List.append_inj' hx rfl
    cases e2
    subst e1
    refine ⟨b, r, r', h2 _ _ (upd_same _ _ _), hu.ex h2, hc.ex fun x s hs => ?_⟩
    by_cases e : x = b
    · subst e
      rw [upd_same, ← hb, h1 _ _ hs]
    · rw [upd_other _ _ e]
      exact h2 _ _ (by rw [upd_other _ _ e]; exact h1 _ _ hs)
end
end Fs
end Go.Proofs.YtlnnbjgfpiefdaaGreat
