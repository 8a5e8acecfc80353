/- What is free. -/
import Derived.Test.YtlnnbjgfpiefdaaGreatRamB23
import Derived.Test.YtlnnbjgfpiefdaaGreatRamB20
namespace Go.Proofs.YtlnnbjgfpiefdaaGreat
open Go.RowKit Go.Maps Go.Shelf

namespace Fs
section
variable {W : World} {L : Lay} {fb : Nat} {n : Int} {nb : Nat} {uv : Value} {vals : List Value}
set_option maxRecDepth 100000 in
theorem room_results {tmps : Array Value} {w : World} {b : Nat} {v0 v1 v2 v3 : Value} {t : TypeId} (h2 : tmps[2]? = some (.pointer (some ⟨b, 0, none⟩))) (hb : Blk w b #[v0, v1, v2, v3] t) :
    (results Tryz.f34 tmps).run Tryz.prog w = .ok (.agg #[v0, v1, v2, v3]) w := by
  have c0 : w.cell? ⟨b, 0, none⟩ = some v0 := hb.cell 0
  have c1 : w.cell? ⟨b, 1, none⟩ = some v1 := hb.cell 1
  have c2 : w.cell? ⟨b, 2, none⟩ = some v2 := hb.cell 2
  have c3 : w.cell? ⟨b, 3, none⟩ = some v3 := hb.cell 3
  simp [results, Tryz.results34, go_sem, h2, c0, c1, c2, c3]
theorem keepRow {w : World} {a r j : Nat} {v : Value} {ys : Array Value} (h : a ≠ r) (hc : w.cell? ⟨a, j, none⟩ = some v) : (w.setRow r ys).cell? ⟨a, j, none⟩ = some v := by
  rw [World.cell?_of_block (setRow_heap w r a ys h)]
  exact hc
theorem info_room : (Tryz.prog.info? 29).map (·.size) = some 4 := by kernel_rfl
/-- What is free. -/
def roomN (n : Int) (s : Tree) : Room := ⟨n - dataAt n - taken s, n - dataAt n, countOf n - 1 - s.length, countOf n - 1⟩
set_option maxRecDepth 100000 in
set_option maxHeartbeats 4000000 in
theorem room_st (h : Sim W L fb n nb uv vals) (hw : WF L nb) (hn1 : 128 ≤ n) (hn2 : n ≤ 16384) (hD : Filed (stOf L nb)) (hlen : (stOf L nb).length ≤ 1000000) (ht1 : 0 ≤ taken (stOf L nb)) (ht2 : taken (stOf L nb) ≤ 1000000000000) :
    Calls Tryz.prog 34 #[.pointer (some ⟨fb, 0, none⟩)] W fun e W' => e = .returned (.agg (roomC (roomN n (stOf L nb)))) ∧ Below W.heap.size W W' := by
  obtain ⟨X, hX⟩ : ∃ x, x = W.alloc (.cells #[.int .i64 0, .int .i64 0, .int .i64 0, .int .i64 0] 29) := ⟨_, rfl⟩
  have hbX : Below W.heap.size W X := by rw [hX]; exact (Below.refl _ _).alloc (Nat.le_refl _) _
  have hp0 : Blk X W.heap.size #[.int .i64 0, .int .i64 0, .int .i64 0, .int .i64 0] 29 := by rw [hX]; exact Blk.new _ _ _
  have SX := h.below hbX
  obtain ⟨v0, v3, v4, v5, _⟩ := fs_cells SX.blk
  have hnl : (nodesOf L nb).length = (stOf L nb).length := by unfold stOf; rw [List.length_map]
  have HLn : ∀ w, Below X.heap.size X w → ∀ ty, (Builtin.len_ #[57] ty #[.map (some nb)]).run Tryz.prog w = .ok (.int .i64 (stOf L nb).length) w := fun w hb ty => by
    have := ((SX.below hb).nodesAt hw).len Tryz.underlying57 ty
    rw [hnl] at this
    exact this
  have HLd := HLn X.drew (Below.refl _ _).drew
  have HT := Lib.hid (fun w (hb : Below X.heap.size X w) => taken_any (SX.below hb) hw (fun i x hx => (hD i x hx).1) hlen)
  have hw1 : IntKind.i64.wrap (n - (98 + (n + 4095) / 4096 + n / 64)) = n - (98 + (n + 4095) / 4096 + n / 64) := IntWalk.i64_in _ (by omega)
  have hw2 : IntKind.i64.wrap (n - (98 + (n + 4095) / 4096 + n / 64) - taken (stOf L nb)) = n - (98 + (n + 4095) / 4096 + n / 64) - taken (stOf L nb) := IntWalk.i64_in _ (by omega)
  have hw3 : IntKind.i64.wrap (n / 64 * 8 - 1) = n / 64 * 8 - 1 := IntWalk.i64_in _ (by omega)
  have hw4 : IntKind.i64.wrap (n / 64 * 8 - 1 - ((stOf L nb).length : Int)) = n / 64 * 8 - 1 - ((stOf L nb).length : Int) := IntWalk.i64_in _ (by omega)
  have lf := SX.blk.lt
  unfold roomC roomN dataAt countOf
  obtain ⟨sl, hsl⟩ : ∃ y, (stOf L nb).length = y := ⟨_, rfl⟩
  rw [hsl] at hnl hw4 HLn HLd ⊢
  clear hsl
  go_enter Tryz.func34, Tryz.ntmps34
  go_wp2_with fail
  rw [← hX]
  clear hX
  go_region
  have d4 : X.drew.cell? ⟨fb, 4, none⟩ = some (.int .i64 (n / 64 * 8)) := v4
  have d5 : X.drew.cell? ⟨fb, 5, none⟩ = some (.map (some nb)) := v5
  have dl : ∀ ty, (Builtin.len_ #[57] ty #[.map (some nb)]).run Tryz.prog X.drew = .ok (.int .i64 sl) X.drew := HLd
  have dl2 : ∀ ty, (Builtin.len_ #[57] ty #[.map (some nb)]).run Tryz.prog X.drew.drew = .ok (.int .i64 sl) X.drew.drew := HLn _ (Below.refl _ _).drew.drew
  have HLh := Lib.hid HLn
  clear HLn
  go_wp2_with fail
  have hrf : fb ≠ W.heap.size := fun e => by have := h.blk.lt; omega
  have hrn : nb ≠ W.heap.size := fun e => by obtain ⟨m, hm⟩ := h.nodes; have := (h.is nb _ hm).1; omega
  have hS4 : ∀ (w : World) (v0 v1 v2 v3 : Value), Below X.heap.size X w → (fun w' : World => w'.cell? ⟨fb, 4, none⟩ = some (.int .i64 (n / 64 * 8)) ∧ w'.cell? ⟨fb, 5, none⟩ = some (.map (some nb)) ∧ (∀ ty, (Builtin.len_ #[57] ty #[.map (some nb)]).run Tryz.prog w' = .ok (.int .i64 sl) w')) ((((w.setCell ⟨W.heap.size, 0, none⟩ v0).setCell ⟨W.heap.size, 1, none⟩ v1).setCell ⟨W.heap.size, 2, none⟩ v2).setCell ⟨W.heap.size, 3, none⟩ v3) := fun w v0 v1 v2 v3 hb => by
    have e : ∀ x, x ≠ W.heap.size → ((((w.setCell ⟨W.heap.size, 0, none⟩ v0).setCell ⟨W.heap.size, 1, none⟩ v1).setCell ⟨W.heap.size, 2, none⟩ v2).setCell ⟨W.heap.size, 3, none⟩ v3).heap[x]? = w.heap[x]? := fun x hx => by
      rw [Below.heap_setCell _ _ _ _ hx, Below.heap_setCell _ _ _ _ hx, Below.heap_setCell _ _ _ _ hx, Below.heap_setCell _ _ _ _ hx]
    refine ⟨?_, ?_, fun ty => ?_⟩
    · rw [World.cell?_of_block (e fb hrf)]; exact (hb.cell (p := ⟨fb, 4, none⟩) lf).trans v4
    · rw [World.cell?_of_block (e fb hrf)]; exact (hb.cell (p := ⟨fb, 5, none⟩) lf).trans v5
    · have hM := (SX.below hb).nodesAt hw
      have := (hM.same (e nb hrn)).len Tryz.underlying57 ty
      rw [hnl] at this
      exact this
  have Hl4 := Lib.hid hS4
  have Hb := Lib.hid (And.intro hbX (And.intro hp0 (And.intro hrf hrn)))
  clear hbX hS4 hrf hrn
  go_region_held3 (fun w' => w'.cell? ⟨fb, 4, none⟩ = some (.int .i64 (n / 64 * 8)) ∧ w'.cell? ⟨fb, 5, none⟩ = some (.map (some nb)) ∧ (∀ ty, (Builtin.len_ #[57] ty #[.map (some nb)]).run Tryz.prog w' = .ok (.int .i64 sl) w')) (first | (refine ⟨?_, ?_, ?_⟩ <;> assumption) | (have hc := Hl4; unfold Hid at hc; exact hc _ _ _ _ _ hb5')) (first | (go_at_call 65; have hc := HT; unfold Hid at hc; refine (hc _ (Below.refl _ _).drew.drew).mono ?_; clear hc; rintro e w5 ⟨rfl, hb5⟩; have hb5' : Below X.heap.size X w5 := ⟨hb5.os, hb5.tape, hb5.output, hb5.size, hb5.block⟩; have j4 := (hb5'.cell (p := ⟨fb, 4, none⟩) lf).trans d4; have j5 := (hb5'.cell (p := ⟨fb, 5, none⟩) lf).trans d5; have jl := HLh w5 hb5'; obtain ⟨hbX, hp0, hrf, hrn⟩ := Hb; have hp5 := hp0.same (hb5'.block _ hp0.lt); have z0 := hp5.cell 0; have z1 := hp5.cell 1; have z2 := hp5.cell 2; have z3 := hp5.cell 3; have f0 := hp5.free 0; have f1 := hp5.free 1; have f2 := hp5.free 2; have f3 := hp5.free 3; have Hb := Lib.hid (And.intro hbX (And.intro hp5 (And.intro hrf hrn))); clear hbX hp0 hrf hrn hp5 hb5 HT dl dl2 HLd d4 d5 v0 v3 v4 v5))
  go_wp2_with fail
  obtain ⟨hbX, hp5, hrf, hrn⟩ := Hb
  exact bodyPost_ret (room_results rfl ((((hp5.set 0 (.int .i64 (n - (98 + (n + 4095) / 4096 + n / 64) - taken (stOf L nb)))).set 1 (.int .i64 (n - (98 + (n + 4095) / 4096 + n / 64)))).set 2 (.int .i64 (n / 64 * 8 - 1 - (sl : Int)))).set 3 (.int .i64 (n / 64 * 8 - 1)))) rfl ⟨rfl, ((((Below.after hbX hb5').setCell (p := ⟨W.heap.size, 0, none⟩) (Nat.le_refl _) _).setCell (p := ⟨W.heap.size, 1, none⟩) (Nat.le_refl _) _).setCell (p := ⟨W.heap.size, 2, none⟩) (Nat.le_refl _) _).setCell (p := ⟨W.heap.size, 3, none⟩) (Nat.le_refl _) _⟩
end
end Fs
end Go.Proofs.YtlnnbjgfpiefdaaGreat
/- Is a number in a row? -/
namespace Go.Proofs.YtlnnbjgfpiefdaaGreat
open Go.RowKit Go.Maps Go.Shelf

namespace Fs
set_option maxRecDepth 100000 in
theorem index_any {W : World} {base : Nat} {v : Value} {l : List Int} (hown : W.ownsRow base 3 1 v l.length (Tk.cs l)) (hne : l ≠ []) (hl : l.length ≤ 1000000) (x : Int) : Calls Tryz.prog 105 #[v, .int .i64 x] W fun e W' => ∃ j : Int, e = .returned (.int .i64 j) ∧ (0 ≤ j ↔ x ∈ l) ∧ W = W' := by
  obtain ⟨g, c, rfl, _, hg, hc1, hc2, hcell, _⟩ := own_at hown (List.length_pos_iff.2 hne)
  have hc : ∀ j (hj : j < l.length), W.cell? ⟨g, j, none⟩ = some (.int .i64 l[j]) := fun j hj => by
    rw [hcell j (by omega), Tk.cs_get l _ (by omega), List.getD_eq_getElem?_getD, List.getElem?_eq_getElem hj]; rfl
  clear hcell
  have Hc := Lib.hid hc
  clear hc
  go_enter Tryz.func105, Tryz.ntmps105
  go_wp2
  go_loopw [8] (fun i wr => ∃ k : Nat, k ≤ l.length ∧ i = .int .i64 (k : Int) ∧ wr = W ∧ ∀ y ∈ l.take k, y ≠ x) (fun i _ => (l.length - intOf i).toNat)
  case atStart => exact ⟨0, by omega, rfl, rfl, by simp⟩
  case round =>
    rename_i i wr
    obtain ⟨k, hk, rfl, rfl, hno⟩ := hrel
    have Hno := Lib.hid hno
    clear hno
    by_cases hlt : k < l.length
    · have hi : (k : Int) < l.length := by omega
      have hck := Hc
      unfold Hid at hck
      have hck' := hck k hlt
      clear hck
      by_cases hx : x = l[k]
      · have hb : (x == l[k]) = true := by rw [beq_iff_eq]; exact hx
        have Hx := Lib.hid hx
        clear hx
        go_wp2
        go_ret
        unfold Hid at Hx
        exact ⟨k, rfl, ⟨fun _ => by rw [Hx]; exact List.getElem_mem _, fun _ => by omega⟩, rfl⟩
      · have hb : (x == l[k]) = false := by rw [beq_eq_false_iff_ne]; exact hx
        have Hx := Lib.hid hx
        clear hx
        go_wp2
        go_roundw
        case rel =>
          unfold Hid at Hx Hno
          refine ⟨k + 1, by omega, by congr 1, by first | rfl | trivial, fun y hy => ?_⟩
          rw [List.take_add_one, List.getElem?_eq_getElem hlt] at hy
          rcases List.mem_append.1 hy with e | e
          · exact Hno y e
          · simp only [Option.toList_some, List.mem_singleton] at e; rw [e]; exact fun c => Hx c.symm
        case measure => simp only [intOf]; omega
    · have hi : ¬ (k : Int) < l.length := by omega
      go_wp2
      go_ret
      unfold Hid at Hno
      refine ⟨-1, rfl, ⟨fun c => by omega, fun c => ?_⟩, rfl⟩
      rw [List.take_of_length_le (by omega)] at Hno
      exact absurd rfl (Hno x c)
set_option maxRecDepth 100000 in
theorem contains_any {W : World} {base : Nat} {v : Value} {l : List Int} (hown : W.ownsRow base 3 1 v l.length (Tk.cs l)) (hne : l ≠ []) (hl : l.length ≤ 1000000) (x : Int) : Calls Tryz.prog 86 #[v, .int .i64 x] W fun e W' => e = .returned (.bool (decide (x ∈ l))) ∧ W = W' := by
  have HI := index_any hown hne hl x
  go_enter Tryz.func86, Tryz.ntmps86
  go_wp2_with (go_at_call 105; refine HI.mono ?_; rintro e w' ⟨j, rfl, hj, rfl⟩)
  go_ret
  exact ⟨rfl, rfl⟩
end Fs
end Go.Proofs.YtlnnbjgfpiefdaaGreat
/- A move under way: what is kept from step to step. -/
namespace Go.Proofs.YtlnnbjgfpiefdaaGreat
open Go.RowKit Go.Maps Go.Shelf

namespace Fs
/-- What a tree keeps for a move. -/
structure Snug (s : Tree) : Prop extends Fit s where
  tight : ∀ i x, get s i = some x → -100000 ≤ x.links ∧ x.links ≤ 100000
  deep : ∀ i, kindOf s i = 2 → Deep s 39 i
/-- The place's block. -/
def plC (ao : Option Addr) (c : Nat) (p : Place) : Array Value := #[.slice ao p.chain.length c, .string (mk p.name), .int .i64 p.inode]
structure Mv (W : World) (L : Lay) (fb : Nat) (n : Int) (nb qa qb : Nat) (a b : Place) (aoa aob : Option Addr) (ca cb : Nat) (w : World) (Lk : Lay) (uv : Value) (vals : List Value) (s : Tree) : Prop where
  now : Now W L (fun _ => False) fb n nb w Lk uv vals s
  pa : Off w Lk uv qa (plC aoa ca a) 99
  pb : Off w Lk uv qb (plC aob cb b) 99
  ra : OffRow w Lk uv 3 (.slice aoa a.chain.length ca) a.chain.length (Tk.cs a.chain)
  rb : OffRow w Lk uv 3 (.slice aob b.chain.length cb) b.chain.length (Tk.cs b.chain)
  adr : ∀ i c, Adr L nb i c → Adr Lk nb i c
section
variable {W : World} {L : Lay} {fb : Nat} {n : Int} {nb qa qb : Nat} {a b : Place} {aoa aob : Option Addr} {ca cb : Nat} {w w' : World} {Lk : Lay} {uv : Value} {vals : List Value} {s : Tree}
theorem Mv.below (h : Mv W L fb n nb qa qb a b aoa aob ca cb w Lk uv vals s) (hb : Below w.heap.size w w') : Mv W L fb n nb qa qb a b aoa aob ca cb w' Lk uv vals s :=
  ⟨h.now.below hb, h.pa.below hb, h.pb.below hb, h.ra.below hb, h.rb.below hb, h.adr⟩
theorem Mv.drew (h : Mv W L fb n nb qa qb a b aoa aob ca cb w Lk uv vals s) : Mv W L fb n nb qa qb a b aoa aob ca cb w.drew Lk uv vals s := h.below (Below.refl _ _).drew
theorem Mv.after (h : Mv W L fb n nb qa qb a b aoa aob ca cb w Lk uv vals s) {k : Nat} {s' : Tree} (ha : After w Lk uv fb n nb L k (Adr Lk nb) s' w') :
    ∃ L' uv' vals', Mv W L fb n nb qa qb a b aoa aob ca cb w' L' uv' vals' s' ∧ vals'.length ≤ k ∧ vals' ≠ [] := by
  obtain ⟨L', uv', vals', N', T', l', ne', adr'⟩ := h.now.after ha
  exact ⟨L', uv', vals', ⟨N', h.pa.step T', h.pb.step T', h.ra.step T', h.rb.step T', fun i c e => adr' i c (h.adr i c e)⟩, l', ne'⟩
theorem Mv.ca0 (h : Mv W L fb n nb qa qb a b aoa aob ca cb w Lk uv vals s) : w.cell? ⟨qa, 0, none⟩ = some (.slice aoa a.chain.length ca) := h.pa.1.cell 0
theorem Mv.ca1 (h : Mv W L fb n nb qa qb a b aoa aob ca cb w Lk uv vals s) : w.cell? ⟨qa, 1, none⟩ = some (.string (Go.Proofs.YtlnnbjgfpiefdaaGreat.mk a.name)) := h.pa.1.cell 1
theorem Mv.ca2 (h : Mv W L fb n nb qa qb a b aoa aob ca cb w Lk uv vals s) : w.cell? ⟨qa, 2, none⟩ = some (.int .i64 a.inode) := h.pa.1.cell 2
theorem Mv.cb0 (h : Mv W L fb n nb qa qb a b aoa aob ca cb w Lk uv vals s) : w.cell? ⟨qb, 0, none⟩ = some (.slice aob b.chain.length cb) := h.pb.1.cell 0
theorem Mv.cb1 (h : Mv W L fb n nb qa qb a b aoa aob ca cb w Lk uv vals s) : w.cell? ⟨qb, 1, none⟩ = some (.string (Go.Proofs.YtlnnbjgfpiefdaaGreat.mk b.name)) := h.pb.1.cell 1
theorem Mv.cb2 (h : Mv W L fb n nb qa qb a b aoa aob ca cb w Lk uv vals s) : w.cell? ⟨qb, 2, none⟩ = some (.int .i64 b.inode) := h.pb.1.cell 2
theorem Mv.dirA (h : Mv W L fb n nb qa qb a b aoa aob ca cb w Lk uv vals s) (hc : a.chain ≠ []) (hl : a.chain.length ≤ 300) :
    Calls Tryz.prog 50 #[.agg #[.slice aoa a.chain.length ca, .string (Go.Proofs.YtlnnbjgfpiefdaaGreat.mk a.name), .int .i64 a.inode]] w fun e w' => e = .returned (.int .i64 a.dir) ∧ Below w.heap.size w w' := by
  obtain ⟨⟨_, ho⟩, _⟩ := h.ra
  exact dir_any ho hc (by omega) _ _
theorem Mv.dirB (h : Mv W L fb n nb qa qb a b aoa aob ca cb w Lk uv vals s) (hc : b.chain ≠ []) (hl : b.chain.length ≤ 300) :
    Calls Tryz.prog 50 #[.agg #[.slice aob b.chain.length cb, .string (Go.Proofs.YtlnnbjgfpiefdaaGreat.mk b.name), .int .i64 b.inode]] w fun e w' => e = .returned (.int .i64 b.dir) ∧ Below w.heap.size w w' := by
  obtain ⟨⟨_, ho⟩, _⟩ := h.rb
  exact dir_any ho hc (by omega) _ _
theorem Mv.atS (h : Mv W L fb n nb qa qb a b aoa aob ca cb w Lk uv vals s) {i : Int} {c : Nat} (ha : Adr L nb i c) (h1 : 0 ≤ i) (h2 : i ≤ 1000000) :
    Calls Tryz.prog 40 #[.pointer (some ⟨fb, 0, none⟩), .int .i64 i] w fun e w' => e = .returned (.pointer (some ⟨c, 0, none⟩)) ∧ w = w' := at_st h.now.st.sim h.now.st.wf (h.adr _ _ ha) h1 h2
theorem Mv.isDir (h : Mv W L fb n nb qa qb a b aoa aob ca cb w Lk uv vals s) {i : Int} {c : Nat} (ha : Adr L nb i c) {k : Bool} (hk : (kindOf s i == 2) = k) :
    Calls Tryz.prog 48 #[.pointer (some ⟨c, 0, none⟩)] w fun e w' => e = .returned (.bool k) ∧ w = w' := by
  obtain ⟨_, _, _, _, k0, _⟩ := h.now.st.node (h.adr _ _ ha)
  rw [← hk]
  exact isDir_any _ k0
/-- Behind the two steps that stand the links of two directories right. -/
theorem Mv.links (h : Mv W L fb n nb qa qb a b aoa aob ca cb w Lk uv vals s) (hlen : vals.length ≤ 1000) {i : Int} {c : Nat} (ha : Adr L nb i c) (d : Int) (h1 : -200000 ≤ linksOf s i) (h2 : linksOf s i ≤ 200000) (h3 : -10 ≤ d) (h4 : d ≤ 10) :
    Calls Tryz.prog 53 #[.pointer (some ⟨fb, 0, none⟩), .pointer (some ⟨c, 0, none⟩), .int .i64 d] w fun e w' => e = .returned (.tuple #[]) ∧ After w Lk uv fb n nb L (vals.length + 1) (Adr Lk nb) (linksN s i d) w' :=
  links_st h.now.st (by omega) (h.adr _ _ ha) d (by omega) (by omega) h3 h4
theorem Now.mine {W2 : World} {L2 : Lay} {uv2 : Value} {vals2 : List Value} {s2 : Tree} (k : Now W L (fun _ => False) fb n nb W2 L2 uv2 vals2 s2) : Step W (Mine L (.slice none 0 0)) W2 (Mine L2 uv2) :=
  ⟨k.step.os, k.step.tape, k.step.output, k.step.size, fun x hx hm => by
    have := k.step.block x hx (fun e => e.elim hm id)
    exact ⟨this.1, fun e => this.2 (.inl e)⟩⟩
theorem Now.rest {W0 W2 : World} {Z : Nat → Prop} {L2 : Lay} {uv2 : Value} {vals2 : List Value} {s0 s2 : Tree} (h : Now W0 L Z fb n nb W L (.slice none 0 0) [] s0) (k : Now W L (fun _ => False) fb n nb W2 L2 uv2 vals2 s2) : Now W0 L Z fb n nb W2 L2 uv2 vals2 s2 := by
  have hst : Step W (Mine L (.slice none 0 0)) W2 (Mine L2 uv2) := ⟨k.step.os, k.step.tape, k.step.output, k.step.size, fun x hx hm => by
    have := k.step.block x hx (fun e => e.elim hm id)
    exact ⟨this.1, fun e => this.2 (.inl e)⟩⟩
  exact ⟨k.st, h.step.trans (hst.z Z), fun x hx => ⟨(h.z x hx).1, (hst.block x (Nat.lt_of_lt_of_le (h.z x hx).1 h.size) (h.z x hx).2).2⟩⟩
end
end Fs
end Go.Proofs.YtlnnbjgfpiefdaaGreat
