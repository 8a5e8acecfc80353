/- A call is carried out; where it is refused, or there is no room, all that it changed is taken back. -/
import Derived.Test.YtlnnbjgfpiefdaaGreatRamB08
import Derived.Recover
import Derived.IntWalk
import Derived.Deep.RegionHeld3
import Derived.Test.YtlnnbjgfpiefdaaGreatRamB02
import Derived.Test.YtlnnbjgfpiefdaaGreatRamB01
import Derived.Shelf.Small.Strs
import Derived.Test.YtlnnbjgfpiefdaaGreatProg
namespace Go.Proofs.YtlnnbjgfpiefdaaGreat
open Go.RowKit Go.Maps Go.Shelf

namespace Fs
/-- What a file system under a call is bounded by. -/
structure TOk (s : Tree) : Prop where
  nd : ∀ i x, get s i = some x → NdOk x
  len : s.length ≤ 1000000
/-- With blocks beside it that the call may write. -/
def MineZ (L : Lay) (uv : Value) (Z : Nat → Prop) (b : Nat) : Prop := Mine L uv b ∨ Z b
/-- What a call's body does. -/
def Body (fb : Nat) (n : Int) (nb : Nat) (L : Lay) (Z : Nat → Prop) (V : Int → World → Prop) (r : Did) (W1 : World) (k : FuncId) (cp : Array Value) : Prop :=
  Calls Tryz.prog k cp W1 fun e W2 => ∃ L2 uv2 vals2 s2, St W2 L2 fb n nb uv2 vals2 L s2 ∧ Step W1 (MineZ L (.slice none 0 0) Z) W2 (MineZ L2 uv2 Z) ∧ vals2.length ≤ 100000000000 ∧ (∀ x, Z x → ¬ Mine L2 uv2 x) ∧
    match r with
    | .error ev => e = .returned (.int .i64 ev) ∧ ev ≠ 0 ∧ ∃ v, V v W2
    | .ok (s', t, v) => e = .returned (.int .i64 0) ∧ s2 = s' ∧ (t = true ↔ vals2 ≠ []) ∧ V v W2 ∧ TOk s'
/-- What the call does then. -/
def Ended (fb : Nat) (n : Int) (nb : Nat) (Z : Nat → Prop) (V : Int → World → Prop) (W : World) (L : Lay) (uv : Value) (s : Tree) (r : Did) (e : Ending) (W' : World) : Prop :=
  ∃ L', Sim W' L' fb n nb (.slice none 0 0) [] ∧ WF L' nb ∧ stOf L' nb = (fin n s r).1 ∧ Step W (MineZ L uv Z) W' (MineZ L' (.slice none 0 0) Z) ∧ (∀ x, Z x → ¬ Mine L' (.slice none 0 0) x) ∧
    match (fin n s r).2 with
    | .error ev => e = .returned (.int .i64 ev) ∧ ev ≠ 0 ∧ ∃ v, V v W'
    | .ok v => e = .returned (.int .i64 0) ∧ V v W'

section
variable {W : World} {L : Lay} {fb : Nat} {n : Int} {nb : Nat} {uv : Value} {vals : List Value}
theorem Step.z {W' : World} {L' : Lay} {uv' : Value} (h : Step W (Mine L uv) W' (Mine L' uv')) (Z : Nat → Prop) : Step W (MineZ L uv Z) W' (MineZ L' uv' Z) :=
  ⟨h.os, h.tape, h.output, h.size, fun k hk hx => ⟨(h.block k hk (fun e => hx (.inl e))).1, fun e => by
    rcases e with e | e
    · exact (h.block k hk (fun e => hx (.inl e))).2 e
    · exact hx (.inr e)⟩⟩
theorem Sim.beside {W' : World} (h : Sim W L fb n nb uv vals) {b : Nat} (hs : W.heap.size ≤ W'.heap.size) (hk : ∀ x, x ≠ b → x < W.heap.size → W'.heap[x]? = W.heap[x]?) (hb : ¬ Mine L uv b) : Sim W' L fb n nb uv vals :=
  h.same hs fun x hx => hk x (fun e => hb (e ▸ hx)) (h.mine_lt hx)
set_option maxRecDepth 100000 in
theorem call_results {tmps : Array Value} {pe : Nat} {w : World} {v : Value} (h4 : tmps[4]? = some (evP pe)) (hc : w.cell? ⟨pe, 0, none⟩ = some v) : (results Tryz.f44 tmps).run Tryz.prog w = .ok v w := by
  unfold evP at h4
  simp [results, Tryz.results44, go_sem, h4, hc]
/-- Nothing turned but what is newer. -/
theorem Step.beside {W W' W'' : World} {X X' : Nat → Prop} (h : Step W X W' X') (ho : W''.os = W'.os) (ht : W''.tape = W'.tape) (hu : W''.output = W'.output) (hs : W'.heap.size ≤ W''.heap.size) (hk : ∀ k, k < W.heap.size → W''.heap[k]? = W'.heap[k]?) : Step W X W'' X' :=
  ⟨ho.trans h.os, ht.trans h.tape, hu.trans h.output, Nat.le_trans h.size hs, fun k hk' hx => ⟨(hk k hk').trans (h.block k hk' hx).1, (h.block k hk' hx).2⟩⟩
/-- The door, where the call is refused. -/
theorem call_door_err {R : Ending → World → Prop} {tmps : Array Value} {pf pe : Nat} {ev : Int} {L0 : Lay} (hev : ev ≠ 0) (h4 : tmps[4]? = some (evP pe)) (h : Sim W L fb n nb uv vals) (hws : WFs L) (hch : Chain fb nb L0 L vals) (hlen : vals.length ≤ 1000000000000) (hpf : Blk W pf #[evP fb] 23) (hpe : Blk W pe #[.int .i64 ev] 39)
    (hx1 : ¬ Mine L uv pf) (hx2 : ¬ Mine L uv pe) (hR : ∀ w L', Sim w L' fb n nb (.slice none 0 0) [] → Step W (Mine L uv) w (Mine L' (.slice none 0 0)) → Ex L0 L' → WFs L' → R (.returned (.int .i64 ev)) w) :
    bodyPostD Tryz.prog Tryz.f44 R Exit.ret { tmps := tmps, defers := [{ target := Target.fn (Fn.func 77) #[evP pf, evP pe], args := #[] }] } W := by
  refine leaves_cons (f := 77) (args := #[evP pf, evP pe]) (by simp) (by simp [go_sem]) ?_
  refine (door_err h hws hch pf pe hpf ev hev hpe hx1 hx2 .returning hlen).mono ?_
  rintro e u' w3 ⟨rfl, rfl, L3, S4, T4, X4, Y4⟩
  exact ⟨_, call_results h4 ((hpe.step T4 hx2).1.cell 0), hR w3 L3 S4 T4 X4 Y4⟩
/-- The door, where it isn't. -/
theorem call_door_ok {R : Ending → World → Prop} {tmps : Array Value} {pf pe : Nat} (h4 : tmps[4]? = some (evP pe)) (h : Sim W L fb n nb uv vals) (hlen : vals.length ≤ 1000000000000) (hpf : Blk W pf #[evP fb] 23) (hpe : Blk W pe #[.int .i64 0] 39)
    (hx2 : ¬ Mine L uv pe) (hR : ∀ w, Sim w L fb n nb (.slice none 0 0) [] → Step W (Mine L uv) w (Mine L (.slice none 0 0)) → R (.returned (.int .i64 0)) w) :
    bodyPostD Tryz.prog Tryz.f44 R Exit.ret { tmps := tmps, defers := [{ target := Target.fn (Fn.func 77) #[evP pf, evP pe], args := #[] }] } W := by
  refine leaves_cons (f := 77) (args := #[evP pf, evP pe]) (by simp) (by simp [go_sem]) ?_
  refine (door_ok h pf pe hpf hpe .returning hlen).mono ?_
  rintro e u' w3 ⟨rfl, rfl, S4, T4⟩
  exact ⟨_, call_results h4 ((hpe.step T4 hx2).1.cell 0), hR w3 S4 T4⟩
set_option maxRecDepth 100000 in
set_option maxHeartbeats 4000000 in
theorem call_st (h : Sim W L fb n nb uv vals) (hw : WF L nb) (hn1 : 128 ≤ n) (hn2 : n ≤ 16384) (kd : FuncId) (cp : Array Value) (hen : Enters Tryz.prog kd) (Z : Nat → Prop) (hZ : ∀ x, Z x → x < W.heap.size ∧ ¬ Mine L uv x) (V : Int → World → Prop)
    (hV : ∀ v W2 W', V v W2 → (∀ x, Z x → W'.heap[x]? = W2.heap[x]?) → V v W') (r : Did)
    (hdo : ∀ W1, Sim W1 L fb n nb (.slice none 0 0) [] → Step W (Mine L uv) W1 (Mine L (.slice none 0 0)) → W.heap.size ≤ W1.heap.size → Body fb n nb L Z V r W1 kd cp) :
    Calls Tryz.prog 44 #[.pointer (some ⟨fb, 0, none⟩), fnV kd cp] W fun e W' => Ended fb n nb Z V W L uv (stOf L nb) r e W' := by
  have hmf : ∀ (fn : Fn) (first cap : Array Value) (w : World), (Instr.makeFunc fn first cap).run Tryz.prog w = .ok (.func fn first cap) w := fun _ _ _ _ => rfl
  obtain ⟨_, _, _, _, c6, g6⟩ := fs_cells h.blk
  have hfl := h.blk.lt
  obtain ⟨f1, u1⟩ := h.forget
  have f2 := f1.alloc (.cells #[.pointer (some ⟨fb, 0, none⟩)] 23)
  have f3 := f2.alloc (.cells #[.int .i64 0] 39)
  have hst0 : Step W (Mine L uv) (((W.setCell ⟨fb, 6, none⟩ (.slice none 0 0)).alloc (.cells #[.pointer (some ⟨fb, 0, none⟩)] 23)).alloc (.cells #[.int .i64 0] 39)) (Mine L (.slice none 0 0)) := by
    refine u1.trans (Step.of_below ?_)
    exact ((Below.refl _ _).alloc (Nat.le_refl _) _).alloc (by simp) _
  obtain ⟨W1, hW1⟩ : ∃ x, x = (((W.setCell ⟨fb, 6, none⟩ (.slice none 0 0)).alloc (.cells #[.pointer (some ⟨fb, 0, none⟩)] 23)).alloc (.cells #[.int .i64 0] 39)) := ⟨_, rfl⟩
  have hbody := hdo W1 (by rw [hW1]; exact f3) (by rw [hW1]; exact hst0) (by rw [hW1]; simp; omega)
  have hen' := hen cp W1
  have hpf1 : Blk W1 W.heap.size #[.pointer (some ⟨fb, 0, none⟩)] 23 := by
    rw [hW1]
    have := Blk.new (W.setCell ⟨fb, 6, none⟩ (.slice none 0 0)) #[.pointer (some ⟨fb, 0, none⟩)] 23
    rw [World.size_setCell] at this
    exact this.same (((Below.refl _ _).alloc (Nat.le_refl _) _).block _ (by simp))
  have hpe1 : Blk W1 (W.heap.size + 1) #[.int .i64 0] 39 := by
    rw [hW1]
    have := Blk.new ((W.setCell ⟨fb, 6, none⟩ (.slice none 0 0)).alloc (.cells #[.pointer (some ⟨fb, 0, none⟩)] 23)) #[.int .i64 0] 39
    rw [World.size_alloc, World.size_setCell] at this
    exact this
  have hsz1 : W1.heap.size = W.heap.size + 2 := by rw [hW1]; simp
  have hst1 : Step W (MineZ L uv Z) W1 (MineZ L (.slice none 0 0) Z) := by rw [hW1]; exact hst0.z Z
  have hLpf : ¬ MineZ L (.slice none 0 0) Z W.heap.size := by
    rintro ((e | e) | e)
    · exact e (h.none_of_ge (Nat.le_refl _))
    · cases e
    · have := (hZ _ e).1; omega
  have hLpe : ¬ MineZ L (.slice none 0 0) Z (W.heap.size + 1) := by
    rintro ((e | e) | e)
    · exact e (h.none_of_ge (by omega))
    · cases e
    · have := (hZ _ e).1; omega
  rw [hW1] at hen'
  unfold Body at hbody
  clear f1 f2 f3 u1 hdo hst0
  cases r with
  | error ev =>
    rw [hW1] at hbody
    go_enter_defers Tryz.func44, Tryz.ntmps44
    go_wp2_with (go_at_fn kd; refine hbody.mono ?_; rintro e W2 ⟨L2, uv2, vals2, s2, S2, T2, n2, hZ2, rfl, hev, vv, hvv⟩; rw [← hW1] at T2; obtain ⟨hpf2, hx1⟩ := hpf1.step T2 hLpf; obtain ⟨hpe2, hx2⟩ := hpe1.step T2 hLpe; have d1 := hpf2.cell 0; have d2 := hpe2.cell 0; have d3 := hpe2.free 0)
    have hev0 : (ev == 0) = false := by rw [beq_eq_false_iff_ne]; exact hev
    go_region
    go_wp2_with fail
    have hk3 : ∀ x, x ≠ W.heap.size + 1 → ((W2.setCell ⟨W.heap.size + 1, 0, none⟩ (.int .i64 ev)).setCell ⟨W.heap.size + 1, 0, none⟩ (.int .i64 ev)).drew.heap[x]? = W2.heap[x]? := fun x hx => (Below.heap_setCell _ _ _ _ hx).trans (Below.heap_setCell _ _ _ _ hx)
    have hpe3 : Blk ((W2.setCell ⟨W.heap.size + 1, 0, none⟩ (.int .i64 ev)).setCell ⟨W.heap.size + 1, 0, none⟩ (.int .i64 ev)).drew (W.heap.size + 1) #[.int .i64 ev] 39 := (hpe2.set 0 (.int .i64 ev)).set 0 (.int .i64 ev)
    have hz3 : W2.heap.size ≤ ((W2.setCell ⟨W.heap.size + 1, 0, none⟩ (.int .i64 ev)).setCell ⟨W.heap.size + 1, 0, none⟩ (.int .i64 ev)).drew.heap.size := by simp
    have ht3 : Step W (MineZ L uv Z) ((W2.setCell ⟨W.heap.size + 1, 0, none⟩ (.int .i64 ev)).setCell ⟨W.heap.size + 1, 0, none⟩ (.int .i64 ev)).drew (MineZ L2 uv2 Z) := (hst1.trans T2).beside rfl rfl rfl hz3 (fun k hk => hk3 k (by omega))
    have S3 := S2.sim.beside hz3 (fun x hx _ => hk3 x hx) (fun e => hx2 (.inl e))
    refine call_door_err hev rfl S3 S2.wf.s S2.ch (by omega) (hpf2.same (hk3 _ (by omega))) hpe3 (fun e => hx1 (.inl e)) (fun e => hx2 (.inl e)) ?_
    intro w3 L3 S4 T4 X4 Y4
    have hwf : WF L3 nb := hw.again X4 Y4
    exact ⟨L3, S4, hwf, hw.ex X4, ht3.trans (T4.z Z), fun x hx => (T4.block x (by have := (hZ x hx).1; have := T2.size; simp; omega) (hZ2 x hx)).2, rfl, hev, vv, hV vv W2 w3 hvv fun x hx => ((T4.block x (by have := (hZ x hx).1; have := T2.size; simp; omega) (hZ2 x hx)).1).trans (hk3 x (by have := (hZ x hx).1; omega))⟩
  | ok q =>
    obtain ⟨s', t, v⟩ := q
    cases t with
    | false =>
      rw [hW1] at hbody
      go_enter_defers Tryz.func44, Tryz.ntmps44
      go_wp2_with (go_at_fn kd; refine hbody.mono ?_; rintro e W2 ⟨L2, uv2, vals2, s2, S2, T2, n2, hZ2, rfl, rfl, ht, hvv, hto⟩; rw [← hW1] at T2; obtain ⟨hpf2, hx1⟩ := hpf1.step T2 hLpf; obtain ⟨hpe2, hx2⟩ := hpe1.step T2 hLpe; have d1 := hpf2.cell 0; have d2 := hpe2.cell 0; have d3 := hpe2.free 0; have hz : vals2 = [] := (by cases vals2 with | nil => rfl | cons a r => exact absurd (ht.2 (by simp)) (by simp)); subst hz; obtain ⟨ao, cap, rfl⟩ := own_shape S2.sim.own; obtain ⟨_, _, _, _, d6, _⟩ := fs_cells S2.sim.blk; have hlf := S2.sim.blk.lt)
      go_region
      go_wp2_with fail
      have hk3 : ∀ x, x ≠ W.heap.size + 1 → ((W2.setCell ⟨W.heap.size + 1, 0, none⟩ (.int .i64 0)).setCell ⟨W.heap.size + 1, 0, none⟩ (.int .i64 0)).drew.heap[x]? = W2.heap[x]? := fun x hx => (Below.heap_setCell _ _ _ _ hx).trans (Below.heap_setCell _ _ _ _ hx)
      have hpe3 : Blk ((W2.setCell ⟨W.heap.size + 1, 0, none⟩ (.int .i64 0)).setCell ⟨W.heap.size + 1, 0, none⟩ (.int .i64 0)).drew (W.heap.size + 1) #[.int .i64 0] 39 := (hpe2.set 0 (.int .i64 0)).set 0 (.int .i64 0)
      have hz3 : W2.heap.size ≤ ((W2.setCell ⟨W.heap.size + 1, 0, none⟩ (.int .i64 0)).setCell ⟨W.heap.size + 1, 0, none⟩ (.int .i64 0)).drew.heap.size := by simp
      have ht3 : Step W (MineZ L uv Z) ((W2.setCell ⟨W.heap.size + 1, 0, none⟩ (.int .i64 0)).setCell ⟨W.heap.size + 1, 0, none⟩ (.int .i64 0)).drew (MineZ L2 (.slice ao ([] : List Value).length cap) Z) := (hst1.trans T2).beside rfl rfl rfl hz3 (fun k hk => hk3 k (by omega))
      have S3 := S2.sim.beside hz3 (fun x hx _ => hk3 x hx) (fun e => hx2 (.inl e))
      refine call_door_ok rfl S3 (by simp) (hpf2.same (hk3 _ (by omega))) hpe3 (fun e => hx2 (.inl e)) ?_
      intro w3 S4 T4
      have hfin : fin n (stOf L nb) (.ok (s2, false, v)) = (s2, .ok v) := by simp [fin]
      unfold Ended
      rw [hfin]
      refine ⟨L2, S4, S2.wf, S2.st, ht3.trans (T4.z Z), fun x hx => (T4.block x (by have := (hZ x hx).1; have := T2.size; simp; omega) (hZ2 x hx)).2, rfl, hV v W2 w3 hvv fun x hx => ?_⟩
      have h1 := hZ x hx
      have h2 : ¬ Mine L2 (.slice ao ([] : List Value).length cap) x := hZ2 x hx
      exact ((T4.block x (by have := T2.size; simp; omega) h2).1).trans (hk3 x (by omega))
    | true =>
      rw [hW1] at hbody
      go_enter_defers Tryz.func44, Tryz.ntmps44
      go_wp2_with (go_at_fn kd; refine hbody.mono ?_; rintro e W2 ⟨L2, uv2, vals2, s2, S2, T2, n2, hZ2, rfl, rfl, ht, hvv, hto⟩; rw [← hW1] at T2; obtain ⟨hpf2, hx1⟩ := hpf1.step T2 hLpf; obtain ⟨hpe2, hx2⟩ := hpe1.step T2 hLpe; have d1 := hpf2.cell 0; have d2 := hpe2.cell 0; have d3 := hpe2.free 0; have hz : 0 < vals2.length := List.length_pos_iff.2 (ht.1 rfl); obtain ⟨ao, cap, hsh⟩ := own_shape S2.sim.own; obtain ⟨y0, y3, _, _, d6, _⟩ := fs_cells S2.sim.blk; rw [hsh] at d6; have hlf := S2.sim.blk.lt)
      obtain ⟨X, hX⟩ : ∃ x, x = W2.setCell ⟨W.heap.size + 1, 0, none⟩ (.int .i64 0) := ⟨_, rfl⟩
      rw [← hX]
      have hkX : ∀ x, x ≠ W.heap.size + 1 → X.heap[x]? = W2.heap[x]? := fun x hx => by rw [hX]; exact Below.heap_setCell _ _ _ _ hx
      have hzX : W2.heap.size ≤ X.heap.size := by rw [hX]; simp
      have SX := S2.sim.beside hzX (fun x hx _ => hkX x hx) (fun e => hx2 (.inl e))
      have hpeX : Blk X (W.heap.size + 1) #[.int .i64 0] 39 := by rw [hX]; exact hpe2.set 0 (.int .i64 0)
      have hpfX : Blk X W.heap.size #[evP fb] 23 := hpf2.same (hkX _ (by omega))
      have hTX : Step W (MineZ L uv Z) X (MineZ L2 uv2 Z) := (hst1.trans T2).beside (by rw [hX]; rfl) (by rw [hX]; rfl) (by rw [hX]; rfl) hzX (fun k hk => hkX k (by omega))
      obtain ⟨v0, v3, _, _, v6, _⟩ := fs_cells SX.blk
      rw [hsh] at v6
      have vf : X.cell? ⟨W.heap.size, 0, none⟩ = some (.pointer (some ⟨fb, 0, none⟩)) := hpfX.cell 0
      have ve : X.cell? ⟨W.heap.size + 1, 0, none⟩ = some (.int .i64 0) := hpeX.cell 0
      have hcall : ∀ w5, Below X.heap.size X w5 → Calls Tryz.prog 65 #[.pointer (some ⟨fb, 0, none⟩)] w5 fun e w6 => e = .returned (.int .i64 (taken s2)) ∧ Below w5.heap.size w5 w6 := fun w5 h5 => by
        have := taken_any (SX.below h5) S2.wf (by rw [S2.st]; exact hto.nd) (by rw [S2.st]; exact hto.len)
        rw [S2.st] at this
        exact this
      have Hall := Lib.hid (And.intro hkX (And.intro hzX (And.intro hZ (And.intro hV (And.intro hW1 hsz1)))))
      have Hc := Lib.hid hcall
      have pl1 := hpfX.lt
      have pl2 := hpeX.lt
      have pl3 := SX.blk.lt
      have hwr : IntKind.i64.wrap (n - (98 + (n + 4095) / 4096 + n / 64)) = n - (98 + (n + 4095) / 4096 + n / 64) := IntWalk.i64_in _ (by omega)
      clear hX d1 d2 d3 y0 y3 d6 hen' hbody hkX hzX hcall hZ hV hW1 hsz1 hmf ht
      go_region_held3 (fun w' => w'.cell? ⟨W.heap.size, 0, none⟩ = some (.pointer (some ⟨fb, 0, none⟩)) ∧ w'.cell? ⟨W.heap.size + 1, 0, none⟩ = some (.int .i64 0) ∧ w'.cell? ⟨fb, 0, none⟩ = some (.int .i64 n) ∧ w'.cell? ⟨fb, 3, none⟩ = some (.int .i64 (98 + (n + 4095) / 4096 + n / 64)) ∧ w'.cell? ⟨fb, 6, none⟩ = some (.slice ao vals2.length cap)) (refine ⟨?_, ?_, ?_, ?_, ?_⟩ <;> assumption) ((go_at_call 65; have hc := Hc; unfold Hid at hc; refine (hc _ (Below.refl _ _).drew).mono ?_; clear hc; rintro e w5 ⟨rfl, hb5⟩; have j1 := (hb5.cell (p := ⟨W.heap.size, 0, none⟩) pl1).trans vf; have j2 := (hb5.cell (p := ⟨W.heap.size + 1, 0, none⟩) pl2).trans ve; have j3 := (hb5.cell (p := ⟨fb, 0, none⟩) pl3).trans v0; have j4 := (hb5.cell (p := ⟨fb, 3, none⟩) pl3).trans v3; have j5 := (hb5.cell (p := ⟨fb, 6, none⟩) pl3).trans v6))
      clear hwr
      obtain ⟨hkX, hzX, hZ, hV, hW1, hsz1⟩ := Hall
      have hb5' : Below X.heap.size X w5 := ⟨hb5.os, hb5.tape, hb5.output, hb5.size, hb5.block⟩
      have S5 := SX.below hb5'
      have hpe5 := hpeX.same (hb5'.block _ pl2)
      have hpf5 := hpfX.same (hb5'.block _ pl1)
      have g5 := hpe5.free 0
      have hT5 : Step W (MineZ L uv Z) w5 (MineZ L2 uv2 Z) := hTX.beside hb5'.os hb5'.tape hb5'.output hb5'.size (fun k hk => hb5'.block k (by omega))
      have Hz := Lib.hid (And.intro hkX (And.intro hzX (And.intro hZ (And.intro hV (And.intro hW1 hsz1)))))
      clear hkX hzX hZ hV hW1 hsz1
      by_cases hsp : n - (98 + (n + 4095) / 4096 + n / 64) < taken s2
      · go_wp2_with fail
        obtain ⟨hkX, hzX, hZ, hV, hW1, hsz1⟩ := Hz
        have hk6 : ∀ x, x ≠ W.heap.size + 1 → ((w5.setCell ⟨W.heap.size + 1, 0, none⟩ (.int .i64 90)).setCell ⟨W.heap.size + 1, 0, none⟩ (.int .i64 90)).heap[x]? = w5.heap[x]? := fun x hx => (Below.heap_setCell _ _ _ _ hx).trans (Below.heap_setCell _ _ _ _ hx)
        have hpe6 : Blk ((w5.setCell ⟨W.heap.size + 1, 0, none⟩ (.int .i64 90)).setCell ⟨W.heap.size + 1, 0, none⟩ (.int .i64 90)) (W.heap.size + 1) #[.int .i64 90] 39 := (hpe5.set 0 (.int .i64 90)).set 0 (.int .i64 90)
        have hz6 : w5.heap.size ≤ ((w5.setCell ⟨W.heap.size + 1, 0, none⟩ (.int .i64 90)).setCell ⟨W.heap.size + 1, 0, none⟩ (.int .i64 90)).heap.size := by simp
        have S6 := S5.beside hz6 (fun x hx _ => hk6 x hx) (fun e => hx2 (.inl e))
        have hT6 : Step W (MineZ L uv Z) ((w5.setCell ⟨W.heap.size + 1, 0, none⟩ (.int .i64 90)).setCell ⟨W.heap.size + 1, 0, none⟩ (.int .i64 90)) (MineZ L2 uv2 Z) := hT5.beside rfl rfl rfl hz6 (fun k hk => hk6 k (by omega))
        refine call_door_err (by decide) rfl S6 S2.wf.s S2.ch (by omega) (hpf5.same (hk6 _ (by omega))) hpe6 (fun e => hx1 (.inl e)) (fun e => hx2 (.inl e)) ?_
        intro w7 L7 S7 T7 X7 Y7
        have hfin : fin n (stOf L nb) (.ok (s2, true, v)) = (stOf L nb, .error 90) := by simp [fin, dataAt, hsp]
        unfold Ended
        rw [hfin]
        refine ⟨L7, S7, hw.again X7 Y7, hw.ex X7, hT6.trans (T7.z Z), fun x hx => (T7.block x (by have := (hZ x hx).1; have := hT6.size; omega) (hZ2 x hx)).2, rfl, by decide, v, hV v W2 w7 hvv fun x hx => ?_⟩
        have h1 := hZ x hx
        exact ((T7.block x (by have := hb5'.size; simp; omega) (hZ2 x hx)).1).trans ((hk6 x (by omega)).trans ((hb5'.block x (by omega)).trans (hkX x (by omega))))
      · go_wp2_with fail
        obtain ⟨hkX, hzX, hZ, hV, hW1, hsz1⟩ := Hz
        have hk6 : ∀ x, x ≠ W.heap.size + 1 → (w5.setCell ⟨W.heap.size + 1, 0, none⟩ (.int .i64 0)).heap[x]? = w5.heap[x]? := fun x hx => Below.heap_setCell _ _ _ _ hx
        have hpe6 : Blk (w5.setCell ⟨W.heap.size + 1, 0, none⟩ (.int .i64 0)) (W.heap.size + 1) #[.int .i64 0] 39 := hpe5.set 0 (.int .i64 0)
        have hz6 : w5.heap.size ≤ (w5.setCell ⟨W.heap.size + 1, 0, none⟩ (.int .i64 0)).heap.size := by simp
        have S6 := S5.beside hz6 (fun x hx _ => hk6 x hx) (fun e => hx2 (.inl e))
        have hT6 : Step W (MineZ L uv Z) (w5.setCell ⟨W.heap.size + 1, 0, none⟩ (.int .i64 0)) (MineZ L2 uv2 Z) := hT5.beside rfl rfl rfl hz6 (fun k hk => hk6 k (by omega))
        refine call_door_ok rfl S6 (by omega) (hpf5.same (hk6 _ (by omega))) hpe6 (fun e => hx2 (.inl e)) ?_
        intro w7 S7 T7
        have hfin : fin n (stOf L nb) (.ok (s2, true, v)) = (s2, .ok v) := by simp [fin, dataAt, hsp]
        unfold Ended
        rw [hfin]
        refine ⟨L2, S7, S2.wf, S2.st, hT6.trans (T7.z Z), fun x hx => (T7.block x (by have := (hZ x hx).1; have := hT6.size; omega) (hZ2 x hx)).2, rfl, hV v W2 w7 hvv fun x hx => ?_⟩
        have h1 := hZ x hx
        exact ((T7.block x (by have := hb5'.size; simp; omega) (hZ2 x hx)).1).trans ((hk6 x (by omega)).trans ((hb5'.block x (by omega)).trans (hkX x (by omega))))
end
end Fs
end Go.Proofs.YtlnnbjgfpiefdaaGreat
/- How deep the deepest name below a directory lies. -/
namespace Go.Proofs.YtlnnbjgfpiefdaaGreat
open Go.RowKit Go.Maps Go.Shelf

namespace Fs
theorem keyOfT_inv (key : Value) (kl : Lit) (h : keyOf Tryz.prog 9 key = some kl) : ∃ x : ByteArray, key = .string x := by
  cases key <;> simp [keyOf, Tryz.underlying9, mapKey] at h
  exact ⟨_, rfl⟩
theorem keyOfT_val (x : ByteArray) (kl : Lit) (h : keyOf Tryz.prog 9 (.string x) = some kl) : kl = Key.lit (bs x) := by
  simp [keyOf, Tryz.underlying9, mapKey] at h
  exact h.2.symm
/-- All names lead to inodes. -/
def Closed (s : Tree) : Prop := ∀ i, ∀ p ∈ namesOf s i, (get s p.2).isSome = true
/-- At most so many levels below. -/
def Deep (s : Tree) : Nat → Int → Prop
  | 0, i => namesOf s i = []
  | k + 1, i => ∀ p ∈ namesOf s i, kindOf s p.2 = 2 → Deep s k p.2
def hval (s : Tree) (k : Nat) (p : Tx × Int) : Int := if ((get s p.2).map (·.kind)) = some 2 then 1 + height s k p.2 else 1
def hmax (s : Tree) (k : Nat) (l : Al Tx Int) : Int := l.foldl (fun h p => max h (hval s k p)) 0
theorem height_succ (s : Tree) (k : Nat) (i : Int) : height s (k + 1) i = hmax s k (namesOf s i) := rfl
theorem hfold_max (s : Tree) (k : Nat) : ∀ (l : Al Tx Int) (a : Int), 0 ≤ a → l.foldl (fun h p => max h (hval s k p)) a = max a (hmax s k l)
  | [], a, h => by simp [hmax]; omega
  | p :: r, a, h => by
    unfold hmax
    rw [List.foldl_cons, List.foldl_cons, hfold_max s k r _ (by omega), hfold_max s k r _ (by omega)]
    unfold hmax
    omega
theorem hmax_cons (s : Tree) (k : Nat) (p : Tx × Int) (l : Al Tx Int) : hmax s k (p :: l) = max (max 0 (hval s k p)) (hmax s k l) := by
  conv => lhs; unfold hmax
  rw [List.foldl_cons, hfold_max s k l _ (by omega)]
theorem hmax_nonneg (s : Tree) (k : Nat) (l : Al Tx Int) : 0 ≤ hmax s k l := by
  cases l with
  | nil => simp [hmax]
  | cons p r => rw [hmax_cons]; omega
theorem hmax_perm (s : Tree) (k : Nat) {l l' : Al Tx Int} (h : l.Perm l') : hmax s k l = hmax s k l' := by
  induction h with
  | nil => rfl
  | cons x _ ih => rw [hmax_cons, hmax_cons, ih]
  | swap x y l => rw [hmax_cons, hmax_cons, hmax_cons, hmax_cons]; omega
  | trans _ _ ih1 ih2 => rw [ih1, ih2]
theorem height_nonneg (s : Tree) (k : Nat) (i : Int) : 0 ≤ height s k i := by
  cases k with
  | zero => simp [height]
  | succ k => rw [height_succ]; exact hmax_nonneg _ _ _
theorem height_le (s : Tree) : ∀ (k : Nat) (i : Int), height s k i ≤ k
  | 0, i => by simp [height]
  | k + 1, i => by
    rw [height_succ]
    have : ∀ l : Al Tx Int, hmax s k l ≤ (k : Int) + 1 := by
      intro l
      induction l with
      | nil => simp [hmax]; omega
      | cons p r ih =>
        rw [hmax_cons]
        have h1 : hval s k p ≤ (k : Int) + 1 := by
          unfold hval
          split
          · have := height_le s k p.2; omega
          · omega
        omega
    have := this (namesOf s i)
    omega
/-- More fuel tells no more. -/
theorem height_deep (s : Tree) : ∀ (k : Nat) (i : Int), Deep s k i → ∀ j, k < j → height s j i = height s (k + 1) i
  | 0, i, h, j, hj => by
    cases j with
    | zero => omega
    | succ j => rw [height_succ, height_succ, show namesOf s i = [] from h]; rfl
  | k + 1, i, h, j, hj => by
    cases j with
    | zero => omega
    | succ j =>
      rw [height_succ, height_succ]
      have : ∀ l : Al Tx Int, (∀ p ∈ l, p ∈ namesOf s i) → hmax s j l = hmax s (k + 1) l := by
        intro l
        induction l with
        | nil => intro _; rfl
        | cons p r ih =>
          intro hl
          rw [hmax_cons, hmax_cons, ih fun q hq => hl q (by simp [hq])]
          have : hval s j p = hval s (k + 1) p := by
            unfold hval
            split
            · rename_i hk
              rw [height_deep s k p.2 (h p (hl p (by simp)) (by unfold kindOf; rw [hk]; rfl)) j (by omega)]
            · rfl
          rw [this]
      exact this _ fun p hp => hp

section
variable {W : World} {L : Lay} {fb : Nat} {n : Int} {nb : Nat} {uv : Value} {vals : List Value}
set_option maxRecDepth 100000 in
theorem isDir_any {b : Nat} {kd : Int} (W : World) (h : W.cell? ⟨b, 0, none⟩ = some (.int .i64 kd)) : Calls Tryz.prog 48 #[.pointer (some ⟨b, 0, none⟩)] W fun e W' => e = .returned (.bool (kd == 2)) ∧ W = W' := by
  go_enter Tryz.func48, Tryz.ntmps48
  go_wp2
  go_ret
  exact ⟨rfl, rfl⟩
set_option maxRecDepth 100000 in
set_option maxHeartbeats 4000000 in
theorem height_step (hw : WF L nb) (hcl : Closed (stOf L nb)) (hids : ∀ i x, get (stOf L nb) i = some x → 0 ≤ i ∧ i ≤ 1000000) (k : Nat) (hk : k ≤ 1000) (i : Int) (W : World) (h : Sim W L fb n nb uv vals) (hki : kindOf (stOf L nb) i = 2)
    (hrec : ∀ p ∈ namesOf (stOf L nb) i, kindOf (stOf L nb) p.2 = 2 → ∀ W', Sim W' L fb n nb uv vals → Calls Tryz.prog 85 #[.pointer (some ⟨fb, 0, none⟩), .int .i64 p.2] W' fun e W2 => e = .returned (.int .i64 (height (stOf L nb) k p.2)) ∧ Below W'.heap.size W' W2) :
    Calls Tryz.prog 85 #[.pointer (some ⟨fb, 0, none⟩), .int .i64 i] W fun e W' => e = .returned (.int .i64 (height (stOf L nb) (k + 1) i)) ∧ Below W.heap.size W W' := by
  have hsome : ∃ x, get (stOf L nb) i = some x := by
    cases e : get (stOf L nb) i with
    | none => unfold kindOf at hki; rw [e] at hki; cases hki
    | some x => exact ⟨x, rfl⟩
  obtain ⟨x, hx⟩ := hsome
  obtain ⟨b, ha, hbx⟩ := Adr.of_st hx
  obtain ⟨hi1, hi2⟩ := hids i x hx
  obtain ⟨hd, q, m, hb, hq, hm, hme, hnd, hkd⟩ := hw.dirAt ha hki
  have hMA : MapAt Tryz.prog 9 evI W q m := (h.is q _ hm).2
  obtain ⟨_, _, _, _, c4, _⟩ := node_cells (h.is b _ hb).2
  rw [hq] at c4
  rw [height_succ, ← hme]
  rw [← hme] at hrec
  have hclm : ∀ p ∈ m, (get (stOf L nb) p.2).isSome = true := by rw [hme]; exact hcl i
  clear hme
  go_enter Tryz.func85, Tryz.ntmps85
  go_wp2_with (first | (go_at_call 40; refine (at_st h hw ha hi1 hi2).mono ?_; rintro e w' ⟨rfl, rfl⟩) | (at_range; refine wpList_range_own _ rfl _ 63 rfl 9 3 kT Tryz.underlying63 rawElem q _ _ rfl hMA.1 ?_; intro w0 hrg0 hg0 hs0))
  go_frame
  go_loopw [5] (fun v wr => ∃ (acc : Int) (left : Lit → Bool) (cnt : Nat), v = .int .i64 acc ∧ wr.ranges Tryz.prog 9 rawElem q W.heap.size m.length (toD evI m) left cnt ∧ max acc (hmax (stOf L nb) k (rem m left)) = hmax (stOf L nb) k m ∧ 0 ≤ acc ∧ acc ≤ 1000000 ∧ Below W.heap.size W wr ∧ W.heap.size + 1 ≤ wr.heap.size) (fun _ wr => wr.rangeLeft q W.heap.size)
  case atStart =>
    have := hmax_nonneg (stOf L nb) k m
    refine ⟨0, _, _, rfl, hrg0, ?_, by omega, by omega, ⟨hg0.os, hg0.tape, hg0.output, hg0.size, fun k hk => hg0.block k hk (by simp)⟩, by omega⟩
    rw [rem_all _ hMA.2]; omega
  case round =>
    obtain ⟨acc, left, cnt, rfl, hrg, hacc, h0, h9, hbw, hsz⟩ := hrel
    go_wp2_with (at_next; refine wpList_next_al _ rfl _ rfl kT Value.string bs keyOfT_inv keyOfT_val q W.heap.size _ m hMA.2 left cnt rfl hrg ?_ ?_)
    · intro hnil
      rw [hnil] at hacc
      have hae : acc = hmax (stOf L nb) k m := by rw [← hacc]; simp [hmax]; omega
      go_wp2
      go_ret
      refine ⟨?_, hbw⟩
      show Ending.returned (.int .i64 acc) = _
      rw [hae]
    · intro nm j w1 left1 cnt1 hmem hrem hrg1 hlt hg1 hs1 hen
      have hpm : (bs nm, j) ∈ m := (List.mem_filter.1 hmem).1
      have hsj := hclm _ hpm
      obtain ⟨y, hy⟩ := Option.isSome_iff_exists.1 hsj
      obtain ⟨c, hac, hcy⟩ := Adr.of_st hy
      obtain ⟨hj1, hj2⟩ := hids j y hy
      have hsp : max acc (max (max 0 (hval (stOf L nb) k (bs nm, j))) (hmax (stOf L nb) k (rem m left1))) = hmax (stOf L nb) k m := by
        rw [← hmax_cons, hrem, ← hmax_perm _ _ (del_perm (hMA.2.rem left) hmem)]; exact hacc
      have hBw1 : Below W.heap.size W w1 := hbw.trans ⟨hg1.os, hg1.tape, hg1.output, by omega, fun k hk => hg1.block k (by omega) (fun e => by cases e; omega)⟩
      have hS1 := h.below hBw1
      have hms : w1.rangeLeft q W.heap.size < wr.rangeLeft q W.heap.size := by rw [hrg1.left_eq, hrg.left_eq]; exact hlt
      have hsw : W.heap.size + 1 ≤ w1.heap.size := by omega
      obtain ⟨hd2, hb2⟩ := hw.at hac
      obtain ⟨k0, _⟩ := node_cells (hS1.is c _ hb2).2
      have hky : kindOf (stOf L nb) j = hd2.kind := by unfold kindOf; rw [hy, ← hcy, ndAtB_of hb2]; rfl
      have hgy : (get (stOf L nb) j).map (·.kind) = some hd2.kind := by rw [hy, ← hcy, ndAtB_of hb2]; rfl
      clear hs1 hrg hlt hacc
      unfold evI at hen
      by_cases hk2 : hd2.kind = 2
      · have hv : hval (stOf L nb) k (bs nm, j) = 1 + height (stOf L nb) k j := by unfold hval; rw [if_pos (by show (get (stOf L nb) j).map _ = _; rw [hgy, hk2])]
        have hh0 := height_nonneg (stOf L nb) k j
        have hh1 := height_le (stOf L nb) k j
        have hrj := hrec _ hpm (by show kindOf (stOf L nb) j = 2; rw [hky]; exact hk2) w1 hS1
        have hb : (hd2.kind == 2) = true := by rw [beq_iff_eq]; exact hk2
        rw [hv] at hsp
        generalize height (stOf L nb) k j = z at *
        clear hk2
        go_wp2_with (first | (go_at_call 40; refine (at_st hS1 hw hac hj1 hj2).mono ?_; rintro e w' ⟨rfl, rfl⟩) | (go_at_call 48; refine (isDir_any _ k0).mono ?_; rintro e w' ⟨rfl, rfl⟩; rw [hb]) | (go_at_call 85; refine hrj.mono ?_; rintro e w2 ⟨rfl, hb2'⟩))
        have hr2 := ranges_below hrg1 hb2'
        refine ⟨⟨_, left1, cnt1, rfl, hr2, ?_, ?_, ?_, ?_, Nat.le_trans hsw hb2'.size⟩, ?_⟩
        · rw [← hsp]; first | omega | (split <;> split <;> omega)
        · first | omega | (split <;> split <;> omega)
        · first | omega | (split <;> split <;> omega)
        · exact hBw1.trans ⟨hb2'.os, hb2'.tape, hb2'.output, hb2'.size, fun k hk => hb2'.block k (by omega)⟩
        · rw [hr2.left_eq, ← hrg1.left_eq]; exact hms
      · have hv : hval (stOf L nb) k (bs nm, j) = 1 := by unfold hval; rw [if_neg (by show ¬ (get (stOf L nb) j).map _ = _; rw [hgy]; intro e; exact hk2 (Option.some.inj e))]
        have hb : (hd2.kind == 2) = false := by rw [beq_eq_false_iff_ne]; exact hk2
        rw [hv] at hsp
        clear hk2
        go_wp2_with (first | (go_at_call 40; refine (at_st hS1 hw hac hj1 hj2).mono ?_; rintro e w' ⟨rfl, rfl⟩) | (go_at_call 48; refine (isDir_any _ k0).mono ?_; rintro e w' ⟨rfl, rfl⟩; rw [hb]))
        refine ⟨⟨_, left1, cnt1, rfl, hrg1, ?_, ?_, ?_, hBw1, hsw⟩, hms⟩
        · rw [← hsp]; (first | omega | (split <;> omega))
        · (first | omega | (split <;> omega))
        · (first | omega | (split <;> omega))
theorem height_any (hw : WF L nb) (hcl : Closed (stOf L nb)) (hids : ∀ i x, get (stOf L nb) i = some x → 0 ≤ i ∧ i ≤ 1000000) : ∀ (k : Nat), k ≤ 1000 → ∀ (i : Int) (W : World), Sim W L fb n nb uv vals → Deep (stOf L nb) k i → kindOf (stOf L nb) i = 2 →
    Calls Tryz.prog 85 #[.pointer (some ⟨fb, 0, none⟩), .int .i64 i] W fun e W' => e = .returned (.int .i64 (height (stOf L nb) (k + 1) i)) ∧ Below W.heap.size W W'
  | 0, _, i, W, h, hd, hki => height_step hw hcl hids 0 (by omega) i W h hki fun p hp => by rw [show namesOf (stOf L nb) i = [] from hd] at hp; cases hp
  | k + 1, hk, i, W, h, hd, hki => height_step hw hcl hids (k + 1) (by omega) i W h hki fun p hp hpk W' h' => height_any hw hcl hids k (by omega) p.2 W' h' (hd p hp hpk) hpk
end
end Fs
end Go.Proofs.YtlnnbjgfpiefdaaGreat
/- Rows of texts that lie anywhere. -/
namespace Go.Proofs.YtlnnbjgfpiefdaaGreat
open Go.RowKit

namespace Fs
theorem own_shape2 {w : World} {base : Nat} {e : TypeId} {v : Value} {n : Nat} {xs : List Value} (h : w.ownsRow base e 1 v n xs) : ∃ ao cap, v = .slice ao n cap ∧ n ≤ cap := by
  rcases h.2 with ⟨h1, h2⟩ | ⟨g, cap, cur, h1, _, _, h3, _⟩
  · exact ⟨none, 0, by rw [h1, h2], by omega⟩
  · exact ⟨some ⟨g, 0, none⟩, cap, h1, h3⟩
/-- Texts that lie in a row, not in block X. -/
def StrsAt (W : World) (v : Value) (l : List Tx) (X : Option Nat) : Prop := ∃ ao c, v = .slice ao l.length c ∧ l.length ≤ c ∧ (l ≠ [] → ∃ g off, ao = some ⟨g, off, none⟩ ∧ g < W.heap.size ∧ X ≠ some g ∧ ∀ j t, l[j]? = some t → W.cell? ⟨g, off + j, none⟩ = some (.string (mk t)))
theorem StrsAt.kept {W W' : World} {v : Value} {l : List Tx} {X Y : Option Nat} (h : StrsAt W v l X) (hs : W.heap.size ≤ W'.heap.size) (hb : ∀ g, g < W.heap.size → X ≠ some g → W'.heap[g]? = W.heap[g]?) (hY : ∀ g, Y = some g → X = some g ∨ W.heap.size ≤ g) : StrsAt W' v l Y := by
  obtain ⟨ao, c, hv, hlc, hl⟩ := h
  refine ⟨ao, c, hv, hlc, fun hne => ?_⟩
  obtain ⟨g, off, ha, hg, hx, hc⟩ := hl hne
  refine ⟨g, off, ha, Nat.lt_of_lt_of_le hg hs, fun e => ?_, fun j t hj => (World.cell?_of_block (hb g hg hx)).trans (hc j t hj)⟩
  rcases hY g e with e | e
  · exact hx e
  · omega
theorem StrsAt.of_own {W : World} {base : Nat} {v : Value} {l : List Tx} {X : Option Nat} (h : W.ownsRow base 9 1 v l.length (strsV l)) (hX : v.ownBlock = none ∨ X ≠ v.ownBlock) : StrsAt W v l X := by
  obtain ⟨ao, c, hv, hlc⟩ := own_shape2 h
  refine ⟨ao, c, hv, hlc, fun hne => ?_⟩
  obtain ⟨g, c', hv', _, hg, _, _, hc, _⟩ := own_at h (List.length_pos_iff.2 hne)
  have hb : v.ownBlock = some g := by rw [hv']; rfl
  rw [hv] at hv'
  cases hv'
  refine ⟨g, 0, rfl, hg, ?_, fun j t hj => ?_⟩
  · rcases hX with e | e
    · rw [hb] at e; cases e
    · rw [← hb]; exact e
  · have hjl : j < l.length := (List.getElem?_eq_some_iff.1 hj).1
    rw [Nat.zero_add, hc j (by omega)]
    exact strsV_at hj
end Fs
end Go.Proofs.YtlnnbjgfpiefdaaGreat
/- The contracts of the library's functions that the walks use, laid at this program (by the kit's own tool; cut to what is used). -/
namespace Go.Proofs
open Go.Shelf
def Tryz.lays137_ren : Go.Shelf.Ren := ⟨fun | 137 => 97 | 217 => 111 | 266 => 125 | n => n, fun | 9 => 9 | 5 => 5 | 3 => 3 | n => n, fun | n => n⟩
theorem Tryz.lays137 : Go.Proofs.Lays.n137 Tryz.prog Tryz.lays137_ren := {
  mixed := by kernel_rfl
  f137 := Tryz.func97.trans (congrArg some (by kernel_rfl))
  f217 := Tryz.func111.trans (congrArg some (by kernel_rfl))
  f266 := Tryz.func125.trans (congrArg some (by kernel_rfl))
  t3 := Tryz.underlying3
  a3 := Tryz.isAgg3
  z3 := Tryz.sizeOf3
  v3 := Tryz.zeroValue3
  t5 := Tryz.underlying5
  a5 := Tryz.isAgg5
  z5 := Tryz.sizeOf5
  v5 := Tryz.zeroValue5
  t9 := Tryz.underlying9
  a9 := Tryz.isAgg9
  z9 := Tryz.sizeOf9
  v9 := Tryz.zeroValue9 }
open Go.RowKit in
theorem Tryz.strings_IndexByte (s : ByteArray) (c : Int) (w : World) :
    Calls Tryz.prog 97 #[.string s, .int .u8 c] w fun e w' => e = .returned (.int .i64 (Lib.indexByte s.data.toList c.toNat.toUInt8)) ∧ w' = w := Any.strings_IndexByte Tryz.lays137 s c w
end Go.Proofs
