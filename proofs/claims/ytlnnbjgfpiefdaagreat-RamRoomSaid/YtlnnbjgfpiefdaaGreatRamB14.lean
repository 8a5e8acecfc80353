/- An inode with a name: fresh, create, mkdir, symlink. -/
import Derived.Test.YtlnnbjgfpiefdaaGreatRamB13
import Derived.Deep.Cut
import Derived.Deep.DeepCutAuto
import Derived.BigRegion
import Derived.Deep.WholeRow
namespace Go.Proofs.YtlnnbjgfpiefdaaGreat
open Go.RowKit Go.Maps Go.Shelf

namespace Fs
/-- What a call that gives a number comes to. -/
def Made (fb : Nat) (n : Int) (nb : Nat) (W : World) (L : Lay) (uv : Value) (r : Tree × Except Int Int) (e : Ending) (W' : World) : Prop :=
  ∃ L', Sim W' L' fb n nb (.slice none 0 0) [] ∧ WF L' nb ∧ stOf L' nb = r.1 ∧ Step W (Mine L uv) W' (Mine L' (.slice none 0 0)) ∧
    match r.2 with
    | .error z => e = .returned (.tuple #[.int .i64 0, .int .i64 z]) ∧ z ≠ 0
    | .ok v => e = .returned (.tuple #[.int .i64 v, .int .i64 0])
section
variable {W : World} {L : Lay} {fb : Nat} {n : Int} {nb : Nat} {uv : Value} {vals : List Value}
theorem Step.unz {W W1 W' : World} {L L' : Lay} {uv uv' : Value} {Z : Nat → Prop} (hb : Below W.heap.size W W1) (h : Step W1 (MineZ L uv Z) W' (MineZ L' uv' Z)) (hz : ∀ x, Z x → W.heap.size ≤ x) : Step W (Mine L uv) W' (Mine L' uv') :=
  ⟨h.os.trans hb.os, h.tape.trans hb.tape, h.output.trans hb.output, Nat.le_trans hb.size h.size, fun k hk hx => by
    have h1 := h.block k (Nat.lt_of_lt_of_le hk hb.size) (fun e => by
      rcases e with e | e
      · exact hx e
      · have := hz k e; omega)
    exact ⟨h1.1.trans (hb.block k hk), fun e => h1.2 (.inl e)⟩⟩
theorem Blk.alloc {W : World} {b : Nat} {xs : Array Value} {t : TypeId} (h : Blk W b xs t) (o : Obj) : Blk (W.alloc o) b xs t := h.same (((Below.refl _ _).alloc (Nat.le_refl _) _).block _ h.lt)
theorem Blk.newAt {W : World} {b : Nat} (xs : Array Value) (t : TypeId) (hb : b = W.heap.size) : Blk (W.alloc (.cells xs t (0, 0))) b xs t := by rw [hb]; exact Blk.new W xs t
set_option maxRecDepth 100000 in
theorem fresh_results {tmps : Array Value} {bi : Nat} {w : World} {v z : Value} (h6 : tmps[6]? = some (.pointer (some ⟨bi, 0, none⟩))) (h7 : tmps[7]? = some z) (hc : w.cell? ⟨bi, 0, none⟩ = some v) : (results Tryz.f37 tmps).run Tryz.prog w = .ok (.tuple #[v, z]) w := by
  simp [results, Tryz.results37, go_sem, h6, h7, hc]
set_option maxRecDepth 100000 in
set_option maxHeartbeats 4000000 in
theorem fresh_st (h : Sim W L fb n nb uv vals) (hw : WF L nb) (hF : Fit (stOf L nb)) (hn1 : 128 ≤ n) (hn2 : n ≤ 16384) (p : Tx) (hp : p.length ≤ 140737488355328) {nd : Nat} {hd : Hd} (hnd : L nd = some (.node hd)) (hnn : ∀ i, ¬ Adr L nb i nd)
    (hto : ∀ s' t v, fresh n (stOf L nb) p (ndOf L hd) = .ok (s', t, v) → TOk s') :
    Calls Tryz.prog 37 #[.pointer (some ⟨fb, 0, none⟩), .string (mk p), .pointer (some ⟨nd, 0, none⟩)] W fun e W' => Made fb n nb W L uv (fin n (stOf L nb) (fresh n (stOf L nb) p (ndOf L hd))) e W' := by
  obtain ⟨W1, hW1⟩ : ∃ x, x = (((W.alloc (.cells #[evP fb] 23)).alloc (.cells #[.string (mk p)] 9)).alloc (.cells #[evP nd] 61)).alloc (.cells #[.int .i64 0] 3) := ⟨_, rfl⟩
  have hb1 : Below W.heap.size W W1 := by rw [hW1]; exact ((((Below.refl _ _).alloc (Nat.le_refl _) _).alloc (by simp) _).alloc (by simp; omega) _).alloc (by simp; omega) _
  have S1 := h.below hb1
  have hs1 : W1.heap.size = W.heap.size + 4 := by rw [hW1]; simp
  have hoff : ∀ x, W.heap.size ≤ x → ¬ Mine L uv x := fun x hx => h.not_mine hx
  have bf1 : Blk W1 W.heap.size #[evP fb] 23 := by rw [hW1]; exact (((Blk.newAt _ _ rfl).alloc _).alloc _).alloc _
  have bp1 : Blk W1 (W.heap.size + 1) #[.string (mk p)] 9 := by rw [hW1]; exact ((Blk.newAt _ _ (by simp)).alloc _).alloc _
  have bx1 : Blk W1 (W.heap.size + 2) #[evP nd] 61 := by rw [hW1]; exact (Blk.newAt _ _ (by simp)).alloc _
  have bi1 : Blk W1 (W.heap.size + 3) #[.int .i64 0] 3 := by rw [hW1]; exact Blk.newAt _ _ (by simp)
  have HC := call_st S1 hw hn1 hn2 66 #[evP W.heap.size, evP (W.heap.size + 1), evP (W.heap.size + 2), evP (W.heap.size + 3)] (enters_of Tryz.func66 (by kernel_rfl) rfl) (· = W.heap.size + 3)
    (fun x hx => ⟨by omega, hoff x (by omega)⟩) (Holds (W.heap.size + 3) 3) (fun v w w' hv hx => Blk.same hv (hx _ rfl)) (fresh n (stOf L nb) p (ndOf L hd)) (fun w Sw Tw hsz => by
      have o : ∀ (x : Nat) (xs : Array Value) (t : TypeId), W.heap.size ≤ x → Blk W1 x xs t → Off w L (.slice none 0 0) x xs t := fun x xs t hx hb => Off.step ⟨hb, hoff x hx⟩ Tw
      exact fresh1_st Sw hw hF hn1 hn2 p hp hnd hnn W.heap.size (W.heap.size + 1) (W.heap.size + 2) (W.heap.size + 3) (o _ _ _ (by omega) bf1) (o _ _ _ (by omega) bp1) (o _ _ _ (by omega) bx1) (o _ _ _ (by omega) bi1) (by omega) (by omega) hto)
  unfold fnV evP Ended at HC
  rw [hW1] at HC
  unfold evP at HC
  have Hall := Lib.hid (And.intro hb1 (And.intro hs1 (And.intro hoff hW1)))
  clear bf1 bp1 bx1 bi1 hto S1 hb1 hs1 hoff hW1
  generalize fin n (stOf L nb) (fresh n (stOf L nb) p (ndOf L hd)) = r at *
  obtain ⟨s', r⟩ := r
  unfold Made
  dsimp only at HC ⊢
  cases r with
  | error z =>
    go_enter Tryz.func37, Tryz.ntmps37
    go_wp2_with (go_at_call 44; refine HC.mono ?_; rintro e w3 ⟨L3, S3, F3, st3, T3, z3, rfl, hzn, v, hv⟩; have hzb := (bne_iff_ne.2 hzn); have g0 := hv.cell 0; have g1 := hv.free 0)
    obtain ⟨hb1, hs1, hoff, hW1⟩ := Hall
    refine bodyPost_ret (v := .tuple #[.int .i64 0, .int .i64 z]) (fresh_results rfl rfl ((hv.set 0 (.int .i64 0)).cell 0)) rfl ⟨L3, S3.same (by simp) (fun b hb => Below.heap_setCell _ _ _ _ (fun e => z3 _ rfl (by rw [← show b = W.heap.size + 3 from e]; exact hb))), F3, st3, ?_, rfl, hzn⟩
    rw [hW1] at hb1
    exact (Step.unz hb1 T3 (fun x hx => by omega)).beside rfl rfl rfl (by simp) (fun k hk => Below.heap_setCell _ _ _ _ (fun e => by have e' : k = W.heap.size + 3 := e; omega))
  | ok v =>
    go_enter Tryz.func37, Tryz.ntmps37
    go_wp2_with (go_at_call 44; refine HC.mono ?_; rintro e w3 ⟨L3, S3, F3, st3, T3, z3, rfl, hv⟩; have g0 := hv.cell 0; have g1 := hv.free 0)
    obtain ⟨hb1, hs1, hoff, hW1⟩ := Hall
    refine bodyPost_ret (v := .tuple #[.int .i64 v, .int .i64 0]) (fresh_results rfl rfl ((hv.set 0 (.int .i64 v)).cell 0)) rfl ⟨L3, S3.same (by simp) (fun b hb => Below.heap_setCell _ _ _ _ (fun e => z3 _ rfl (by rw [← show b = W.heap.size + 3 from e]; exact hb))), F3, st3, ?_, rfl⟩
    rw [hW1] at hb1
    exact (Step.unz hb1 T3 (fun x hx => by omega)).beside rfl rfl rfl (by simp) (fun k hk => Below.heap_setCell _ _ _ _ (fun e => by have e' : k = W.heap.size + 3 := e; omega))
end
end Fs
end Go.Proofs.YtlnnbjgfpiefdaaGreat
/- A file is given a piece: noted. -/
namespace Go.Proofs.YtlnnbjgfpiefdaaGreat
open Go.RowKit Go.Maps Go.Shelf

namespace Fs
section
variable {W : World} {L : Lay} {fb : Nat} {n : Int} {nb : Nat} {uv : Value} {vals : List Value} {L0 : Lay} {s : Tree}
theorem zPc (w : World) : (zeroValue 68).run Tryz.prog w = .ok (evPc zeroPc) w := by kernel_rfl
theorem store_last (Y : World) (t : TypeId) (c : Array Value) (l : List Value) (hi : (Tryz.prog.info? t).map (·.size) = some l.length) (ho : c.size = l.length) (h1 : ∀ v ∈ l, v.oneCell' = true) :
    (storeCells ⟨Y.heap.size, 0, none⟩ l 0).run Tryz.prog (Y.alloc (.cells c t)).drew = .ok () (Y.alloc (.cells l.toArray t)).drew := by
  have := run_storeCells_new (P := Tryz.prog) Y.drew t c l.toArray (by rw [hi]; simp) (by rw [ho]; simp) (by simpa using h1)
  rw [show (Y.alloc (.cells c t)).drew = Y.drew.alloc (.cells c t) from rfl, show (Y.alloc (.cells l.toArray t)).drew = Y.drew.alloc (.cells l.toArray t) from rfl]
  exact this
theorem setRow_below (Y : World) (c l : Array Value) (t : TypeId) (o : Obj) : (((Y.alloc (.cells c t)).alloc o).drew).setRow Y.heap.size l = ((Y.alloc (.cells l t)).alloc o).drew := by
  simp only [World.setRow, World.alloc, World.drew]
  congr 1
  apply Array.ext_getElem?
  intro i
  rw [Array.getElem?_modify]
  by_cases h : Y.heap.size = i
  · subst h
    simp [Array.getElem?_push]
  · have h' : ¬ i = Y.heap.size := fun e => h e.symm
    simp [h, h', Array.getElem?_push]
theorem store_below (Y : World) (t : TypeId) (c : Array Value) (l : List Value) (o : Obj) (ho : c.size = l.length) (h1 : ∀ v ∈ l, v.oneCell' = true) :
    (storeCells ⟨Y.heap.size, 0, none⟩ l 0).run Tryz.prog ((Y.alloc (.cells c t)).alloc o).drew = .ok () ((Y.alloc (.cells l.toArray t)).alloc o).drew := by
  have := run_storeCells_from (P := Tryz.prog) Y.heap.size t l 0 c ((Y.alloc (.cells c t)).alloc o).drew ((Blk.newAt c t rfl).alloc o) (by omega) h1
  rw [List.take_zero, List.nil_append, setRow_below] at this
  exact this
theorem Blk.drew {W : World} {b : Nat} {xs : Array Value} {t : TypeId} (h : Blk W b xs t) : Blk W.drew b xs t := h
theorem del_put_self {κ ν : Type} [DecidableEq κ] [Key κ] {l : Al κ ν} (h : Rising l) (k : κ) (v : ν) : del (put l k v) k = del l k := by
  refine Rising.ext ((h.put k v).del k) (h.del k) fun j => ?_
  rw [get_del', get_del', get_put']
  split <;> rfl
theorem Step.adopt {W W' : World} {L L' : Lay} {uv : Value} (hb : Below W.heap.size W W') (h : ∀ x, x < W.heap.size → L' x = L x) : Step W (Mine L uv) W' (Mine L' uv) :=
  ⟨hb.os, hb.tape, hb.output, hb.size, fun k hk hx => ⟨hb.block k hk, fun e => by
    rcases e with e | e
    · exact hx (.inl (by rw [← h k hk]; exact e))
    · exact hx (.inr e)⟩⟩
set_option maxRecDepth 100000 in
set_option maxHeartbeats 4000000 in
theorem lay_st (h : St W L fb n nb uv vals L0 s) (hlen : vals.length ≤ 100000000000) {i : Int} {b : Nat} (ha : Adr L nb i b) (hk : kindOf s i = 1) (hps : ∀ x, get s i = some x → x.pieces.length ≤ 1000000 ∧ ∀ e ∈ x.pieces, e.2.length = 512) (k : Int) (h1 : 0 ≤ k) (h2 : k ≤ 1000000) (p : Pc) (hp : p.length = 512) :
    Calls Tryz.prog 100 #[.pointer (some ⟨fb, 0, none⟩), .pointer (some ⟨b, 0, none⟩), .int .i64 k, evPc p] W fun e W' => e = .returned (.tuple #[]) ∧ After W L uv fb n nb L0 (vals.length + 1) (Adr L nb) (modN s i fun x => { x with pieces := put x.pieces k p }) W' := by
  obtain ⟨hd, hb, hnd, hgs, _, _⟩ := h.node ha
  have hkd : hd.kind = 1 := by have := hk; unfold kindOf at this; rw [hgs] at this; exact this
  obtain ⟨q, hq⟩ := h.wf.file _ _ hb hkd
  obtain ⟨m, hm0⟩ := h.wf.pm _ _ _ hb hq
  have hpm : (ndOf L hd).pieces = m := by unfold ndOf piecesAt; dsimp only; rw [hq]; dsimp only; rw [hm0]
  have hml : m.length ≤ 1000000 := by rw [← hpm]; exact (hps _ hgs).1
  have hbl := (h.sim.is b _ hb).1
  have hql := (h.sim.is q _ hm0).1
  have hMA : MapAt Tryz.prog 3 evPc W q m := (h.sim.is q _ hm0).2
  obtain ⟨_, _, _, c3, _⟩ := node_cells (h.sim.is b _ hb).2
  rw [hq] at c3
  obtain ⟨was, hwas⟩ : ∃ x, x = (get m k).getD zeroPc := ⟨_, rfl⟩
  obtain ⟨ok, hok⟩ : ∃ x, x = (get m k).isSome := ⟨_, rfl⟩
  have hwl : was.length = 512 := by
    rw [hwas]
    cases hg : get m k with
    | none => rfl
    | some y => exact (hps _ hgs).2 (k, y) (by rw [hpm]; exact get_mem hg)
  obtain ⟨ws, hws⟩ : ∃ x, x = (was.map fun b => Value.int .u8 b.toNat) := ⟨_, rfl⟩
  have hwsl : ws.length = 512 := by rw [hws, List.length_map]; exact hwl
  have hlook : ∀ w', w'.heap[q]? = W.heap[q]? → (Instr.lookup 62 (.map (some q)) (.int .i64 k) true).run Tryz.prog w' = .ok (.tuple #[.agg ws.toArray, .bool ok]) w' := fun w' hw' => by
    have := (hMA.same hw').look_ok kI Tryz.underlying62 (zPc _) (keyI (i := k) (wfI (by omega) (by omega)))
    rw [this, hws, hwas, hok]
    cases get m k <;> rfl
  have hcl : (p.map fun b => Value.int .u8 b.toNat).length = 512 := by rw [List.length_map]; exact hp
  have hone : ∀ v ∈ (p.map fun b => Value.int .u8 b.toNat), v.oneCell' = true := by intro v hv; obtain ⟨x, _, rfl⟩ := List.mem_map.1 hv; rfl
  have hwone : ∀ v ∈ ws, v.oneCell' = true := by rw [hws]; intro v hv; obtain ⟨x, _, rfl⟩ := List.mem_map.1 hv; rfl
  have hzl : ((zeroPc.map fun b => Value.int .u8 b.toNat).toArray).size = 512 := by simp [zeroPc]
  have hz : ∀ w : World, (zeroValue 68).run Tryz.prog w = .ok (.agg (zeroPc.map fun b => Value.int .u8 b.toNat).toArray) w := zPc
  generalize (zeroPc.map fun b => Value.int .u8 b.toNat).toArray = zc at hz hzl
  obtain ⟨cs, hcs⟩ : ∃ x, x = (p.map fun b => Value.int .u8 b.toNat) := ⟨_, rfl⟩
  rw [← hcs] at hcl hone
  rw [show evPc p = .agg cs.toArray by rw [hcs]; rfl]
  obtain ⟨X, hX⟩ : ∃ x, x = ((W.alloc (.cells #[.pointer (some ⟨b, 0, none⟩)] 61)).alloc (.cells #[.int .i64 k] 3)).alloc (.cells cs.toArray 68) := ⟨_, rfl⟩
  have hBX : Below W.heap.size W X := by rw [hX]; exact (((Below.refl _ _).alloc (Nat.le_refl _) _).alloc (by simp) _).alloc (by simp; omega) _
  have hXs : X.heap.size = W.heap.size + 3 := by rw [hX]; simp
  have p0 : Blk X W.heap.size #[.pointer (some ⟨b, 0, none⟩)] 61 := by rw [hX]; exact ((Blk.newAt _ _ rfl).alloc _).alloc _
  have p1 : Blk X (W.heap.size + 1) #[.int .i64 k] 3 := by rw [hX]; exact (Blk.newAt _ _ (by simp)).alloc _
  have p2 : Blk X (W.heap.size + 2) cs.toArray 68 := by rw [hX]; exact Blk.newAt _ _ (by simp)
  have x0 : X.cell? ⟨W.heap.size, 0, none⟩ = some (.pointer (some ⟨b, 0, none⟩)) := p0.cell 0
  have x1 : X.cell? ⟨W.heap.size + 1, 0, none⟩ = some (.int .i64 k) := p1.cell 0
  have x3 : X.cell? ⟨b, 3, none⟩ = some (.map (some q)) := (hBX.cell hbl).trans c3
  have l0 : W.heap.size < X.heap.size := by omega
  have l1 : W.heap.size + 1 < X.heap.size := by omega
  have l3 : b < X.heap.size := by omega
  have hqX : ∀ w' : World, w'.heap[q]? = X.heap[q]? → w'.heap[q]? = W.heap[q]? := fun w' e => e.trans (hBX.block _ hql)
  have lq : q < X.heap.size := by omega
  have Z1 : Obj := .cells zc 68
  have k0 := hlook X.drew (hqX _ rfl)
  have k1 := hlook (X.alloc (.cells zc 68)).drew (hqX _ (((Below.refl _ _).alloc (Nat.le_refl _) _).block _ lq))
  have k2 := hlook (X.alloc (.cells #[.bool false] 4)).drew (hqX _ (((Below.refl _ _).alloc (Nat.le_refl _) _).block _ lq))
  have k3 := hlook ((X.alloc (.cells #[.bool false] 4)).alloc (.cells zc 68)).drew (hqX _ ((((Below.refl _ _).alloc (Nat.le_refl _) _).alloc (by simp) _).block _ lq))
  have k4 := hlook ((X.alloc (.cells zc 68)).alloc (.cells #[.bool false] 4)).drew (hqX _ ((((Below.refl _ _).alloc (Nat.le_refl _) _).alloc (by simp) _).block _ lq))
  have hinfo : (Tryz.prog.info? 68).map (·.size) = some ws.length := by rw [hwsl]; exact info_piece
  have s1 := store_below X 68 zc ws (.cells #[.bool false] 4) (by rw [hzl, hwsl]) hwone
  have s2 := store_last (X.alloc (.cells #[.bool false] 4)) 68 zc ws hinfo (by rw [hzl, hwsl]) hwone
  rw [World.size_alloc] at s2
  have Hall := Lib.hid (And.intro hcs (And.intro hcl (And.intro hone (And.intro hwas (And.intro hok (And.intro hwl (And.intro hws (And.intro hwone (And.intro hlook (And.intro hqX (And.intro hXs (And.intro hBX hinfo))))))))))))
  clear hcs hcl hone hwas hok hwl hws hwone hlook hqX hXs hBX hinfo hMA
  go_enter Tryz.func100, Tryz.ntmps100
  go_upto_region 1 with fail
  rw [← hX]
  clear hX
  go_cut [8, 9] (fun v8 v9 wx => ∃ x8 x9, v8 = .pointer (some ⟨x8, 0, none⟩) ∧ v9 = .pointer (some ⟨x9, 0, none⟩) ∧ Blk wx x8 ws.toArray 68 ∧ Blk wx x9 #[.bool ok] 4 ∧ ((x8 = X.heap.size ∧ x9 = X.heap.size + 1) ∨ (x8 = X.heap.size + 1 ∧ x9 = X.heap.size)) ∧ Below X.heap.size X wx)
  case first =>
    go_region
    all_goals
      go_wp2_with fail
      go_meet
      case rel =>
        first
        | exact ⟨_, _, rfl, rfl, (Blk.newAt _ _ (by simp)).drew, ((Blk.newAt _ _ rfl).alloc _).drew, .inr ⟨rfl, rfl⟩, (((Below.refl _ _).alloc (Nat.le_refl _) _).alloc (by simp) _).drew⟩
        | exact ⟨_, _, rfl, rfl, ((Blk.newAt _ _ rfl).alloc _).drew, (Blk.newAt _ _ (by simp)).drew, .inl ⟨rfl, rfl⟩, (((Below.refl _ _).alloc (Nat.le_refl _) _).alloc (by simp) _).drew⟩
  case rest =>
    obtain ⟨x8, x9, rfl, rfl, b8, b9, hx, hbc⟩ := hcut
    obtain ⟨hcs, hcl, hone, hwas, hok, hwl, hws, hwone, hlook, hqX, hXs, hBX, hinfo⟩ := Hall
    have h8 : W.heap.size + 3 ≤ x8 := by omega
    have h9 : W.heap.size + 3 ≤ x9 := by omega
    have h89 : x8 ≠ x9 := by omega
    have hBc : Below W.heap.size W wc := hBX.trans ⟨hbc.os, hbc.tape, hbc.output, hbc.size, fun x hx => hbc.block x (by omega)⟩
    have S0 := h.sim.below hBc
    have q0 : Blk wc W.heap.size (evP b).cells 61 := p0.same (hbc.block _ (by omega))
    have q1 : Blk wc (W.heap.size + 1) (Value.int .i64 k).cells 3 := p1.same (hbc.block _ (by omega))
    have q2 : Blk wc (W.heap.size + 2) (evPc p).cells 68 := by rw [evPc_cells, ← hcs]; exact p2.same (hbc.block _ (by omega))
    have q8 : Blk wc x8 (evPc was).cells 68 := by rw [evPc_cells, ← hws]; exact b8
    have q9 : Blk wc x9 (Value.bool ok).cells 4 := b9
    have hno : ∀ x, W.heap.size ≤ x → L x = none := fun x hx => h.sim.none_of_ge hx
    have hm : ∀ x, W.heap.size ≤ x → ¬ Mine L uv x := fun x hx => h.sim.not_mine hx
    have mu : ∀ (L' : Lay) (x y : Nat) (r : Ro), ¬ Mine L' uv x → x ≠ y → ¬ Mine (upd L' y r) uv x := fun L' x y r hn hxy e => by
      rcases e with e | e
      · rw [upd_other _ _ hxy] at e; exact hn (.inl e)
      · exact hn (.inr e)
    have S1 := S0.adopt q0 (hm _ (Nat.le_refl _))
    have S2 := S1.adopt q1 (mu _ _ _ _ (hm _ (by omega)) (by omega))
    have S3 := S2.adopt q2 (mu _ _ _ _ (mu _ _ _ _ (hm _ (by omega)) (by omega)) (by omega))
    have S4 := S3.adopt q8 (mu _ _ _ _ (mu _ _ _ _ (mu _ _ _ _ (hm _ (by omega)) (by omega)) (by omega)) (by omega))
    have S5 := S4.adopt q9 (mu _ _ _ _ (mu _ _ _ _ (mu _ _ _ _ (mu _ _ _ _ (hm _ (by omega)) (by omega)) (by omega)) (by omega)) (by omega))
    have hL1 := (Boxed.refl L).box _ _ W.heap.size 61 (evP b) (hno _ (by omega))
    have hL2 := hL1.box _ _ (W.heap.size + 1) 3 (.int .i64 k) (by rw [upd_other _ _ (by omega)]; exact hno _ (by omega))
    have hL3 := hL2.box _ _ (W.heap.size + 2) 68 (evPc p) (by rw [upd_other _ _ (by omega), upd_other _ _ (by omega)]; exact hno _ (by omega))
    have hL4 := hL3.box _ _ x8 68 (evPc was) (by rw [upd_other _ _ (by omega), upd_other _ _ (by omega), upd_other _ _ (by omega)]; exact hno _ (by omega))
    have hL5 := hL4.box _ _ x9 4 (.bool ok) (by rw [upd_other _ _ (by omega), upd_other _ _ (by omega), upd_other _ _ (by omega), upd_other _ _ (by omega)]; exact hno _ (by omega))
    have y0 : upd (upd (upd (upd (upd L W.heap.size (.box 61 (evP b))) (W.heap.size + 1) (.box 3 (.int .i64 k))) (W.heap.size + 2) (.box 68 (evPc p))) x8 (.box 68 (evPc was))) x9 (.box 4 (.bool ok)) W.heap.size = some (.box 61 (evP b)) := by
      rw [upd_other _ _ (by omega), upd_other _ _ (by omega), upd_other _ _ (by omega), upd_other _ _ (by omega), upd_same]
    have y1 : upd (upd (upd (upd (upd L W.heap.size (.box 61 (evP b))) (W.heap.size + 1) (.box 3 (.int .i64 k))) (W.heap.size + 2) (.box 68 (evPc p))) x8 (.box 68 (evPc was))) x9 (.box 4 (.bool ok)) (W.heap.size + 1) = some (.box 3 (.int .i64 k)) := by
      rw [upd_other _ _ (by omega), upd_other _ _ (by omega), upd_other _ _ (by omega), upd_same]
    have y2 : upd (upd (upd (upd (upd L W.heap.size (.box 61 (evP b))) (W.heap.size + 1) (.box 3 (.int .i64 k))) (W.heap.size + 2) (.box 68 (evPc p))) x8 (.box 68 (evPc was))) x9 (.box 4 (.bool ok)) (W.heap.size + 2) = some (.box 68 (evPc p)) := by
      rw [upd_other _ _ (by omega), upd_other _ _ (by omega), upd_same]
    have y8 : upd (upd (upd (upd (upd L W.heap.size (.box 61 (evP b))) (W.heap.size + 1) (.box 3 (.int .i64 k))) (W.heap.size + 2) (.box 68 (evPc p))) x8 (.box 68 (evPc was))) x9 (.box 4 (.bool ok)) x8 = some (.box 68 (evPc was)) := by
      rw [upd_other _ _ h89, upd_same]
    have y9 : upd (upd (upd (upd (upd L W.heap.size (.box 61 (evP b))) (W.heap.size + 1) (.box 3 (.int .i64 k))) (W.heap.size + 2) (.box 68 (evPc p))) x8 (.box 68 (evPc was))) x9 (.box 4 (.bool ok)) x9 = some (.box 4 (.bool ok)) := upd_same _ _ _
    have T5 : Step W (Mine L uv) wc (Mine (upd (upd (upd (upd (upd L W.heap.size (.box 61 (evP b))) (W.heap.size + 1) (.box 3 (.int .i64 k))) (W.heap.size + 2) (.box 68 (evPc p))) x8 (.box 68 (evPc was))) x9 (.box 4 (.bool ok))) uv) := Step.adopt hBc fun x hx => by
      rw [upd_other _ _ (by omega), upd_other _ _ (by omega), upd_other _ _ (by omega), upd_other _ _ (by omega), upd_other _ _ (by omega)]
    generalize upd (upd (upd (upd (upd L W.heap.size (.box 61 (evP b))) (W.heap.size + 1) (.box 3 (.int .i64 k))) (W.heap.size + 2) (.box 68 (evPc p))) x8 (.box 68 (evPc was))) x9 (.box 4 (.bool ok)) = L5 at *
    clear S1 S2 S3 S4 hL1 hL2 hL3 hL4 q0 q1 q2 q8 q9 b8 b9
    have H5 := h.boxed S5 hL5
    have hm5 := hL5.keep hm0
    have hb5 := hL5.keep hb
    have hMA5 : MapAt Tryz.prog 3 evPc wc q m := (S5.is q _ hm5).2
    obtain ⟨w', hrun, hi', hg⟩ := hMA5.drew.update kI Tryz.underlying62 (by unfold maxLen; omega) (keyI (i := k) (wfI (by omega) (by omega))) (v := p) rfl
    have hqf : q ≠ fb := by rintro rfl; rw [S5.fs] at hm5; cases hm5
    have hqn : q ≠ nb := by rintro rfl; obtain ⟨y, e⟩ := S5.nodes; rw [e] at hm5; cases hm5
    obtain ⟨a1, a2⟩ := S5.drew.wrote hm5 hg (r' := .pieces (put m k p)) hi' (.inr (.inr ⟨_, rfl, hqn⟩)) hqf
    have hx : ∀ x r, L5 x = some r → (∀ y, r ≠ .pieces y) → upd L5 q (.pieces (put m k p)) x = some r := fun x r hr hq => by
      rw [upd_other _ _ (fun e => by rw [e, hm5] at hr; cases hr; exact hq _ rfl)]; exact hr
    have g0 := S5.box y0 rfl
    have g1 := S5.box y1 rfl
    have g2 := (S5.piece y2 hp)
    obtain ⟨_, _, _, g3, _⟩ := node_cells (S5.is b _ hb5).2
    rw [hq] at g3
    have k0' := a1.box (hx _ _ y0 (fun y e => by cases e)) rfl
    have k1' := a1.box (hx _ _ y1 (fun y e => by cases e)) rfl
    have k2' := (a1.piece (hx _ _ y2 (fun y e => by cases e)) hp).1
    obtain ⟨_, _, _, k3', _⟩ := node_cells (a1.is b _ (hx _ _ hb5 (fun y e => by cases e))).2
    rw [hq] at k3'
    rw [show evPc p = .agg cs.toArray by rw [hcs]; rfl] at hrun
    rw [← hcs] at g2 k2'
    obtain ⟨cr, ci⟩ := g2
    have hu := Tryz.underlying68
    unfold evP at g0 k0'
    have Hall := Lib.hid (And.intro hcs (And.intro hcl (And.intro hone (And.intro hwas (And.intro hok (And.intro hwl (And.intro hws (And.intro hwone (And.intro hlook (And.intro hqX (And.intro hXs (And.intro hBX hinfo))))))))))))
    have Hx := Lib.hid hx
    clear hcs hcl hone hwas hok hwl hws hwone hlook hqX hXs hBX hinfo hx k0 k1 k2 k3 k4 s1 s2 hz x0 x1 x3 p0 p1 p2
    go_wp2_with fail
    go_region_held3 (fun w' => w'.rangeAt (W.heap.size + 2) 0 cs ∧ w'.cell? ⟨W.heap.size, 0, none⟩ = some (.pointer (some ⟨b, 0, none⟩)) ∧ w'.cell? ⟨b, 3, none⟩ = some (.map (some q)) ∧ w'.cell? ⟨W.heap.size + 1, 0, none⟩ = some (.int .i64 k)) (refine ⟨?_, ?_, ?_, ?_⟩ <;> assumption) (fail)
    clear cr ci hu k2'
    go_wp2_with (go_at_call 79; refine (back_any a1 (by omega) _ _).mono ?_; rintro e w6 ⟨rfl, uv', s6, t6⟩)
    go_end0
    obtain ⟨hcs, hcl, hone, hwas, hok, hwl, hws, hwone, hlook, hqX, hXs, hBX, hinfo⟩ := Hall
    unfold Hid at Hx
    obtain ⟨j1, j2, j3⟩ := H5.wf.pieces hb5 hq hm5 (put m k p)
    have hmR : Rising m := hMA5.2
    have hbq : b ≠ q := fun e => by rw [e, hm5] at hb5; cases hb5
    have ha5 : Adr L5 nb i b := by unfold Adr; rw [(hL5.wf h.wf).2.2]; exact ha
    refine ⟨rfl, _, uv', _, h.note hL5 hm5 s6 (.lay q b hd m _ k was ok x8 W.heap.size (W.heap.size + 1) x9 (Hx _ _ y8 (fun _ e => by cases e)) (Hx _ _ y0 (fun _ e => by cases e)) (Hx _ _ y1 (fun _ e => by cases e)) (Hx _ _ y9 (fun _ e => by cases e)) (by rw [upd_other _ _ hbq]; exact hb5) hq h1 h2 (by rw [length_put']; have := length_del_le m k; unfold maxLen; omega) hwl ?_) j1 ?_, T5.trans (a2.drew0.trans t6), by simp, by simp, ?_, boxes_kept hL5 hm5 (fun _ _ c => by cases c)⟩
    · rw [hok, hwas]
      cases hg : get m k with
      | none => exact (del_put_self (hmR.put _ _) _ _).trans (del_put hmR hg)
      | some y => exact put_put hmR hg
    · rw [← H5.st]
      refine st_of_at H5.wf ha5 (fun x => { x with pieces := put x.pieces k p }) j2 fun x _ => ?_
      rw [j3]
      have e3 : (ndAtB L5 b).pieces = m := by
        rw [ndAtB_of hb5]
        show piecesAt L5 hd.pm = m
        unfold piecesAt; rw [hq]; dsimp only; rw [hm5]
      split
      · rw [e3]
      · rfl
    · intro j c hc
      unfold Adr; rw [j2, (hL5.wf h.wf).2.2]; exact hc
end
end Fs
end Go.Proofs.YtlnnbjgfpiefdaaGreat
/- A file's bytes, piece by piece. No program in sight. -/
namespace Go.Proofs.YtlnnbjgfpiefdaaGreat
namespace Fs
theorem writeGo_nil (l : Al Int Pc) (k off : Nat) : writeGo l k off [] = l := by
  cases k with
  | zero => rfl
  | succ k => unfold writeGo; rw [if_pos rfl]
/-- The piece that is written over. -/
def overPc (p : Pc) (o : Nat) (c : Tx) : Pc := p.take o ++ c ++ p.drop (o + c.length)
theorem writeGo_step (l : Al Int Pc) (k off : Nat) {s : Tx} (hs : s ≠ []) :
    writeGo l (k + 1) off s = writeGo (put l ((off / 512 : Nat) : Int) (overPc ((get l ((off / 512 : Nat) : Int)).getD zeroPc) (off % 512) (s.take (512 - off % 512)))) k (off + (s.take (512 - off % 512)).length) (s.drop (512 - off % 512)) := by
  conv => lhs; unfold writeGo
  rw [if_neg hs]; rfl
theorem writeGo_fuel : ∀ (k k' : Nat) (l : Al Int Pc) (off : Nat) (s : Tx), s.length < k → s.length < k' → writeGo l k off s = writeGo l k' off s
  | 0, _, _, _, _, h, _ => absurd h (Nat.not_lt_zero _)
  | _, 0, _, _, _, _, h => absurd h (Nat.not_lt_zero _)
  | k + 1, k' + 1, l, off, s, h, h' => by
    by_cases hs : s = []
    · rw [hs, writeGo_nil, writeGo_nil]
    · rw [writeGo_step l k off hs, writeGo_step l k' off hs]
      have h0 := List.length_pos_iff.2 hs
      have h1 : off % 512 < 512 := Nat.mod_lt _ (by omega)
      exact writeGo_fuel k k' _ _ _ (by rw [List.length_drop]; omega) (by rw [List.length_drop]; omega)
theorem overPc_length (p : Pc) (o : Nat) (c : Tx) (h : o + c.length ≤ p.length) : (overPc p o c).length = p.length := by
  unfold overPc
  rw [List.length_append, List.length_append, List.length_take, List.length_drop]; omega
theorem zeroPc_length : zeroPc.length = 512 := by unfold zeroPc; rw [List.length_replicate]
/-- All pieces are whole. -/
def Whole (l : Al Int Pc) : Prop := ∀ e ∈ l, e.2.length = 512
theorem Whole.get {l : Al Int Pc} (h : Whole l) (k : Int) : ((Fs.get l k).getD zeroPc).length = 512 := by
  cases hg : Fs.get l k with
  | none => exact zeroPc_length
  | some p => exact h (k, p) (get_mem hg)
theorem Whole.put {l : Al Int Pc} (h : Whole l) (k : Int) {p : Pc} (hp : p.length = 512) : Whole (Fs.put l k p) := fun e he => by
  rcases mem_put.1 he with rfl | ⟨he, _⟩
  · exact hp
  · exact h e he
theorem Whole.over {l : Al Int Pc} (h : Whole l) (off : Nat) (s : Tx) : (overPc ((Fs.get l ((off / 512 : Nat) : Int)).getD zeroPc) (off % 512) (s.take (512 - off % 512))).length = 512 := by
  have h1 : off % 512 < 512 := Nat.mod_lt _ (by omega)
  rw [overPc_length, h.get]
  rw [h.get, List.length_take]; omega
theorem Whole.write : ∀ {k : Nat} {l : Al Int Pc} {off : Nat} {s : Tx}, Whole l → Whole (writeGo l k off s)
  | 0, _, _, _, h => h
  | k + 1, l, off, s, h => by
    by_cases hs : s = []
    · rw [hs, writeGo_nil]; exact h
    · rw [writeGo_step l k off hs]
      exact Whole.write (h.put _ (h.over off s))
theorem writeGo_length : ∀ (k : Nat) (l : Al Int Pc) (off : Nat) (s : Tx), (writeGo l k off s).length ≤ l.length + s.length
  | 0, _, _, _ => by unfold writeGo; omega
  | k + 1, l, off, s => by
    by_cases hs : s = []
    · rw [hs, writeGo_nil]; simp
    · rw [writeGo_step l k off hs]
      have h0 := List.length_pos_iff.2 hs
      have h1 : off % 512 < 512 := Nat.mod_lt _ (by omega)
      refine Nat.le_trans (writeGo_length k _ _ _) ?_
      rw [length_put', List.length_drop]
      have := length_del_le l ((off / 512 : Nat) : Int)
      omega
end Fs
end Go.Proofs.YtlnnbjgfpiefdaaGreat
