/- A directory's block, read. -/
import Derived.Test.YtegplehbcdeeoaaGreatDoorChkB11
import Derived.Test.YtegplehbcdeeoaaGreatDoorChkB10
import Derived.Test.YtegplehbcdeeoaaGreatDoorChkB09
import Derived.Test.YtegplehbcdeeoaaGreatDoorChkB03
namespace Go.Proofs.YtegplehbcdeeoaaGreatDoor
open Go.RowKit

namespace Ck
open Pk Pw
/-- An entry: where, its name, its inode. -/
abbrev Ent := Nat × B × Nat
def cel (l : B) (k : Nat) : B := sub l (32 * k) 32
def slotTo (l : B) (k : Nat) : List Ent := (List.range k).filterMap fun j => if (rdP (cel l j)).1 = 0 then none else some (j, (rdP (cel l j)).2.1, (rdP (cel l j)).1)
def okTo (l : B) (k : Nat) : Bool := (List.range k).all fun j => (rdP (cel l j)).2.2
def slotsP (l : B) : Option (List Ent) := if okTo l 16 then some (slotTo l 16) else none
theorem slotTo_succ (l : B) (k : Nat) : slotTo l (k + 1) = slotTo l k ++ (if (rdP (cel l k)).1 = 0 then [] else [(k, (rdP (cel l k)).2.1, (rdP (cel l k)).1)]) := by
  unfold slotTo
  rw [List.range_succ, List.filterMap_append]
  congr 1
  simp only [List.filterMap_cons, List.filterMap_nil]
  split <;> rename_i h <;> split at h <;> simp_all
theorem okTo_succ (l : B) (k : Nat) : okTo l (k + 1) = (okTo l k && (rdP (cel l k)).2.2) := by
  unfold okTo
  rw [List.range_succ, List.all_append]
  simp
theorem okTo_mono {l : B} {k n : Nat} (h : k ≤ n) (hn : okTo l n = true) : okTo l k = true := by
  unfold okTo at *
  rw [List.all_eq_true] at *
  exact fun x hx => hn x (by simp at *; omega)
theorem slotTo_len (l : B) (k : Nat) : (slotTo l k).length ≤ k := by
  unfold slotTo
  exact Nat.le_trans (List.length_filterMap_le _ _) (by simp)
def entV (x : Ent) : List Value := [.int .i64 x.1, .string (mk x.2.1), .int .i64 x.2.2]
def entsV (l : List Ent) : List Value := l.flatMap entV
theorem entsV_app (l : List Ent) (x : Ent) : entsV (l ++ [x]) = entsV l ++ [.int .i64 x.1, .string (mk x.2.1), .int .i64 x.2.2] := by simp [entsV, entV]
theorem entsV_len (l : List Ent) : (entsV l).length = l.length * 3 := by
  unfold entsV
  induction l with
  | nil => rfl
  | cons x t ih => rw [List.flatMap_cons, List.length_append, ih, List.length_cons]; simp [entV]; omega
theorem info_ent : (Tryz.prog.info? 137).map (fun i => (i.zero, i.size, i.bytes)) = some (some (.agg #[.int .i64 0, .string (mk []), .int .i64 0]), 3, 32) := by kernel_rfl
theorem wpList_slice_ent {w : World} {v0 v1 v2 : Value} {ops : Array Oper} {rest : List Oper} {o : Oper} {a : Act} {Q : Exit → Act → World → Prop} (hg : o.guard = none) (s0 : Nat) (hop : o.op = Op.buildSlice 135 1 #[(0, .tmp s0)]) (h0 : a.eval (.tmp s0) = .agg #[v0, v1, v2])
    (hK : wpList Tryz.prog ops Q rest (a.put o.dst (.slice (some ⟨w.heap.size, 0, none⟩) 1 1)) (w.alloc (.cells #[v0, v1, v2] 137))) : wpList Tryz.prog ops Q (o :: rest) a w := by
  refine wpList_plain hg fun K' hK' => ?_
  unfold Oper.wp
  simp only [execOp, hop, List.map_toArray, List.map_cons, List.map_nil, h0]
  simp [go_sem]
  exact hK' _ _ hK
theorem own_ge3 {w : World} {base : Nat} {e : TypeId} {k : Nat} {v : Value} {n g : Nat} {xs : List Value} (h : w.ownsRow base e k v n xs) (hv : v.ownBlock = some g) : base ≤ g := by
  rcases h.2 with ⟨rfl, _⟩ | ⟨g', cap, cur, rfl, hb, _⟩
  · cases hv
  · cases hv; exact hb
theorem below_grown3 {w wr w2 : World} {base : Nat} {e : TypeId} {k : Nat} {v : Value} {n : Nat} {xs : List Value} (hb : Below base w wr) (hbase : base ≤ w.heap.size) (hown : wr.ownsRow base e k v n xs) (hg : wr.grownBy w2 v.ownBlock) : Below base w w2 :=
  ⟨hg.os.trans hb.os, hg.tape.trans hb.tape, hg.output.trans hb.output, Nat.le_trans hb.size hg.size, fun k hk => (hg.block k (by have := hb.size; omega) (fun e => by have := own_ge3 hown e.symm; omega)).trans (hb.block k hk)⟩
def slotsE (l : B) (w w' : World) (e : Ending) : Prop :=
  match slotsP l with
  | some r => ∃ v, e = .returned (.tuple #[v, .int .i64 0]) ∧ w'.ownsRow w.heap.size 137 3 v r.length (entsV r)
  | none => e = .returned (.tuple #[.slice none 0 0, .int .i64 140])
theorem rdP_lt (l : B) : (rdP l).1 < 4294967296 ∧ (rdP l).2.1.length ≤ 27 := by
  unfold rdP
  dsimp only
  split
  · exact ⟨by dsimp only; omega, by simp⟩
  · split
    · exact ⟨by dsimp only; omega, by simp⟩
    · rename_i h
      refine ⟨?_, ?_⟩
      · have := val_lt (sub l 0 4)
        have h2 : (sub l 0 4).length ≤ 4 := by unfold sub; rw [List.length_take]; omega
        exact Nat.lt_of_lt_of_le this (Nat.le_trans (Nat.pow_le_pow_right (by decide) h2) (by decide))
      · unfold sub; rw [List.length_take]; have := val_lt (sub l 4 1); unfold sub at this h; omega
set_option maxRecDepth 100000 in
set_option maxHeartbeats 2000000 in
theorem slotsRead_any (l : B) (hl : l.length = 512) (g o cap : Nat) (hcap : 512 ≤ cap ∧ cap ≤ 9223372036854775807) (w : World) (hg : g < w.heap.size) (hw : KVars w) (hs : SeenAt w g o l) :
    Calls Tryz.prog 110 #[.slice (some ⟨g, o, none⟩) 512 cap] w fun e w' => Below w.heap.size w w' ∧ slotsE l w w' e := by
  obtain ⟨i0, hi, hz0, hz1, hz2⟩ := info_parts info_ent
  have hS := Lib.hid hs
  have hK := Lib.hid hw
  clear hs hw
  go_enter Tryz.func110, Tryz.ntmps110
  go_wp2_with fail
  go_loopw [4, 12] (fun v iv wr => ∃ i : Nat, iv = .int .i64 i ∧ i ≤ 16 ∧ Hid (okTo l i = true) ∧ wr.ownsRow w.heap.size 137 3 v (slotTo l i).length (entsV (slotTo l i)) ∧ Below w.heap.size w wr) (fun _ iv _ => 16 - (intOf iv).toNat)
  case atStart => exact ⟨0, rfl, Nat.zero_le _, Lib.hid rfl, World.ownsRow_nil _ _ _ _, Below.refl _ _⟩
  case round =>
    obtain ⟨i, rfl, hi16, hok, hown, hB⟩ := hrel
    by_cases c : i < 16
    · have hci : (i : Int) < 16 := by omega
      have HC := cell_any g o cap i c hcap wr
      have HR := read_cell (cel l i) (by unfold cel; exact sub_len (by omega)) g (o + 32 * i) wr (hK.out.below hB) ((hS.out.below hg hB).part _ _)
      have hlt := rdP_lt (cel l i)
      have hsu := Lib.hid (slotTo_succ l i)
      have hou := Lib.hid (okTo_succ l i)
      have hlen := slotTo_len l i
      generalize rdP (cel l i) = r at *
      obtain ⟨ino, nm, ok⟩ := r
      dsimp only at *
      cases ok
      · have hE : slotsP l = none := by
          unfold slotsP
          rw [if_neg]
          intro h
          have := okTo_mono (k := i + 1) (by omega) h
          rw [hou.out] at this
          simp at this
        clear hlt hsu hou hown hok
        go_wp2_with (first | (go_at_call 143; refine HC.mono ?_; clear HC; rintro e w1 ⟨rfl, rfl⟩) | (go_at_call 142; refine HR.mono ?_; clear HR; rintro e w1 ⟨rfl, hb1⟩; have hB1 := Lib.hid (hB.trans (hb1.mono hB.size)); clear hb1))
        go_ret2
        refine ⟨hB1.out, ?_⟩
        unfold slotsE
        rw [hE]
        rfl
      · by_cases c0 : ino = 0
        · subst c0
          have hs1 : slotTo l (i + 1) = slotTo l i := by rw [hsu.out]; simp
          have hok1 := Lib.hid (show okTo l (i + 1) = true by rw [hou.out, hok.out]; rfl)
          clear hlt hsu hou hok
          have hown' := Lib.hid hown
          have hB' := Lib.hid hB
          clear hown hB
          go_wp2_with (first | (go_at_call 143; refine HC.mono ?_; clear HC; rintro e w1 ⟨rfl, rfl⟩) | (go_at_call 142; refine HR.mono ?_; clear HR; rintro e w1 ⟨rfl, hb1⟩; replace hb1 := Lib.hid hb1))
          go_roundw
          case rel => exact ⟨i + 1, rfl, by omega, hok1, by rw [hs1]; exact own_below hown'.out hb1.out, hB'.out.trans (hb1.out.mono hB'.out.size)⟩
          case measure => simp only [intOf]; omega
        · have cz : ¬ (ino : Int) = 0 := by omega
          have hs1 : slotTo l (i + 1) = slotTo l i ++ [(i, nm, ino)] := by rw [hsu.out, if_neg c0]
          have hok1 := Lib.hid (show okTo l (i + 1) = true by rw [hou.out, hok.out]; rfl)
          replace hs1 := Lib.hid hs1
          clear hlt hsu hou hok c0
          generalize hsl : slotTo l i = sl at *
          clear hsl
          have hown' := Lib.hid hown
          have hB' := Lib.hid hB
          clear hown hB
          go_wp2_with (first | (go_at_call 143; refine HC.mono ?_; clear HC; rintro e w1 ⟨rfl, rfl⟩) | (go_at_call 142; refine HR.mono ?_; clear HR; rintro e w1 ⟨rfl, hb1⟩; have hOa := (own_below hown'.out hb1).alloc (.cells #[.int .i64 i, .string (mk nm), .int .i64 ino] 137); have hBe := Lib.hid ((hB'.out.trans (hb1.mono hB'.out.size)).alloc (by have := hB'.out.size; have := hb1.size; omega) (.cells #[.int .i64 i, .string (mk nm), .int .i64 ino] 137)); have hsz2 := Nat.le_trans hB'.out.size hb1.size; clear hb1) | (refine wpList_slice_ent rfl 31 rfl rfl ?_) | (at_builtin; go_must (refine wpList_append_own_at _ rfl (.tmp 27) (.tmp 32) 135 rfl w.heap.size 137 i0 _ 3 32 Tryz.underlying135 hi hz0 hz1 hz2 rfl (by decide) u4 sl.length (entsV sl) rfl hOa ⟨w1.heap.size, 0, none⟩ 1 1 [.int .i64 i, .string (mk nm), .int .i64 ino] rfl rfl (news_new _ _ _) (by simp [Value.oneCell']) (by unfold maxLen; omega) (by omega) (by simp; omega) ?_); intro v2 w2 hown2 hg2 _ hloc))
          go_roundw
          case rel => exact ⟨i + 1, rfl, by omega, hok1, by rw [hs1.out, entsV_app, List.length_append]; exact hown2, below_grown3 hBe.out (Nat.le_refl _) hOa hg2⟩
          case measure => simp only [intOf]; omega
    · obtain rfl : i = 16 := by omega
      have hci : ¬ ((16 : Nat) : Int) < 16 := by omega
      have hE : slotsP l = some (slotTo l 16) := by unfold slotsP; rw [if_pos hok.out]
      have hown' := Lib.hid hown
      have hB' := Lib.hid hB
      clear hown hB hok
      go_wp2_with fail
      go_ret2
      refine ⟨hB'.out, ?_⟩
      unfold slotsE
      rw [hE]
      exact ⟨_, rfl, hown'.out⟩
end Ck
end Go.Proofs.YtegplehbcdeeoaaGreatDoor
/- The image behind its log, opened. -/
namespace Go.Proofs.YtegplehbcdeeoaaGreatDoor
open Go.RowKit

namespace Ck
open Pk Pw
/-- Three results: the second in a cell. -/
theorem results_tct {P : Program} {fn : Func} {tmps : Array Value} {i k j : Nat} {ty : TypeId} {w : World} {a : Addr} {v u x : Value} (hr : fn.results = #[.tmp i, .cell k ty, .tmp j]) (hx : tmps[i]? = some x) (h : tmps[k]? = some (.pointer (some a))) (hl : (loadVar ty a).run P w = .ok v w) (hu : tmps[j]? = some u) :
    (results fn tmps).run P w = .ok (.tuple #[x, v, u]) w := by
  unfold results
  rw [hr]
  have h2 : (asAddr (.pointer (some a))).run P w = .ok a w := rfl
  simp [h, hu, hx, Result.andThen, hl, h2]
set_option maxRecDepth 100000 in
theorem must_ok (w : World) : Calls Tryz.prog 55 #[.int .i64 0] w fun e w' => e = .returned (.tuple #[]) ∧ w = w' := by
  go_enter Tryz.func55, Tryz.ntmps55
  go_wp2_with fail
  go_end0
  exact ⟨rfl, rfl⟩
def okLen (l : B) : Prop := 128 ≤ l.length / 512 ∧ l.length / 512 ≤ 16384 ∧ l.length % 512 = 0
instance (l : B) : Decidable (okLen l) := by unfold okLen; infer_instance
/-- The blocks behind the log; else the number of the finding that stands alone. -/
def openP (l : B) : Except Nat B :=
  if okLen l ∧ sub l 0 512 = superP (l.length / 512) then
    match behindP (l.length / 512) l with
    | some x => .ok x
    | none => .error 2
  else .error 1
def geoC (n : Nat) : Array Value := #[.int .i64 n, .int .i64 98, .int .i64 (98 + ((n : Int) + 4095) / 4096), .int .i64 (98 + ((n : Int) + 4095) / 4096 + (n : Int) / 64), .int .i64 ((n : Int) / 64 * 8)]
theorem geo_C (n : Nat) : geo n = .agg (geoC n) := rfl
def geoC0 : Array Value := Array.replicate 5 (.int .i64 0)
theorem geo_C0 : geo0 = .agg geoC0 := rfl
/-- What geo.Of answers. -/
theorem of_any (n : Nat) (w : World) : ∃ C e, C.size = 5 ∧ C.all (·.oneCell') = true ∧ (e ≠ 0 ↔ ¬ (128 ≤ n ∧ n ≤ 16384)) ∧ ((128 ≤ n ∧ n ≤ 16384) → C = geoC n ∧ e = 0) ∧ Calls Tryz.prog 52 #[.int .i64 n] w fun x w' => x = .returned (.tuple #[.agg C, .int .i64 e]) ∧ Below w.heap.size w w' := by
  by_cases h : 128 ≤ n ∧ n ≤ 16384
  · refine ⟨geoC n, 0, rfl, by simp [geoC, Value.oneCell'], by simp [h], fun _ => ⟨rfl, rfl⟩, ?_⟩
    have := of_good n w (by omega) (by omega)
    rw [geo_C] at this
    exact this
  · refine ⟨geoC0, 70, rfl, natC_one (List.replicate 5 0), by simp [h], fun h' => absurd h' h, ?_⟩
    have := of_bad n w (by omega)
    rw [geo_C0] at this
    exact this
set_option maxRecDepth 100000 in
set_option maxHeartbeats 2000000 in
theorem opened_bad (ao : Option Addr) (n cap : Nat) (hn : n ≤ 9223372036854775807) (w : World) (h : ¬ (128 ≤ n / 512 ∧ n / 512 ≤ 16384 ∧ n % 512 = 0)) :
    Calls Tryz.prog 27 #[.slice ao n cap] w fun e w' => Below w.heap.size w w' ∧ ∃ G : Array Value, (G.size = 5 ∧ G.all (·.oneCell') = true) ∧ e = .returned (.tuple #[.slice none 0 0, .agg G, .int .i64 1]) := by
  have hZ := Blk.new w geoC0 40
  have hB := (Below.refl w.heap.size w).alloc (Nat.le_refl _) (.cells geoC0 40)
  obtain ⟨C, er, hC5, hC1, hE1, hE2, HO⟩ := of_any (n / 512) (w.alloc (.cells geoC0 40))
  rw [show ((n / 512 : Nat) : Int) = (n : Int) / 512 by omega] at HO
  have HP : ∀ w2, Below (w.alloc (.cells geoC0 40)).heap.size (w.alloc (.cells geoC0 40)) w2 → True := fun _ _ => trivial
  go_enter Tryz.func27, Tryz.ntmps27
  go_wp2_with fail
  refine HO.mono ?_
  rintro e w2 ⟨rfl, hb2⟩
  have hb2' : Below w.heap.size w w2 := hB.trans (hb2.mono hB.size)
  have hst := store_new w2 40 geoC0 C (by rw [hC5]; kernel_rfl) (by rw [hC5]; rfl) hC1
  have hZ2 : Blk w2 w.heap.size geoC0 40 := hZ.same (hb2.block _ hZ.lt)
  have hZ3 := hZ2.alloc (.cells C 40)
  have hN3 := Blk.new w2 C 40
  have hB3 := hb2'.alloc hb2'.size (.cells C 40)
  generalize hw3 : w2.alloc (.cells C 40) = w3 at *
  have hld := load_str (w := w3.drew) (ty := 40) hN3 (by exact Tryz.underlying40) (by rw [hC5]; kernel_rfl)
  have hst2 := store_row (w := w3.drew) (ty := 40) (ys := C) hZ3 (by rw [hC5]; kernel_rfl) (by rw [hC5]; rfl) hC1
  have hE := Lib.hid (And.intro (Blk.setRow (w := w3.drew) hZ3 C) (below_setRow (w' := w3.drew) hB3.drew (b := w.heap.size) (Nat.le_refl _) C))
  have hlr := load_str (ty := 40) hE.out.1 (by exact Tryz.underlying40) (by rw [hC5]; kernel_rfl)
  simp only [Instr.loadAt, Instr.sureAddr, Sem.run_bind, Sem.run_pure, Result.andThen] at hlr
  replace hlr := Lib.hid hlr
  have hCC := Lib.hid (And.intro hC5 hC1)
  clear HP HO hb2 hb2' hZ hB hZ2 hZ3 hN3 hB3 hC1 hC5 hw3
  by_cases k : er = 0
  · have k1 : (n % 512 : Nat) ≠ 0 := fun h0 => by
      have : ¬ ¬ (128 ≤ n / 512 ∧ n / 512 ≤ 16384) := fun h1 => hE1.2 h1 k
      exact this (fun h1 => h ⟨h1.1, h1.2, h0⟩)
    have k2 : ¬ (n : Int) % 512 = 0 := by omega
    subst k
    clear hE1 hE2 k1 h
    go_wp2_with (refine wpList_store_run _ rfl (.tmp 6) (.tmp 18) 40 rfl _ hst ?_)
    refine Dr.wp_region_orders (by kernel_rfl) [[0, 1, 2, 3], [1, 0, 2, 3]] (by kernel_rfl) (by kernel_rfl) ?_
    intro o ho
    simp only [List.mem_cons, List.not_mem_nil, or_false] at ho
    rcases ho with rfl | rfl
    all_goals
     simp only [Dr.pick, List.drop_succ_cons, List.drop_zero, List.take_succ_cons, List.take_zero, List.cons_append, List.nil_append]
     go_wp2_with (first | (refine wpList_load_run _ rfl (.tmp 6) 40 rfl _ hld ?_) | (refine wpList_store_run _ rfl (.tmp 3) (.tmp 28) 40 rfl _ hst2 ?_))
     exact bodyPost_ret (results_tct rfl rfl rfl hlr.out rfl) rfl ⟨hE.out.2, _, hCC.out, rfl⟩
  · clear hE1 hE2 h
    go_wp2_with (refine wpList_store_run _ rfl (.tmp 6) (.tmp 18) 40 rfl _ hst ?_)
    refine Dr.wp_region_orders (by kernel_rfl) [[0, 1, 2, 3], [1, 0, 2, 3]] (by kernel_rfl) (by kernel_rfl) ?_
    intro o ho
    simp only [List.mem_cons, List.not_mem_nil, or_false] at ho
    rcases ho with rfl | rfl
    all_goals
     simp only [Dr.pick, List.drop_succ_cons, List.drop_zero, List.take_succ_cons, List.take_zero, List.cons_append, List.nil_append]
     go_wp2_with (first | (refine wpList_load_run _ rfl (.tmp 6) 40 rfl _ hld ?_) | (refine wpList_store_run _ rfl (.tmp 3) (.tmp 28) 40 rfl _ hst2 ?_))
     exact bodyPost_ret (results_tct rfl rfl rfl hlr.out rfl) rfl ⟨hE.out.2, _, hCC.out, rfl⟩
def OpenC (C : Array Value) (n ll : Nat) (l : B) (w : World) (e : Ending) (w' : World) : Prop :=
  Below w.heap.size w w' ∧
    if sub l 0 512 = superP n then
      match behindP n l with
      | some x => ∃ g cap, e = .returned (.tuple #[.slice (some ⟨g, 0, none⟩) ll cap, .agg C, .int .i64 0]) ∧ w.heap.size ≤ g ∧ g < w'.heap.size ∧ SeenAt w' g 0 x ∧ ll ≤ cap ∧ cap ≤ 9223372036854775807
      | none => ∃ G : Array Value, (G.size = 5 ∧ G.all (·.oneCell') = true) ∧ e = .returned (.tuple #[.slice none 0 0, .agg G, .int .i64 2])
    else ∃ G : Array Value, (G.size = 5 ∧ G.all (·.oneCell') = true) ∧ e = .returned (.tuple #[.slice none 0 0, .agg G, .int .i64 1])
def OpenAt (n ll : Nat) (l : B) (w : World) (e : Ending) (w' : World) : Prop := OpenC (geoC n) n ll l w e w'
set_option maxRecDepth 100000 in
set_option maxHeartbeats 4000000 in
theorem opened_at (l : B) (n ll : Nat) (hll : l.length = ll) (hlen : ll = 512 * n) (h1 : 128 ≤ n) (h2 : n ≤ 16384) (g o cap : Nat) (hcap : ll ≤ cap ∧ cap ≤ 9223372036854775807) (w : World) (hg : g < w.heap.size) (hs : SeenAt w g o l) (hw : KVars w) :
    Calls Tryz.prog 27 #[.slice (some ⟨g, o, none⟩) ll cap] w fun e w' => OpenAt n ll l w e w' := by
  have hZ := Blk.new w geoC0 40
  have hB := (Below.refl w.heap.size w).alloc (Nat.le_refl _) (.cells geoC0 40)
  have HO := of_good (n : Int) (w.alloc (.cells geoC0 40)) (by omega) (by omega)
  rw [geo_C] at HO
  have hGr := fun W (h : Below w.heap.size w W) => geoRead_any (sub l 0 512) (by rw [sub_len (by omega)]) g o cap W (Nat.lt_of_lt_of_le hg h.size) (by simpa using (hs.below hg h).part 0 512) (hw.below h)
  have hDo := fun W (h : Below w.heap.size w W) => diskOpen_any l n (by omega) h2 (by omega) g o cap W (Nat.lt_of_lt_of_le hg h.size) (hs.below hg h) (by rw [hll]; exact hcap)
  rw [hll] at hDo
  have hBe : ∀ W d gg, Below w.heap.size w W → DiskAt W d gg n l → _ := fun W d gg h hd => behindW_any hd h1 h2 (hw.below h)
  have hsi := isSuper_iff (l := sub l 0 512) h1 h2
  have hP : OpenAt n ll l w = OpenAt n ll l w := rfl
  have hC5 : (geoC n).size = 5 := rfl
  have hC1 : (geoC n).all (·.oneCell') = true := by simp [geoC, Value.oneCell']
  have hOA : ∀ e w', OpenAt n ll l w e w' = OpenC (geoC n) n ll l w e w' := fun _ _ => rfl
  simp only [hOA]
  clear hOA hP
  generalize geoC n = C at *
  have m0 : (ll : Int) / 512 = n := by omega
  have m2 : ((ll : Int) % 512 != 0) = false := by rw [show (ll : Int) % 512 = 0 by omega]; rfl
  have hGr' := Lib.hid hGr
  have hDo' := Lib.hid hDo
  have hBe' := Lib.hid hBe
  have hsi' := Lib.hid hsi
  have hlen' := Lib.hid hlen
  have m3 : 512 ≤ cap := by omega
  clear hGr hDo hBe hsi hs hw hll hlen
  go_enter Tryz.func27, Tryz.ntmps27
  go_wp2_with fail
  refine HO.mono ?_
  clear HO
  rintro e w2 ⟨rfl, hb2⟩
  have hb2' : Below w.heap.size w w2 := hB.trans (hb2.mono hB.size)
  have hst := store_new w2 40 geoC0 C (by rw [hC5]; kernel_rfl) (by rw [hC5]; rfl) hC1
  have hZ2 : Blk w2 w.heap.size geoC0 40 := hZ.same (hb2.block _ hZ.lt)
  have hZ3 := hZ2.alloc (.cells C 40)
  have hN3 := Blk.new w2 C 40
  have hB3 := hb2'.alloc hb2'.size (.cells C 40)
  generalize hw3 : w2.alloc (.cells C 40) = w3 at *
  -- behind w3: what every later world keeps
  have hK : ∀ W, Below w3.heap.size w3 W → (Instr.loadAt 40 (.pointer (some ⟨w2.heap.size, 0, none⟩))).run Tryz.prog W.drew = .ok (.agg C) W.drew ∧ (Instr.storeAt 40 (.pointer (some ⟨w.heap.size, 0, none⟩)) (.agg C)).run Tryz.prog W.drew = .ok () (W.drew.setRow w.heap.size C) ∧ (loadVar 40 ⟨w.heap.size, 0, none⟩).run Tryz.prog (W.drew.setRow w.heap.size C) = .ok (.agg C) (W.drew.setRow w.heap.size C) ∧ Below w.heap.size w (W.drew.setRow w.heap.size C) := by
    intro W hW
    have hN := hN3.same (hW.block _ hN3.lt)
    have hZ := hZ3.same (hW.block _ hZ3.lt)
    have hld := load_str (w := W.drew) (ty := 40) hN (by exact Tryz.underlying40) (by rw [hC5]; kernel_rfl)
    have hst2 := store_row (w := W.drew) (ty := 40) (ys := C) hZ (by rw [hC5]; kernel_rfl) (by rw [hC5]; rfl) hC1
    have hlr := load_str (ty := 40) (Blk.setRow (w := W.drew) hZ C) (by exact Tryz.underlying40) (by rw [hC5]; kernel_rfl)
    simp only [Instr.loadAt, Instr.sureAddr, Sem.run_bind, Sem.run_pure, Result.andThen] at hlr
    exact ⟨hld, hst2, hlr, below_setRow (w' := W.drew) (hB3.trans (hW.mono hB3.size)).drew (b := w.heap.size) (Nat.le_refl _) C⟩
  have HG := hGr'.out w3 hB3
  have hK' := Lib.hid hK
  have hB3' := Lib.hid hB3
  have hlt3 := Lib.hid hZ3.lt
  have hCC := Lib.hid (And.intro hC5 hC1)
  clear hK hb2 hb2' hZ hB hZ2 hZ3 hN3 hB3 hC1 hC5 hw3
  by_cases hs1 : isSuper (sub l 0 512) = true
  · rw [if_pos hs1] at HG
    by_cases hs2 : val (sub (sub l 0 512) 8 4) = n
    · have hsup := hsi'.out.1 ⟨hs1, hs2⟩
      rw [hs2] at HG
      have hsup := Lib.hid hsup
      clear hs1 hs2
      have hnn : ((n : Int) != n) = false := by simp
      go_wp2_with (first | (refine wpList_store_run _ rfl (.tmp 6) (.tmp 18) 40 rfl _ hst ?_) | (go_at_call 53; refine HG.mono ?_; clear HG; rintro e w4 ⟨rfl, hb4⟩))
      refine (hDo'.out w4 (hB3'.out.trans (hb4.mono hB3'.out.size))).mono ?_
      rintro e w5 ⟨d, gg, rfl, hD5, hd1, hg1, hdg, hb5⟩
      have hBB := hBe'.out w5 d gg ((hB3'.out.trans (hb4.mono hB3'.out.size)).trans (hb5.mono (Nat.le_trans hB3'.out.size hb4.size))) hD5
      have HM := must_ok w5
      have hb35 := Lib.hid (hb4.trans (hb5.mono hb4.size))
      have hlt := Lib.hid (Nat.lt_of_lt_of_le hlt3.out hb35.out.size)
      clear hD5 hd1 hg1 hdg hb5 hb4 hst
      go_wp2_with (go_at_call 55; refine HM.mono ?_; clear HM; rintro e w6 ⟨rfl, rfl⟩)
      refine hBB.mono ?_
      clear hBB
      rintro e w6 ⟨hb6, hm⟩
      have hb36 := Lib.hid (hb35.out.trans (hb6.mono hb35.out.size))
      have hlt := Lib.hid (show w.heap.size < w5.heap.size from hlt.out)
      clear hb6
      cases hbe : behindP n l with
      | none =>
        rw [hbe] at hm
        replace hm : e = .returned (.tuple #[.slice none 0 0, .int .i64 41]) := hm
        subst hm
        have hbe := Lib.hid hbe
        go_wp2_with fail
        have hld := (hK'.out w6 hb36.out).1
        have hst2 := (hK'.out w6 hb36.out).2.1
        refine Dr.wp_region_orders (by kernel_rfl) [[0, 1, 2, 3], [1, 0, 2, 3]] (by kernel_rfl) (by kernel_rfl) ?_
        intro o ho
        simp only [List.mem_cons, List.not_mem_nil, or_false] at ho
        rcases ho with rfl | rfl
        all_goals
          simp only [Dr.pick, List.drop_succ_cons, List.drop_zero, List.take_succ_cons, List.take_zero, List.cons_append, List.nil_append]
          go_wp2_with (first | (refine wpList_load_run _ rfl (.tmp 6) 40 rfl _ hld ?_) | (refine wpList_store_run _ rfl (.tmp 3) (.tmp 57) 40 rfl _ hst2 ?_))
          refine bodyPost_ret (results_tct rfl rfl rfl (hK'.out w6 hb36.out).2.2.1 rfl) rfl ?_
          unfold OpenC
          exact ⟨(hK'.out w6 hb36.out).2.2.2, by rw [if_pos hsup.out, hbe.out]; exact ⟨_, hCC.out, rfl⟩⟩
      | some x =>
        rw [hbe] at hm
        obtain ⟨g6, cap6, rfl, hg6, hg6', hs6, hc6, hc6'⟩ := hm
        rw [← hlen'.out] at hc6
        have hbe := Lib.hid hbe
        have e6 : ((512 * n : Nat) : Int) = ll := by have := hlen'.out; omega
        rw [← hlen'.out]
        go_wp2_with fail
        have hld := (hK'.out w6 hb36.out).1
        have hst2 := (hK'.out w6 hb36.out).2.1
        refine Dr.wp_region_orders (by kernel_rfl) [[0, 1, 2, 3, 4], [0, 2, 1, 3, 4], [1, 0, 2, 3, 4]] (by kernel_rfl) (by kernel_rfl) ?_
        intro o ho
        simp only [List.mem_cons, List.not_mem_nil, or_false] at ho
        rcases ho with rfl | rfl | rfl
        all_goals
          simp only [Dr.pick, List.drop_succ_cons, List.drop_zero, List.take_succ_cons, List.take_zero, List.cons_append, List.nil_append]
          go_wp2_with (first | (refine wpList_load_run _ rfl (.tmp 6) 40 rfl _ hld ?_) | (refine wpList_store_run _ rfl (.tmp 3) (.tmp 59) 40 rfl _ hst2 ?_))
          refine bodyPost_ret (results_tct rfl rfl rfl (hK'.out w6 hb36.out).2.2.1 rfl) rfl ?_
          unfold OpenC
          refine ⟨(hK'.out w6 hb36.out).2.2.2, ?_⟩
          rw [if_pos hsup.out, hbe.out]
          exact ⟨g6, cap6, rfl, Nat.le_trans (Nat.le_of_lt hlt.out) hg6, by rw [setRow_size]; exact hg6', hs6.same (setRow_heap _ _ _ _ (by have := hlt.out; omega)), hc6, hc6'⟩
    · generalize hvv : val (sub (sub l 0 512) 8 4) = v at *
      have hvn : ((v : Int) != n) = true := by simp; omega
      have hno := Lib.hid (show ¬ sub l 0 512 = superP n from fun h => hs2 (hsi'.out.2 h).2)
      clear hs1 hs2
      go_wp2_with (first | (refine wpList_store_run _ rfl (.tmp 6) (.tmp 18) 40 rfl _ hst ?_) | (go_at_call 53; refine HG.mono ?_; clear HG; rintro e w4 ⟨rfl, hb4⟩))
      have hld := (hK'.out w4 hb4).1
      have hst2 := (hK'.out w4 hb4).2.1
      refine Dr.wp_region_orders (by kernel_rfl) [[0, 1, 2, 3], [1, 0, 2, 3]] (by kernel_rfl) (by kernel_rfl) ?_
      intro o ho
      simp only [List.mem_cons, List.not_mem_nil, or_false] at ho
      rcases ho with rfl | rfl
      all_goals
        simp only [Dr.pick, List.drop_succ_cons, List.drop_zero, List.take_succ_cons, List.take_zero, List.cons_append, List.nil_append]
        go_wp2_with (first | (refine wpList_load_run _ rfl (.tmp 6) 40 rfl _ hld ?_) | (refine wpList_store_run _ rfl (.tmp 3) (.tmp 42) 40 rfl _ hst2 ?_))
        refine bodyPost_ret (results_tct rfl rfl rfl (hK'.out w4 hb4).2.2.1 rfl) rfl ?_
        unfold OpenC
        exact ⟨(hK'.out w4 hb4).2.2.2, by rw [if_neg hno.out]; exact ⟨_, hCC.out, rfl⟩⟩
  · rw [if_neg hs1] at HG
    have hno := Lib.hid (show ¬ sub l 0 512 = superP n from fun h => hs1 (hsi'.out.2 h).1)
    clear hs1
    go_wp2_with (first | (refine wpList_store_run _ rfl (.tmp 6) (.tmp 18) 40 rfl _ hst ?_) | (go_at_call 53; refine HG.mono ?_; clear HG; rintro e w4 ⟨rfl, hb4⟩))
    have hld := (hK'.out w4 hb4).1
    have hst2 := (hK'.out w4 hb4).2.1
    refine Dr.wp_region_orders (by kernel_rfl) [[0, 1, 2, 3], [1, 0, 2, 3]] (by kernel_rfl) (by kernel_rfl) ?_
    intro o ho
    simp only [List.mem_cons, List.not_mem_nil, or_false] at ho
    rcases ho with rfl | rfl
    all_goals
      simp only [Dr.pick, List.drop_succ_cons, List.drop_zero, List.take_succ_cons, List.take_zero, List.cons_append, List.nil_append]
      go_wp2_with (first | (refine wpList_load_run _ rfl (.tmp 6) 40 rfl _ hld ?_) | (refine wpList_store_run _ rfl (.tmp 3) (.tmp 42) 40 rfl _ hst2 ?_))
      refine bodyPost_ret (results_tct rfl rfl rfl (hK'.out w4 hb4).2.2.1 rfl) rfl ?_
      unfold OpenC
      exact ⟨(hK'.out w4 hb4).2.2.2, by rw [if_neg hno.out]; exact ⟨_, hCC.out, rfl⟩⟩
end Ck
end Go.Proofs.YtegplehbcdeeoaaGreatDoor
/- The reference's geometry. -/
namespace Go.Proofs.YtegplehbcdeeoaaGreatDoor
open Go.RowKit

namespace Ck
open Pk Pw
def geoL (n a b c : Nat) : Array Value := #[.int .i64 n, .int .i64 98, .int .i64 (a : Nat), .int .i64 (b : Nat), .int .i64 (c : Nat)]
theorem results_ct {P : Program} {fn : Func} {tmps : Array Value} {k j : Nat} {ty : TypeId} {w : World} {a : Addr} {v u : Value} (hr : fn.results = #[.cell k ty, .tmp j]) (h : tmps[k]? = some (.pointer (some a))) (hl : (loadVar ty a).run P w = .ok v w) (hu : tmps[j]? = some u) :
    (results fn tmps).run P w = .ok (.tuple #[v, u]) w := by
  unfold results
  rw [hr]
  have h2 : (asAddr (.pointer (some a))).run P w = .ok a w := rfl
  simp [h, hu, Result.andThen, hl, h2]
/-- The two structs of the reference's geometry. -/
structure GeoW (w0 : World) (n a b c : Nat) (w : World) : Prop where
  g : Blk w (w0.heap.size + 1) (geoL n a b c) 40
  r : Blk w w0.heap.size geoC0 40
  bl : Below w0.heap.size w0 w
theorem GeoW.put {w0 w : World} {n a b c : Nat} (h : GeoW w0 n a b c w) (j : Nat) (v : Value) {a' b' c' : Nat} (e : (geoL n a b c).setIfInBounds j v = geoL n a' b' c') : GeoW w0 n a' b' c' (w.setCell ⟨w0.heap.size + 1, j, none⟩ v) := by
  refine ⟨?_, h.r.same (setCell_heap _ _ _ _ _ (by omega)), h.bl.setCell (by simp) _⟩
  have := h.g.setAt j v
  rwa [e] at this
set_option maxRecDepth 100000 in
theorem refGeo_bad (n : Nat) (w : World) (h : n < 128 ∨ 16384 < n) :
    Calls Tryz.prog 17 #[.int .i64 n] w fun e w' => e = .returned (.tuple #[geo0, .int .i64 70]) ∧ Below w.heap.size w w' := by
  rcases h with h | h
  · have h' : (n : Int) < 128 := by omega
    go_enter Tryz.func17, Tryz.ntmps17
    go_wp2
    exact bodyPost_ret (v := .tuple #[geo0, .int .i64 70]) (by simp [results, Tryz.results17, go_sem, geo0]) rfl ⟨rfl, (((Below.refl _ _).alloc (Nat.le_refl _) _))⟩
  · have h' : ¬ (n : Int) < 128 := by omega
    have h'' : 16384 < (n : Int) := by omega
    go_enter Tryz.func17, Tryz.ntmps17
    go_wp2
    exact bodyPost_ret (v := .tuple #[geo0, .int .i64 70]) (by simp [results, Tryz.results17, go_sem, geo0]) rfl ⟨rfl, (((Below.refl _ _).alloc (Nat.le_refl _) _))⟩
set_option maxRecDepth 100000 in
theorem refGeo_good (n : Nat) (w : World) (h1 : 128 ≤ n) (h2 : n ≤ 16384) :
    Calls Tryz.prog 17 #[.int .i64 n] w fun e w' => e = .returned (.tuple #[.agg (geoL n (98 + (n + 4095) / 4096) (98 + (n + 4095) / 4096 + n / 64) (n / 64 * 8)), .int .i64 0]) ∧ Below w.heap.size w w' := by
  have a1 : ¬ (n : Int) < 128 := by omega
  have a2 : ¬ 16384 < (n : Int) := by omega
  go_enter Tryz.func17, Tryz.ntmps17
  go_wp2
  have hG := Lib.hid (show GeoW w n 98 0 0 ((w.alloc (.cells geoC0 40)).alloc (.cells (geoL n 98 0 0) 40)) from
    ⟨Blk.newAt _ _ (by simp), (Blk.new w _ _).alloc _, ((Below.refl w.heap.size w).alloc (Nat.le_refl _) _).alloc (by simp) _⟩)

  go_loopw [5] (fun tv wr => ∃ k : Nat, tv = .int .i64 (4096 * k : Nat) ∧ 4096 * k ≤ n + 4095 ∧ Hid (GeoW w n (98 + k) 0 0 wr)) (fun tv _ => n - (intOf tv).toNat)
  case atStart => exact ⟨0, rfl, by omega, hG⟩
  case round =>
    obtain ⟨k, rfl, hk, hH⟩ := hrel
    by_cases c : 4096 * k < n
    · have hci : ((4096 * k : Nat) : Int) < (n : Int) := by omega
      have z2 := hH.out.g.cell 2
      have f2 := hH.out.g.free 2
      replace z2 : wr.cell? ⟨w.heap.size + 1, 2, none⟩ = some (.int .i64 (98 + k : Nat)) := z2
      have hn := Lib.hid (hH.out.put 2 (.int .i64 (98 + (k + 1) : Nat)) (a' := 98 + (k + 1)) (b' := 0) (c' := 0) rfl)
      go_wp2_with fail
      go_roundw
      case rel => exact ⟨k + 1, by go_num, by omega, hn⟩
      case measure => simp only [intOf]; omega
    · have hci : ¬ ((4096 * k : Nat) : Int) < (n : Int) := by omega
      have hke : k = (n + 4095) / 4096 := by omega
      have z2 := hH.out.g.cell 2
      have f3 := hH.out.g.free 3
      have z3 := hH.out.g.cell 3
      replace z2 : wr.cell? ⟨w.heap.size + 1, 2, none⟩ = some (.int .i64 (98 + k : Nat)) := z2
      replace z3 : wr.cell? ⟨w.heap.size + 1, 3, none⟩ = some (.int .i64 0) := z3
      have hn := Lib.hid (hH.out.put 3 (.int .i64 (98 + k : Nat)) (a' := 98 + k) (b' := 98 + k) (c' := 0) rfl)
      have hkh := Lib.hid hke
      clear hke
      go_wp2_with fail
      go_loopw [6] (fun tv wr => ∃ j : Nat, tv = .int .i64 (64 * (j + 1) : Nat) ∧ 64 * j ≤ n ∧ Hid (GeoW w n (98 + k) (98 + k + j) (j * 8) wr)) (fun tv _ => n + 64 - (intOf tv).toNat)
      case atStart => exact ⟨0, rfl, by omega, hn⟩
      case round =>
        obtain ⟨j, rfl, hj, hJ⟩ := hrel
        by_cases c : 64 * (j + 1) ≤ n
        · have hci : ((64 * (j + 1) : Nat) : Int) ≤ (n : Int) := by omega
          have h1 := hJ.out.put 3 (.int .i64 (98 + (k : Int) + (j : Int) + 1)) (a' := 98 + k) (b' := 98 + k + (j + 1)) (c' := j * 8) rfl
          have z3 := hJ.out.g.cell 3
          have f3 := hJ.out.g.free 3
          replace z3 : wr.cell? ⟨w.heap.size + 1, 3, none⟩ = some (.int .i64 (98 + k + j : Nat)) := z3
          have z4 := h1.g.cell 4
          have f4 := h1.g.free 4
          replace z4 : (wr.setCell ⟨w.heap.size + 1, 3, none⟩ (.int .i64 (98 + (k : Int) + (j : Int) + 1))).cell? ⟨w.heap.size + 1, 4, none⟩ = some (.int .i64 (j * 8 : Nat)) := z4
          have h2 := Lib.hid (h1.put 4 (.int .i64 ((j : Int) * 8 + 8)) (a' := 98 + k) (b' := 98 + k + (j + 1)) (c' := (j + 1) * 8) (by simp [geoL]; omega))
          clear h1
          go_wp2_with fail
          go_roundw
          case rel => exact ⟨j + 1, by go_num, by omega, h2⟩
          case measure => simp only [intOf]; omega
        · have hci : ¬ ((64 * (j + 1) : Nat) : Int) ≤ (n : Int) := by omega
          have hld := load_str (ty := 40) hJ.out.g (by exact Tryz.underlying40) (by kernel_rfl)
          have hst := store_row (ty := 40) (ys := geoL n (98 + k) (98 + k + j) (j * 8)) hJ.out.r (by kernel_rfl) rfl (by simp [geoL, Value.oneCell'])
          have hR := (hJ.out.r).setRow (geoL n (98 + k) (98 + k + j) (j * 8))
          have hlr := load_str (ty := 40) hR (by exact Tryz.underlying40) (by kernel_rfl)
          simp only [Instr.loadAt, Instr.sureAddr, Sem.run_bind, Sem.run_pure, Result.andThen] at hlr
          have hBl := below_setRow hJ.out.bl (Nat.le_refl _) (geoL n (98 + k) (98 + k + j) (j * 8))
          have hfin := Lib.hid (show geoL n (98 + (n + 4095) / 4096) (98 + (n + 4095) / 4096 + n / 64) (n / 64 * 8) = geoL n (98 + k) (98 + k + j) (j * 8) by rw [hkh.out, show n / 64 = j by omega])
          go_wp2_with (first | (refine wpList_load_run _ rfl (.tmp 4) 40 rfl _ hld ?_) | (refine wpList_store_run _ rfl (.tmp 2) (.tmp 41) 40 rfl _ hst ?_))
          exact bodyPost_ret (results_ct rfl rfl hlr rfl) rfl ⟨by rw [hfin.out]; rfl, hBl⟩
end Ck
end Go.Proofs.YtegplehbcdeeoaaGreatDoor
