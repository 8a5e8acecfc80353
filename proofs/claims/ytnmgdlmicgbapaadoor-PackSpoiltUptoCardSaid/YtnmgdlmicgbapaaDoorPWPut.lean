/- The walks of a number's bytes: the program's Put, and put. -/
import Derived.Test.YtnmgdlmicgbapaaDoorPWSum
import Derived.Test.YtnmgdlmicgbapaaDoorPZeros
namespace Go.Proofs.YtnmgdlmicgbapaaDoor
open Go.RowKit

namespace Pw
open Pk
/-- A width that a number may have. -/
def isW (wd : Nat) : Prop := wd = 1 ∨ wd = 2 ∨ wd = 4
theorem isWidth_any (wd : Nat) (hwd : isW wd) (w : World) (hw : w.cell? ⟨1, wd, none⟩ = some (.bool true)) : Calls Tryd.prog 28 #[.int .i64 wd] w fun e w' => e = .returned (.bool true) ∧ w = w' := by
  rcases hwd with rfl | rfl | rfl
  all_goals
    go_enter Tryd.func28, Tryd.ntmps28
    go_wp2
    go_ret
    exact ⟨rfl, rfl⟩
theorem lie_any (ao : Option Addr) (n cap at' k : Nat) (w : World) (h : at' + k ≤ n) (hn : n ≤ 1000000000000000) : Calls Tryd.prog 29 #[.slice ao n cap, .int .i64 at', .int .i64 k] w fun e w' => e = .returned (.bool true) ∧ w = w' := by
  have h1 : (0 : Int) ≤ at' := by omega
  have h2 : (0 : Int) ≤ k := by omega
  have h3 : (at' : Int) ≤ n := by omega
  have h4 : (k : Int) ≤ (n : Int) - at' := by omega
  go_enter Tryd.func29, Tryd.ntmps29
  go_wp2
  go_ret
  exact ⟨rfl, rfl⟩
theorem own_set {w : World} {base : Nat} {e : TypeId} {g n cap : Nat} {xs : List Value} (h : w.ownsRow base e 1 (.slice (some ⟨g, 0, none⟩) n cap) n xs) (j : Nat) (u : Value) : (w.setCell ⟨g, j, none⟩ u).ownsRow base e 1 (.slice (some ⟨g, 0, none⟩) n cap) n (xs.set j u) := by
  refine ⟨by rw [List.length_set]; exact h.1, ?_⟩
  rcases h.2 with ⟨h2, _⟩ | ⟨g', cap', cur, h2, hb, hh, hc, hm, hs, ht⟩
  · cases h2
  · cases h2
    refine .inr ⟨g, cap, cur.setIfInBounds j u, rfl, hb, ?_, hc, hm, by simpa using hs, ?_⟩
    · simp [World.setCell, Array.getElem?_modify, hh]
    · rw [Array.toList_setIfInBounds, List.take_set, ht]
/-- The bytes so far, and the zeros behind them. -/
def part (L : List UInt8) (v wd k : Nat) : List UInt8 := L ++ low k v ++ zs (wd - k)
theorem part_len (L : List UInt8) (v wd k : Nat) (h : k ≤ wd) : (part L v wd k).length = L.length + wd := by simp only [part, List.length_append, low_len, zs_len]; omega
theorem part_set (L : List UInt8) (v wd k : Nat) (h : k < wd) : (bytesV (part L v wd k)).set (L.length + k) (.int .u8 ((UInt8.ofNat (v / 256 ^ k % 256)).toNat : Nat)) = bytesV (part L v wd (k + 1)) := by
  have e1 : zs (wd - k) = 0 :: zs (wd - (k + 1)) := by
    unfold zs
    rw [show wd - k = (wd - (k + 1)) + 1 by omega, List.replicate_succ]
  unfold part
  rw [e1, low_succ, bytesV_app, bytesV_app, List.set_append_right _ _ (by simp [bytesV_len, low_len])]
  have e2 : L.length + k - (bytesV L ++ bytesV (low k v)).length = 0 := by simp [bytesV_len, low_len]
  rw [← bytesV_app] at e2 ⊢
  rw [e2]
  simp only [bytesV, List.map_cons, List.set_cons_zero, List.map_append, List.append_assoc, List.cons_append, List.nil_append]
theorem shr_byte (v k : Nat) : Value.int .u8 ((v : Int) / 2 ^ (8 * k) % 256) = .int .u8 ((UInt8.ofNat (v / 256 ^ k % 256)).toNat : Nat) := by
  rw [UInt8.toNat_ofNat']
  congr 1
  have : (256 : Nat) ^ k = 2 ^ (8 * k) := by rw [Nat.pow_mul]
  rw [this]
  have e : ((2 : Int) ^ (8 * k)) = ((2 ^ (8 * k) : Nat) : Int) := by simp
  rw [e]
  omega
theorem recPut_any (L : List UInt8) (g cap v wd : Nat) (base : Nat) (w : World) (hwd : isW wd) (hv : v < 256 ^ wd) (hl : L.length ≤ 100000000000000) (hw : w.cell? ⟨1, wd, none⟩ = some (.bool true)) (ho : w.ownsRow base 5 1 (.slice (some ⟨g, 0, none⟩) (L.length + wd) cap) (L.length + wd) (bytesV (L ++ zs wd))) :
    Calls Tryd.prog 19 #[.slice (some ⟨g, 0, none⟩) (L.length + wd) cap, .int .i64 L.length, .int .i64 wd, .int .u64 v] w fun e w' => e = .returned (.int .i64 0) ∧ w'.ownsRow base 5 1 (.slice (some ⟨g, 0, none⟩) (L.length + wd) cap) (L.length + wd) (bytesV (L ++ low wd v)) ∧ w.grownBy w' (some g) := by
  have HW := isWidth_any wd hwd w hw
  have hwd4 : wd ≤ 4 := by rcases hwd with rfl | rfl | rfl <;> omega
  have hwd8 : (wd : Int) < 8 := by omega
  have HL := lie_any (some ⟨g, 0, none⟩) (L.length + wd) cap L.length wd w (by omega) (by omega)
  have HP : ∀ k, k < wd → _ := fun k hk => part_set L v wd k hk
  have HO : w.ownsRow base 5 1 (.slice (some ⟨g, 0, none⟩) (L.length + wd) cap) (L.length + wd) (bytesV (part L v wd 0)) := by simpa [part, low] using ho
  have HE : bytesV (L ++ low wd v) = bytesV (part L v wd wd) := by simp [part, zs]
  rw [HE]
  have hd' : (v : Int) / 2 ^ (8 * wd) = 0 := by
    have h1 : v < 2 ^ (8 * wd) := by rw [Nat.pow_mul]; exact hv
    have e : ((2 : Int) ^ (8 * wd)) = ((2 ^ (8 * wd) : Nat) : Int) := by simp
    rw [e]
    have h2 : v / 2 ^ (8 * wd) = 0 := Nat.div_eq_of_lt h1
    omega
  clear HE ho hw hv
  go_enter Tryd.func19, Tryd.ntmps19
  go_wp2_with (first | (go_at_call 28; refine HW.mono ?_; rintro e w' ⟨rfl, rfl⟩) | (go_at_call 29; refine HL.mono ?_; rintro e w' ⟨rfl, rfl⟩))
  go_loopw [32] (fun i wr => ∃ k : Nat, k ≤ wd ∧ i = .int .i64 k ∧ wr.ownsRow base 5 1 (.slice (some ⟨g, 0, none⟩) (L.length + wd) cap) (L.length + wd) (bytesV (part L v wd k)) ∧ w.grownBy wr (some g)) (fun i _ => wd - (intOf i).toNat)
  case atStart => exact ⟨0, Nat.zero_le _, rfl, HO, World.grownBy.refl _ _⟩
  case round =>
    obtain ⟨k, hk, rfl, hown, hgr⟩ := hrel
    have hll := part_len L v wd k hk
    by_cases hlt : k < wd
    · have HS := Lib.hid (HP k hlt)
      obtain ⟨_, _, e1, _, _, _, _, c1, c2⟩ := own_at hown (by omega)
      cases e1
      have c3 := c1 (L.length + k) (by omega)
      obtain ⟨u, hu⟩ : ∃ u, (bytesV (part L v wd k))[L.length + k]? = some u := ⟨_, List.getElem?_eq_getElem (by rw [bytesV_len]; omega)⟩
      rw [hu] at c3
      have c4 := c2 (L.length + k)
      have hgl : w.heap.size ≤ wr.heap.size := hgr.size
      clear c1 c2 hu HP hll
      go_wp2
      go_roundw
      case rel =>
        refine ⟨k + 1, by omega, by go_num, ?_, ?_⟩
        · rw [shr_byte, ← HS.out]; exact own_set hown _ _
        · exact hgr.trans ⟨rfl, rfl, rfl, by simp [World.setCell], fun i _ hi => Below.heap_setCell _ _ _ _ (fun e => hi (by rw [e]))⟩
      case measure => simp [intOf]; omega
    · obtain rfl : k = wd := by omega
      clear HP hll HO HW HL
      go_wp2
      go_ret
      exact ⟨rfl, hown, hgr⟩
/-- put: a number in so many bytes, behind bytes: what the append answers is known. -/
theorem put_core (L : List UInt8) (v : Value) (n wd : Nat) (base : Nat) (w : World) (hwd : isW wd) (hn : n < 256 ^ wd) (hl : L.length ≤ 100000000000000) (hb : base ≤ w.heap.size) (hb2 : 1 < base) (hw : w.cell? ⟨1, wd, none⟩ = some (.bool true)) (hsh : v.ownBlock ≠ some 1) (cap0 : Nat) (ao0 : Option Addr) (hv : v = .slice ao0 L.length cap0) (v1 : Value) (w1 : World)
    (hr : (Builtin.append_ #[23, 3] 23 #[v, .int .i64 wd]).run Tryd.prog w = .ok v1 w1) (ho1 : w1.ownsRow base 5 1 v1 (L ++ zs wd).length (bytesV (L ++ zs wd))) (hg1 : w.grownBy w1 v.ownBlock) (hat1 : v1.ownBlock = v.ownBlock ∨ ∃ g, v1.ownBlock = some g ∧ w.heap.size ≤ g) :
    Calls Tryd.prog 8 #[v, .int .i64 wd, .int .i64 n] w fun e w' => ∃ v', e = .returned v' ∧ w'.ownsRow base 5 1 v' (L ++ low wd n).length (bytesV (L ++ low wd n)) ∧ Apps w w' v v' := by
  have hwd0 : 0 < wd := by rcases hwd with rfl | rfl | rfl <;> omega
  have hwd4 : wd ≤ 4 := by rcases hwd with rfl | rfl | rfl <;> omega
  have hn63 : n < 4294967296 := by
    refine Nat.lt_of_lt_of_le hn ?_
    rcases hwd with rfl | rfl | rfl <;> simp
  have hlen : (L ++ zs wd).length = L.length + wd := by rw [List.length_append, zs_len]
  obtain ⟨g, cap, rfl, h1, h2, h3, h4, h5, h6⟩ := own_at ho1 (by omega)
  rw [hlen] at ho1 hr hat1
  have hw1 : w1.cell? ⟨1, wd, none⟩ = some (.bool true) := by
    refine (World.cell?_of_block (a := ⟨1, wd, none⟩) (hg1.block _ (by show 1 < w.heap.size; omega) (fun e => hsh e.symm))).trans hw
  have HP := recPut_any L g cap n wd base w1 hwd hn (by omega) hw1 ho1
  have HL := Lib.hid (show (L ++ low wd n).length = L.length + wd by rw [List.length_append, low_len])
  clear h5 h6 hw hw1 hlen
  go_enter Tryd.func8, Tryd.ntmps8
  go_wp2_with (first | (at_builtin; refine Lib.wpList_append_run _ rfl _ _ _ _ rfl _ _ rfl rfl _ _ hr ?_) | (go_at_call 19; refine HP.mono ?_; rintro e w2 ⟨rfl, ho2, hg2⟩))
  go_ret
  exact ⟨_, rfl, by rw [HL.out]; exact ho2, (show Apps w w1 v _ from ⟨hg1, hat1⟩).trans ⟨hg2, .inl rfl⟩⟩
/-- .. behind bytes of the caller's own. -/
theorem put_any (L : List UInt8) (v : Value) (n wd : Nat) (base : Nat) (w : World) (hwd : isW wd) (hn : n < 256 ^ wd) (hl : L.length ≤ 100000000000000) (hb : base ≤ w.heap.size) (hb2 : 1 < base) (hw : w.cell? ⟨1, wd, none⟩ = some (.bool true)) (ho : w.ownsRow base 5 1 v L.length (bytesV L)) :
    Calls Tryd.prog 8 #[v, .int .i64 wd, .int .i64 n] w fun e w' => ∃ v', e = .returned v' ∧ w'.ownsRow base 5 1 v' (L ++ low wd n).length (bytesV (L ++ low wd n)) ∧ Apps w w' v v' := by
  have hwd0 : 0 < wd := by rcases hwd with rfl | rfl | rfl <;> omega
  have hwd4 : wd ≤ 4 := by rcases hwd with rfl | rfl | rfl <;> omega
  obtain ⟨v1, w1, hr, ho1, hg1, hat1⟩ := run_append_own_zeros (P := Tryd.prog) (tn := 3) (kn := .i64) byT Tryd.underlying3 23 ho wd hwd0 .i64 (by omega) hb
  have hform : ∃ ao0 cap0, v = .slice ao0 L.length cap0 := by
    rcases ho.2 with ⟨rfl, h0⟩ | ⟨g, cap, _, rfl, _⟩
    · exact ⟨none, 0, by rw [h0]⟩
    · exact ⟨_, cap, rfl⟩
  obtain ⟨ao0, cap0, hv⟩ := hform
  exact put_core L v n wd base w hwd hn hl hb hb2 hw (fun e => by have := (ho.lt _ e).1; omega) cap0 ao0 hv v1 w1 hr ho1 hg1 hat1
/-- .. behind a full row, whatever its mark. -/
theorem put_full (L : List UInt8) (g n wd : Nat) (base : Nat) (w : World) (hwd : isW wd) (hn : n < 256 ^ wd) (hl : L.length ≤ 100000000000000) (hb : base ≤ w.heap.size) (hb2 : 1 < base) (hg : base ≤ g) (hw : w.cell? ⟨1, wd, none⟩ = some (.bool true)) (hc : ∀ j u, (bytesV L)[j]? = some u → w.cell? ⟨g, j, none⟩ = some u) :
    Calls Tryd.prog 8 #[.slice (some ⟨g, 0, none⟩) L.length L.length, .int .i64 wd, .int .i64 n] w fun e w' => ∃ v', e = .returned v' ∧ w'.ownsRow base 5 1 v' (L ++ low wd n).length (bytesV (L ++ low wd n)) ∧ Apps w w' (.slice (some ⟨g, 0, none⟩) L.length L.length) v' := by
  have hwd0 : 0 < wd := by rcases hwd with rfl | rfl | rfl <;> omega
  have hwd4 : wd ≤ 4 := by rcases hwd with rfl | rfl | rfl <;> omega
  obtain ⟨v1, w1, hr, ho1, hg1, hat1⟩ := run_append_full_zeros (P := Tryd.prog) (tn := 3) (kn := .i64) byT Tryd.underlying3 23 hc wd hwd0 .i64 (by omega)
  exact put_core L _ n wd base w hwd hn hl hb hb2 hw (fun e => by have : g = 1 := Option.some.inj e; omega) L.length _ rfl v1 w1 hr ⟨ho1.1, ho1.2.elim Or.inl (fun ⟨g, cap, cur, hv, hg, r⟩ => Or.inr ⟨g, cap, cur, hv, Nat.le_trans hb hg, r⟩)⟩ ⟨hg1.os, hg1.tape, hg1.output, hg1.size, fun i hi _ => hg1.block i hi (by simp)⟩ (.inr hat1)
end Pw
end Go.Proofs.YtnmgdlmicgbapaaDoor
