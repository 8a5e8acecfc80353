/- The walks of the places: how a field's word or number is written, and read. -/
import Derived.Test.YtjloonijnbfhhaaDoorRRows
import Derived.Test.YtjloonijnbfhhaaDoorCallsCall
import Derived.WalkSmall
namespace Go.Proofs.YtjloonijnbfhhaaDoor
open Go.RowKit Go.Maps Go.WideShapes Qw

namespace Rw
/-- What the library's variables hold. -/
structure Vars (w : World) : Prop where
  tab : Lib.TabIs Tryd.prog w "internal/strconv.uint64pow10" .u64 Lib.pow10Tab
  bad : ∃ tp p, w.var? Tryd.prog "strconv.ErrSyntax" = some #[.iface tp p]
  out : ∃ tp p, w.var? Tryd.prog "strconv.ErrRange" = some #[.iface tp p]
theorem gBad : Tryd.prog.globalNamed "strconv.ErrSyntax" = some 4 := by kernel_rfl
theorem gOut : Tryd.prog.globalNamed "strconv.ErrRange" = some 5 := by kernel_rfl
theorem gTab : Tryd.prog.globalNamed "internal/strconv.uint64pow10" = some 3 := by kernel_rfl
theorem Vars.below {w w' : World} {B : Nat} (h : Vars w) (hb : Below B w w') (hB : 6 ≤ B) : Vars w' := by
  obtain ⟨h1, ⟨t1, p1, h2⟩, ⟨t2, p2, h3⟩⟩ := h
  exact ⟨var?_below hb gTab (by omega) h1, ⟨t1, p1, var?_below hb gBad (by omega) h2⟩, ⟨t2, p2, var?_below hb gOut (by omega) h3⟩⟩
theorem Vars.lt {w : World} (h : Vars w) : 6 ≤ w.heap.size := by
  obtain ⟨t2, p2, h3⟩ := h.out
  unfold World.var? at h3
  simp only [gOut, Option.bind_some] at h3
  by_cases hlt : 5 < w.heap.size
  · exact hlt
  · rw [Array.getElem?_eq_none (by omega)] at h3; cases h3

/-- A call of the plain laws, as a value. -/
def cv (c : Cl.PCall) : Value := .agg #[.int .i64 c.kind, .string (mk c.path), .string (mk c.other), .int .i64 c.off, .int .i64 c.size, .string (mk c.data)]
/-- A call's size. -/
def Sized (c : Cl.PCall) : Prop := c.path.length ≤ 100000000000 ∧ c.other.length ≤ 100000000000 ∧ c.data.length ≤ 100000000000
def offP : Nat → Nat
  | 0 => 1
  | 1 => 2
  | 2 => 5
  | 3 => 3
  | _ => 4
theorem below_over {w w' : World} {o : Obj} (h : Below (w.alloc o).heap.size (w.alloc o) w') : Below w.heap.size w w' := ((Below.refl _ _).alloc (Nat.le_refl _) _).trans (h.mono (by simp))
theorem grow_below (w : World) (k : Nat) (os : Array Obj) : Below w.heap.size w (Sort.grow (w.drewN k) os) :=
  ⟨rfl, rfl, rfl, by first | (simp [Sort.grow]; done) | (simp [Sort.grow]; omega), fun i hi => by
    show ((w.drewN k).heap ++ os)[i]? = _
    rw [Array.getElem?_append_left (by show i < w.heap.size; omega)]
    rfl⟩
/-- A call's fields, as cells. -/
def cvs (c : Cl.PCall) : Array Value := #[.int .i64 c.kind, .string (mk c.path), .string (mk c.other), .int .i64 c.off, .int .i64 c.size, .string (mk c.data)]
/-- The block g holds the call. -/
def Holds (w : World) (g : Nat) (c : Cl.PCall) : Prop := w.heap[g]? = some (.cells (cvs c) 23 (0, 0))
theorem Holds.lt {w : World} {g : Nat} {c : Cl.PCall} (h : Holds w g c) : g < w.heap.size := by
  by_cases hlt : g < w.heap.size
  · exact hlt
  · unfold Holds at h; rw [Array.getElem?_eq_none (by omega)] at h; cases h
theorem Holds.c0 {w : World} {g : Nat} {c : Cl.PCall} (h : Holds w g c) : w.cell? ⟨g, 0, none⟩ = some (.int .i64 c.kind) := by
  unfold Holds at h
  simp [World.cell?, h, cvs]
theorem Holds.c1 {w : World} {g : Nat} {c : Cl.PCall} (h : Holds w g c) : w.cell? ⟨g, 1, none⟩ = some (.string (mk c.path)) := by
  unfold Holds at h
  simp [World.cell?, h, cvs]
theorem Holds.c2 {w : World} {g : Nat} {c : Cl.PCall} (h : Holds w g c) : w.cell? ⟨g, 2, none⟩ = some (.string (mk c.other)) := by
  unfold Holds at h
  simp [World.cell?, h, cvs]
theorem Holds.c3 {w : World} {g : Nat} {c : Cl.PCall} (h : Holds w g c) : w.cell? ⟨g, 3, none⟩ = some (.int .i64 c.off) := by
  unfold Holds at h
  simp [World.cell?, h, cvs]
theorem Holds.c4 {w : World} {g : Nat} {c : Cl.PCall} (h : Holds w g c) : w.cell? ⟨g, 4, none⟩ = some (.int .i64 c.size) := by
  unfold Holds at h
  simp [World.cell?, h, cvs]
theorem Holds.c5 {w : World} {g : Nat} {c : Cl.PCall} (h : Holds w g c) : w.cell? ⟨g, 5, none⟩ = some (.string (mk c.data)) := by
  unfold Holds at h
  simp [World.cell?, h, cvs]
theorem Holds.z {w : World} {g : Nat} {c : Cl.PCall} (h : Holds w g c) (j : Nat) : w.frozen? ⟨g, j, none⟩ = false := by
  unfold Holds at h
  simp [World.frozen?, h]
theorem Holds.below {w w' : World} {g : Nat} {c : Cl.PCall} (h : Holds w g c) (hb : Below w.heap.size w w') : Holds w' g c := (hb.block g h.lt).trans h
theorem set_grown {w w1 : World} (hb : Below w.heap.size w w1) (g o : Nat) (v : Value) : w.grownBy (w1.setCell ⟨g, o, none⟩ v) (some g) :=
  ⟨hb.os, hb.tape, hb.output, by simpa using hb.size, fun k hk hne => (heap_setCell_other _ _ _ _ (fun e => hne (by rw [e]))).trans (hb.block k hk)⟩
theorem ue_eq (l : List UInt8) : (ue l == 0) = (Cl.unquote l).isSome := by
  unfold ue
  cases (Cl.unquote l) <;> rfl
/-- A text as a number that has one way to be written. -/
theorem whole_any (t : ByteArray) (w : World) (hs : t.size ≤ 1000000000000) (hv : Vars w) : Calls Tryd.prog 78 #[.string t] w fun e w' => (∃ n, e = .returned (.tuple #[.int .i64 n, .bool (Cl.num (bs t)).isSome]) ∧ (∀ m, Cl.num (bs t) = some m → n = m)) ∧ Below w.heap.size w w' := by
  rw [← Cl.whole_num]
  cases hp : Lib.parseIntB 64 (bs t) with
  | ok n =>
    have hW := Lib.hid (show Cl.whole (bs t) = if Lib.itoa n = bs t then some n else none by unfold Cl.whole; rw [hp])
    have hb0 : (-9223372036854775808 : Int) ≤ n ∧ n ≤ 9223372036854775807 := by
      have := Lib.parseIntB_bounds hp
      simp only [Nat.reduceSub, Nat.reducePow] at this
      omega
    go_enter Tryd.func78, Tryd.ntmps78
    go_wp2_with (first | (go_at_call 97; refine (Tryd.strconv_ParseInt_10_at64_ok _ (by omega) n hp _).mono ?_; rintro e w' ⟨rfl, hw⟩; have hb1 : Below w.heap.size w w' := hw.elim (fun h => h ▸ Below.refl _ _) (fun ⟨t, h⟩ => h ▸ Lib.bytesWorld_below _ _ _)) | (go_at_call 98; refine (Tryd.strconv_FormatInt_10 _ hb0.1 hb0.2 _ (hv.below hb1 hv.lt).tab).mono ?_; rintro e w2 ⟨rfl, k, os, rfl⟩))
    go_ret2
    refine ⟨⟨n, ?_, fun m hm => ?_⟩, hb1.trans ((grow_below _ _ _).mono hb1.size)⟩
    · rw [hW.out, toList_bs]
      refine ret_two rfl ?_
      by_cases e : Lib.itoa n = bs t
      · simp [e]
      · simp [e]
    · rw [hW.out] at hm
      split at hm
      · exact Option.some.inj hm
      · cases hm
  | _ =>
    go_enter Tryd.func78, Tryd.ntmps78
    obtain ⟨tp, p, hvar⟩ := hv.bad
    obtain ⟨tp2, p2, hvar2⟩ := hv.out
    go_wp2_with (first | (go_at_call 97; refine (Any.strconv_ParseInt_10_at64_syntax_var Tryd.laysC174 _ (by omega) hp tp p _ hvar).mono ?_; rintro e w' ⟨N, rfl, h1, h2, h3⟩) | (go_at_call 97; refine (Any.strconv_ParseInt_10_at64_range_var Tryd.laysC174 _ (by omega) hp tp2 p2 _ hvar2).mono ?_; rintro e w' ⟨N, rfl, h1, h2, h3⟩))
    all_goals
      have hW := Lib.hid (show Cl.whole (bs t) = none by unfold Cl.whole; rw [hp])
      go_ret2
      rw [hW.out]
      exact ⟨⟨_, rfl, fun m hm => by cases hm⟩, h3⟩
theorem fld0 (b o : Nat) (w : World) : Calls Tryd.prog 51 #[.pointer (some ⟨b, o, none⟩)] w fun e w' => e = .returned (.pointer (some ⟨b, o + 1, none⟩)) ∧ w' = w := by
  skip
  go_enter Tryd.func51, Tryd.ntmps51
  go_wp2
  go_ret
  exact ⟨rfl, rfl⟩

theorem fld1 (b o : Nat) (w : World) : Calls Tryd.prog 52 #[.pointer (some ⟨b, o, none⟩)] w fun e w' => e = .returned (.pointer (some ⟨b, o + 2, none⟩)) ∧ w' = w := by
  skip
  go_enter Tryd.func52, Tryd.ntmps52
  go_wp2
  go_ret
  exact ⟨rfl, rfl⟩

theorem fld2 (b o : Nat) (w : World) : Calls Tryd.prog 53 #[.pointer (some ⟨b, o, none⟩)] w fun e w' => e = .returned (.pointer (some ⟨b, o + 5, none⟩)) ∧ w' = w := by
  skip
  go_enter Tryd.func53, Tryd.ntmps53
  go_wp2
  go_ret
  exact ⟨rfl, rfl⟩

theorem fld3 (b o : Nat) (w : World) : Calls Tryd.prog 55 #[.pointer (some ⟨b, o, none⟩)] w fun e w' => e = .returned (.pointer (some ⟨b, o + 3, none⟩)) ∧ w' = w := by
  skip
  go_enter Tryd.func55, Tryd.ntmps55
  go_wp2
  go_ret
  exact ⟨rfl, rfl⟩

theorem fld4 (b o : Nat) (w : World) : Calls Tryd.prog 56 #[.pointer (some ⟨b, o, none⟩)] w fun e w' => e = .returned (.pointer (some ⟨b, o + 4, none⟩)) ∧ w' = w := by
  skip
  go_enter Tryd.func56, Tryd.ntmps56
  go_wp2
  go_ret
  exact ⟨rfl, rfl⟩

theorem write0 (c : Cl.PCall) (b : Nat) (w : World) (hs : Sized c) (hlt : b < w.heap.size) (hc : w.cell? ⟨b, 0, none⟩ = some (.func (Fn.func 51) #[] #[])) : Calls Tryd.prog 76 #[.agg #[.int .i64 c.kind, .string (mk c.path), .string (mk c.other), .int .i64 c.off, .int .i64 c.size, .string (mk c.data)], .pointer (some ⟨b, 0, none⟩)] w fun e w' => e = .returned (.string (mk (Cl.text c 0))) ∧ Below w.heap.size w w' := by
  have hs' : (mk c.path).size ≤ 1000000000000 := by have := hs.1; have := hs.2.1; have := hs.2.2; show c.path.length ≤ _; omega
  go_enter Tryd.func76, Tryd.ntmps76
  go_wp2_with (first | (go_at_call 51; refine (fld0 _ _ _).mono ?_; rintro e w' ⟨rfl, rfl⟩) | (go_at_call 11; refine (quote_any _ _ hs').mono ?_; rintro e w' ⟨rfl, hb⟩))
  go_ret
  exact ⟨rfl, below_over hb⟩

theorem write1 (c : Cl.PCall) (b : Nat) (w : World) (hs : Sized c) (hlt : b < w.heap.size) (hc : w.cell? ⟨b, 0, none⟩ = some (.func (Fn.func 52) #[] #[])) : Calls Tryd.prog 76 #[.agg #[.int .i64 c.kind, .string (mk c.path), .string (mk c.other), .int .i64 c.off, .int .i64 c.size, .string (mk c.data)], .pointer (some ⟨b, 0, none⟩)] w fun e w' => e = .returned (.string (mk (Cl.text c 1))) ∧ Below w.heap.size w w' := by
  have hs' : (mk c.other).size ≤ 1000000000000 := by have := hs.1; have := hs.2.1; have := hs.2.2; show c.other.length ≤ _; omega
  go_enter Tryd.func76, Tryd.ntmps76
  go_wp2_with (first | (go_at_call 52; refine (fld1 _ _ _).mono ?_; rintro e w' ⟨rfl, rfl⟩) | (go_at_call 11; refine (quote_any _ _ hs').mono ?_; rintro e w' ⟨rfl, hb⟩))
  go_ret
  exact ⟨rfl, below_over hb⟩

theorem write2 (c : Cl.PCall) (b : Nat) (w : World) (hs : Sized c) (hlt : b < w.heap.size) (hc : w.cell? ⟨b, 0, none⟩ = some (.func (Fn.func 53) #[] #[])) : Calls Tryd.prog 76 #[.agg #[.int .i64 c.kind, .string (mk c.path), .string (mk c.other), .int .i64 c.off, .int .i64 c.size, .string (mk c.data)], .pointer (some ⟨b, 0, none⟩)] w fun e w' => e = .returned (.string (mk (Cl.text c 2))) ∧ Below w.heap.size w w' := by
  have hs' : (mk c.data).size ≤ 1000000000000 := by have := hs.1; have := hs.2.1; have := hs.2.2; show c.data.length ≤ _; omega
  go_enter Tryd.func76, Tryd.ntmps76
  go_wp2_with (first | (go_at_call 53; refine (fld2 _ _ _).mono ?_; rintro e w' ⟨rfl, rfl⟩) | (go_at_call 11; refine (quote_any _ _ hs').mono ?_; rintro e w' ⟨rfl, hb⟩))
  go_ret
  exact ⟨rfl, below_over hb⟩

theorem write3 (c : Cl.PCall) (b : Nat) (w : World) (hs : Cl.Fits c) (hv : Vars w) (hlt : b < w.heap.size) (hc : w.cell? ⟨b, 0, none⟩ = some (.func (Fn.func 55) #[] #[])) : Calls Tryd.prog 79 #[.agg #[.int .i64 c.kind, .string (mk c.path), .string (mk c.other), .int .i64 c.off, .int .i64 c.size, .string (mk c.data)], .pointer (some ⟨b, 0, none⟩)] w fun e w' => e = .returned (.string (mk (Cl.text c 3))) ∧ Below w.heap.size w w' := by
  have hs' := hs.1
  go_enter Tryd.func79, Tryd.ntmps79
  go_wp2_with (first | (go_at_call 55; refine (fld3 _ _ _).mono ?_; rintro e w' ⟨rfl, rfl⟩) | (go_at_call 64; refine (Tryd.strconv_Itoa _ hs'.1 hs'.2 _ (hv.below ((Below.refl _ _).alloc (Nat.le_refl _) _) hv.lt).tab).mono ?_; rintro e w' ⟨rfl, k, os, rfl⟩))
  go_ret
  exact ⟨rfl, below_over (grow_below _ _ _)⟩

theorem write4 (c : Cl.PCall) (b : Nat) (w : World) (hs : Cl.Fits c) (hv : Vars w) (hlt : b < w.heap.size) (hc : w.cell? ⟨b, 0, none⟩ = some (.func (Fn.func 56) #[] #[])) : Calls Tryd.prog 79 #[.agg #[.int .i64 c.kind, .string (mk c.path), .string (mk c.other), .int .i64 c.off, .int .i64 c.size, .string (mk c.data)], .pointer (some ⟨b, 0, none⟩)] w fun e w' => e = .returned (.string (mk (Cl.text c 4))) ∧ Below w.heap.size w w' := by
  have hs' := hs.2
  go_enter Tryd.func79, Tryd.ntmps79
  go_wp2_with (first | (go_at_call 56; refine (fld4 _ _ _).mono ?_; rintro e w' ⟨rfl, rfl⟩) | (go_at_call 64; refine (Tryd.strconv_Itoa _ hs'.1 hs'.2 _ (hv.below ((Below.refl _ _).alloc (Nat.le_refl _) _) hv.lt).tab).mono ?_; rintro e w' ⟨rfl, k, os, rfl⟩))
  go_ret
  exact ⟨rfl, below_over (grow_below _ _ _)⟩

theorem read0 (t : ByteArray) (b g : Nat) (d : Cl.PCall) (w : World) (hs : t.size ≤ 1000000000000) (hlt : b < w.heap.size) (hc : w.cell? ⟨b, 0, none⟩ = some (.func (Fn.func 51) #[] #[])) (hH : Holds w g d) : Calls Tryd.prog 75 #[.pointer (some ⟨g, 0, none⟩), .string t, .pointer (some ⟨b, 0, none⟩)] w fun e w' => e = .returned (.bool (Cl.put d (bs t) 0).isSome) ∧ w.grownBy w' (some g) ∧ (∀ e', Cl.put d (bs t) 0 = some e' → Holds w' g e') := by
  go_enter Tryd.func75, Tryd.ntmps75
  go_wp2_with (first | (go_at_call 9; refine (unquote_any _ _ hs).mono ?_; rintro e w' ⟨rfl, hb⟩; have hc' := (hb.cell (p := ⟨b, 0, none⟩) hlt).trans hc; have hr' := (hb.cell (p := ⟨g, 1, none⟩) hH.lt).trans hH.c1; have hz' := (hb.frozen (p := ⟨g, 1, none⟩) hH.lt).trans (hH.z 1)) | (go_at_call 51; refine (fld0 _ _ _).mono ?_; rintro e w' ⟨rfl, rfl⟩))
  go_ret
  refine ⟨by rw [ue_eq]; exact ret_bool (by simp [Cl.put]), ?_, fun e' he => ?_⟩
  · exact set_grown hb _ _ _
  · rw [Cl.put, Option.map_eq_some_iff] at he
    obtain ⟨x, hx, rfl⟩ := he
    rw [ux, hx]
    exact (heap_setCell_same _ _ _ _ _ _ (hH.below hb))

theorem read1 (t : ByteArray) (b g : Nat) (d : Cl.PCall) (w : World) (hs : t.size ≤ 1000000000000) (hlt : b < w.heap.size) (hc : w.cell? ⟨b, 0, none⟩ = some (.func (Fn.func 52) #[] #[])) (hH : Holds w g d) : Calls Tryd.prog 75 #[.pointer (some ⟨g, 0, none⟩), .string t, .pointer (some ⟨b, 0, none⟩)] w fun e w' => e = .returned (.bool (Cl.put d (bs t) 1).isSome) ∧ w.grownBy w' (some g) ∧ (∀ e', Cl.put d (bs t) 1 = some e' → Holds w' g e') := by
  go_enter Tryd.func75, Tryd.ntmps75
  go_wp2_with (first | (go_at_call 9; refine (unquote_any _ _ hs).mono ?_; rintro e w' ⟨rfl, hb⟩; have hc' := (hb.cell (p := ⟨b, 0, none⟩) hlt).trans hc; have hr' := (hb.cell (p := ⟨g, 2, none⟩) hH.lt).trans hH.c2; have hz' := (hb.frozen (p := ⟨g, 2, none⟩) hH.lt).trans (hH.z 2)) | (go_at_call 52; refine (fld1 _ _ _).mono ?_; rintro e w' ⟨rfl, rfl⟩))
  go_ret
  refine ⟨by rw [ue_eq]; exact ret_bool (by simp [Cl.put]), ?_, fun e' he => ?_⟩
  · exact set_grown hb _ _ _
  · rw [Cl.put, Option.map_eq_some_iff] at he
    obtain ⟨x, hx, rfl⟩ := he
    rw [ux, hx]
    exact (heap_setCell_same _ _ _ _ _ _ (hH.below hb))

theorem read2 (t : ByteArray) (b g : Nat) (d : Cl.PCall) (w : World) (hs : t.size ≤ 1000000000000) (hlt : b < w.heap.size) (hc : w.cell? ⟨b, 0, none⟩ = some (.func (Fn.func 53) #[] #[])) (hH : Holds w g d) : Calls Tryd.prog 75 #[.pointer (some ⟨g, 0, none⟩), .string t, .pointer (some ⟨b, 0, none⟩)] w fun e w' => e = .returned (.bool (Cl.put d (bs t) 2).isSome) ∧ w.grownBy w' (some g) ∧ (∀ e', Cl.put d (bs t) 2 = some e' → Holds w' g e') := by
  go_enter Tryd.func75, Tryd.ntmps75
  go_wp2_with (first | (go_at_call 9; refine (unquote_any _ _ hs).mono ?_; rintro e w' ⟨rfl, hb⟩; have hc' := (hb.cell (p := ⟨b, 0, none⟩) hlt).trans hc; have hr' := (hb.cell (p := ⟨g, 5, none⟩) hH.lt).trans hH.c5; have hz' := (hb.frozen (p := ⟨g, 5, none⟩) hH.lt).trans (hH.z 5)) | (go_at_call 53; refine (fld2 _ _ _).mono ?_; rintro e w' ⟨rfl, rfl⟩))
  go_ret
  refine ⟨by rw [ue_eq]; exact ret_bool (by simp [Cl.put]), ?_, fun e' he => ?_⟩
  · exact set_grown hb _ _ _
  · rw [Cl.put, Option.map_eq_some_iff] at he
    obtain ⟨x, hx, rfl⟩ := he
    rw [ux, hx]
    exact (heap_setCell_same _ _ _ _ _ _ (hH.below hb))

theorem read3 (t : ByteArray) (b g : Nat) (d : Cl.PCall) (w : World) (hs : t.size ≤ 1000000000000) (hv : Vars w) (hlt : b < w.heap.size) (hc : w.cell? ⟨b, 0, none⟩ = some (.func (Fn.func 55) #[] #[])) (hH : Holds w g d) : Calls Tryd.prog 77 #[.pointer (some ⟨g, 0, none⟩), .string t, .pointer (some ⟨b, 0, none⟩)] w fun e w' => e = .returned (.bool (Cl.put d (bs t) 3).isSome) ∧ w.grownBy w' (some g) ∧ (∀ e', Cl.put d (bs t) 3 = some e' → Holds w' g e') := by
  go_enter Tryd.func77, Tryd.ntmps77
  go_wp2_with (first | (go_at_call 78; refine (whole_any _ _ hs hv).mono ?_; rintro e w' ⟨⟨n, rfl, hn⟩, hb⟩; have hc' := (hb.cell (p := ⟨b, 0, none⟩) hlt).trans hc; have hr' := (hb.cell (p := ⟨g, 3, none⟩) hH.lt).trans hH.c3; have hz' := (hb.frozen (p := ⟨g, 3, none⟩) hH.lt).trans (hH.z 3)) | (go_at_call 55; refine (fld3 _ _ _).mono ?_; rintro e w' ⟨rfl, rfl⟩))
  go_ret
  refine ⟨ret_bool (by simp [Cl.put]), ?_, fun e' he => ?_⟩
  · exact set_grown hb _ _ _
  · rw [Cl.put, Option.map_eq_some_iff] at he
    obtain ⟨x, hx, rfl⟩ := he
    rw [hn x hx]
    exact (heap_setCell_same _ _ _ _ _ _ (hH.below hb))

theorem read4 (t : ByteArray) (b g : Nat) (d : Cl.PCall) (w : World) (hs : t.size ≤ 1000000000000) (hv : Vars w) (hlt : b < w.heap.size) (hc : w.cell? ⟨b, 0, none⟩ = some (.func (Fn.func 56) #[] #[])) (hH : Holds w g d) : Calls Tryd.prog 77 #[.pointer (some ⟨g, 0, none⟩), .string t, .pointer (some ⟨b, 0, none⟩)] w fun e w' => e = .returned (.bool (Cl.put d (bs t) 4).isSome) ∧ w.grownBy w' (some g) ∧ (∀ e', Cl.put d (bs t) 4 = some e' → Holds w' g e') := by
  go_enter Tryd.func77, Tryd.ntmps77
  go_wp2_with (first | (go_at_call 78; refine (whole_any _ _ hs hv).mono ?_; rintro e w' ⟨⟨n, rfl, hn⟩, hb⟩; have hc' := (hb.cell (p := ⟨b, 0, none⟩) hlt).trans hc; have hr' := (hb.cell (p := ⟨g, 4, none⟩) hH.lt).trans hH.c4; have hz' := (hb.frozen (p := ⟨g, 4, none⟩) hH.lt).trans (hH.z 4)) | (go_at_call 56; refine (fld4 _ _ _).mono ?_; rintro e w' ⟨rfl, rfl⟩))
  go_ret
  refine ⟨ret_bool (by simp [Cl.put]), ?_, fun e' he => ?_⟩
  · exact set_grown hb _ _ _
  · rw [Cl.put, Option.map_eq_some_iff] at he
    obtain ⟨x, hx, rfl⟩ := he
    rw [hn x hx]
    exact (heap_setCell_same _ _ _ _ _ _ (hH.below hb))


end Rw
end Go.Proofs.YtjloonijnbfhhaaDoor
