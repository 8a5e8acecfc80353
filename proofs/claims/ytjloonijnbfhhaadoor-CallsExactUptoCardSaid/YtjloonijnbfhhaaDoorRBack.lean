/- The walk of CallsBack: a printed call is parsed again, whatever blanks; unlike calls are printed unlike. -/
import Derived.Test.YtjloonijnbfhhaaDoorROnce
import Derived.Test.YtjloonijnbfhhaaDoorCallsScan
import Derived.Deep.LoopGhost
namespace Go.Proofs.YtjloonijnbfhhaaDoor
open Go.RowKit Go.Maps Go.WideShapes Qw

namespace Rw
theorem print_out (c : Cl.PCall) (w : World) (hk : Cl.inRange c.kind) (hn : ¬ (1 ≤ c.kind ∧ c.kind ≤ 15)) : Calls Tryd.prog 15 #[.agg #[.int .i64 c.kind, .string (mk c.path), .string (mk c.other), .int .i64 c.off, .int .i64 c.size, .string (mk c.data)]] w fun e w' => e = .returned (.tuple #[.string ⟨#[]⟩, .int .i64 1]) ∧ Below w.heap.size w w' := print_none c w hk hn
theorem print_str (c : Cl.PCall) (w : World) (S : ByteArray) (h : Cl.print c = some (bs S)) (hs : Sized c) (hf : Cl.Fits c) (hv : Vars w) : Calls Tryd.prog 15 #[.agg #[.int .i64 c.kind, .string (mk c.path), .string (mk c.other), .int .i64 c.off, .int .i64 c.size, .string (mk c.data)]] w fun e w' => e = .returned (.tuple #[.string S, .int .i64 0]) ∧ Below w.heap.size w w' := print_yes c w (bs S) h hs hf hv
theorem own_is (c : Cl.PCall) (w : World) (h1 : 1 ≤ c.kind) (h2 : c.kind ≤ 15) : Calls Tryd.prog 21 #[.agg #[.int .i64 c.kind, .string (mk c.path), .string (mk c.other), .int .i64 c.off, .int .i64 c.size, .string (mk c.data)]] w fun e w' => e = .returned (.agg #[.int .i64 (Cl.own c).kind, .string (mk (Cl.own c).path), .string (mk (Cl.own c).other), .int .i64 (Cl.own c).off, .int .i64 (Cl.own c).size, .string (mk (Cl.own c).data)]) ∧ Below w.heap.size w w' := own_any c w h1 h2
theorem two_blocks {w w1 : World} {oC oD : Obj} (hb : Below ((w.alloc oC).alloc oD).heap.size ((w.alloc oC).alloc oD) w1) : w1.heap[w.heap.size]? = some oC ∧ w1.heap[w.heap.size + 1]? = some oD ∧ Below w.heap.size w w1 ∧ w.heap.size + 1 < w1.heap.size := by
  have hs := hb.size
  simp only [World.size_alloc] at hs
  exact ⟨(hb.block _ (by simp; omega)).trans ((heap_alloc_old _ _ (by simp)).trans (heap_alloc_new _ _)), (hb.block _ (by simp)).trans (heap_second _ _ _), below_over (below_over hb), by omega⟩

set_option maxRecDepth 100000 in
set_option maxHeartbeats 4000000 in
theorem back_out (c d : Cl.PCall) (n : Int) (w : World) (hk : Cl.inRange c.kind) (hn : ¬ (1 ≤ c.kind ∧ c.kind ≤ 15)) (hv : Vars w) : Calls Tryd.prog 5 #[.agg #[.int .i64 c.kind, .string (mk c.path), .string (mk c.other), .int .i64 c.off, .int .i64 c.size, .string (mk c.data)], .agg #[.int .i64 d.kind, .string (mk d.path), .string (mk d.other), .int .i64 d.off, .int .i64 d.size, .string (mk d.data)], .int .i64 n] w fun e w' => e = .returned (.bool true) ∧ Below w.heap.size w w' := by
  have HN := Lib.hid hn
  rcases (show c.kind < 1 ∨ (1 ≤ c.kind ∧ 15 < c.kind) by omega) with h | ⟨h, h'⟩
  all_goals
    clear hn
    go_enter Tryd.func5, Tryd.ntmps5
    go_wp2_with fail
    refine (known_any _ (hv.below (Below.alloc (Below.alloc (Below.refl _ _) (Nat.le_refl _) _) (by simp) _) hv.lt)).mono ?_
    rintro e w1 ⟨rfl, hb1⟩
    obtain ⟨hC1, hD1, hB1, hl1⟩ := two_blocks hb1
    have hC : Holds w1 w.heap.size c := hC1
    obtain ⟨c0, c1, c2, c3, c4, c5⟩ := hC.cells
    go_wp2_with fail
    refine (print_out c _ hk HN.out).mono ?_
    rintro e w2 ⟨rfl, hb2⟩
    have hC2 : Holds w2 w.heap.size c := hC.below hb2
    have e0 := hC2.c0
    go_wp2_with (go_at_call 19; refine (num_any _ _).mono ?_; rintro e w' ⟨rfl, rfl⟩)
    go_ret
    exact ⟨rfl, hB1.trans (hb2.mono (by omega))⟩

/-! ### the scan, step by step -/
theorem st_back (q : Bool) (c : UInt8) (odd : Bool) : Cl.st (q, true) c = (q, false) ∧ Cl.bl odd (q, true) c = [c] := by simp [Cl.st, Cl.bl]
theorem st_esc (odd : Bool) : Cl.st (true, false) 92 = (true, true) ∧ Cl.bl odd (true, false) 92 = [92] := by simp [Cl.st, Cl.bl]
theorem st_quote (q : Bool) (odd : Bool) : Cl.st (q, false) 34 = (!q, false) ∧ Cl.bl odd (q, false) 34 = [34] := by cases q <;> simp [Cl.st, Cl.bl]
theorem st_in (c : UInt8) (odd : Bool) (h1 : c ≠ 92) (h2 : c ≠ 34) : Cl.st (true, false) c = (true, false) ∧ Cl.bl odd (true, false) c = [c] := by simp [Cl.st, Cl.bl, h1, h2]
theorem st_blank (odd : Bool) : Cl.st (false, false) 32 = (false, false) ∧ Cl.bl odd (false, false) 32 = if odd = true then [32, 32, 32] else [32] := by cases odd <;> simp [Cl.st, Cl.bl]
theorem st_out (c : UInt8) (odd : Bool) (h1 : c ≠ 34) (h2 : c ≠ 32) : Cl.st (false, false) c = (false, false) ∧ Cl.bl odd (false, false) c = [c] := by simp [Cl.st, Cl.bl, h1, h2]
/-- What has been scanned ahead of a place. -/
def sc (odd : Bool) (l : List UInt8) (k : Nat) : List UInt8 := Cl.scan odd (false, false) (l.take k)
def ss (l : List UInt8) (k : Nat) : Bool × Bool := (l.take k).foldl Cl.st (false, false)
theorem sc_succ (odd : Bool) (s : ByteArray) (k : Nat) (h : k < s.size) {p q : Bool × Bool} {o : List UInt8} (hp : ss (bs s) k = p) (hq : Cl.st p s[k] = q ∧ Cl.bl odd p s[k] = o) : sc odd (bs s) (k + 1) = sc odd (bs s) k ++ o ∧ ss (bs s) (k + 1) = q := by
  unfold sc ss at *
  rw [bs_take_succ s k h, Cl.scan_snoc, Cl.st_snoc, hp, hq.1, hq.2]
  exact ⟨rfl, rfl⟩
theorem sc_len (odd : Bool) (l : List UInt8) (k : Nat) : (sc odd l k).length ≤ 3 * k := by
  have h1 := Cl.scan_len odd (l.take k) (false, false)
  have h2 := List.length_take_le k l
  unfold sc; omega
theorem sc_all (odd : Bool) (s : ByteArray) : sc odd (bs s) s.size = Cl.scan odd (false, false) (bs s) := by
  unfold sc; rw [List.take_of_length_le (by rw [bs_len]; exact Nat.le_refl _)]
theorem str_eq (a b : List UInt8) : ((mk a).toList = (mk b).toList) = (a = b) := by rw [toList_bs, toList_bs]; rfl
set_option maxRecDepth 100000 in
theorem run_eql_call (A B : Cl.PCall) (w : World) : (binOp .eql 23 (.agg #[.int .i64 A.kind, .string (mk A.path), .string (mk A.other), .int .i64 A.off, .int .i64 A.size, .string (mk A.data)]) (.agg #[.int .i64 B.kind, .string (mk B.path), .string (mk B.other), .int .i64 B.off, .int .i64 B.size, .string (mk B.data)])).run Tryd.prog w = .ok (.bool (decide (A = B))) w := by
  simp only [binOp]
  simp [Op.equal, Op.maxDepth, go_sem]
  simp only [str_eq]
  obtain ⟨k, p, o, da, f, z⟩ := A
  obtain ⟨k', p', o', da', f', z'⟩ := B
  simp only [Cl.PCall.mk.injEq]
  repeat' split
  all_goals simp_all
theorem back_eq {c d : Cl.PCall} {S : ByteArray} {td : List UInt8} (hc : Cl.Fits c) (hd : Cl.Fits d) (h1 : Cl.print c = some (bs S)) (h2 : Cl.print d = some td) : ((S.toList == (mk td).toList) == decide (Cl.own c = Cl.own d)) = true := by
  rw [beq_iff_eq, Bool.eq_iff_iff, beq_iff_eq, decide_eq_true_eq, toList_bs, toList_bs, bs_mk, ← Cl.print_eq hc hd h1, h2]
  exact ⟨fun e => by rw [e], fun e => (Option.some.inj e).symm⟩
theorem odd_of (n : Int) : (n.tmod 2 != 0) = !decide (n.tmod 2 = 0) := by cases h : decide (n.tmod 2 = 0) <;> simp_all

set_option maxRecDepth 100000 in
set_option maxHeartbeats 8000000 in
theorem back_any (c d : Cl.PCall) (n : Int) (w : World) (hk1 : 1 ≤ c.kind) (hk2 : c.kind ≤ 15) (hsc : Cl.Small 1048576 c) (hfc : Cl.Fits c) (hfd : Cl.Fits d) (hn : Cl.inRange n) (hv : Vars w) (S : ByteArray) (td : List UInt8) (ed : Int) (hS : Cl.print c = some (bs S)) (hSz : S.size ≤ 20000000)
    (hd : ∀ W, Vars W → Calls Tryd.prog 15 #[.agg #[.int .i64 d.kind, .string (mk d.path), .string (mk d.other), .int .i64 d.off, .int .i64 d.size, .string (mk d.data)]] W fun e w' => e = .returned (.tuple #[.string (mk td), .int .i64 ed]) ∧ Below W.heap.size W w')
    (hdk : (d.kind = c.kind ∧ ed = 0 ∧ Cl.print d = some td) ∨ (d.kind ≠ c.kind ∧ (S.toList == (mk td).toList) = false)) :
    Calls Tryd.prog 5 #[.agg #[.int .i64 c.kind, .string (mk c.path), .string (mk c.other), .int .i64 c.off, .int .i64 c.size, .string (mk c.data)], .agg #[.int .i64 d.kind, .string (mk d.path), .string (mk d.other), .int .i64 d.off, .int .i64 d.size, .string (mk d.data)], .int .i64 n] w fun e w' => e = .returned (.bool true) ∧ Below w.heap.size w w' := by
  obtain ⟨odd, hod⟩ : ∃ odd, (n.tmod 2 != 0) = odd := ⟨_, rfl⟩
  have HOD := Lib.hid hod
  have HQ := Lib.hid (Cl.parse_print hfc hS)
  have hmore : Cl.parse (bs ((⟨#[32, 32]⟩ : ByteArray) ++ mk (sc odd (bs S) S.size) ++ ⟨#[32]⟩)) = some (Cl.own c) := by
    have e : bs ((⟨#[32, 32]⟩ : ByteArray) ++ mk (sc odd (bs S) S.size) ++ ⟨#[32]⟩) = 32 :: 32 :: (Cl.scan odd (false, false) (bs S) ++ [32]) := by
      rw [sc_all]; simp [bs, mk]
    rw [e]; exact Cl.parse_more hfc hS odd
  have HM := Lib.hid hmore
  have HS := Lib.hid hS
  have HD := Lib.hid hd
  have HDK := Lib.hid hdk
  have HCH := Lib.hid (fun k (hk : k < S.size) => (Cl.print_chars hS S[k] (List.mem_of_getElem? (bs_get S k hk))))
  have hs1 : Sized c := by obtain ⟨a1, a2, a3⟩ := hsc; exact ⟨by omega, by omega, by omega⟩
  have hSz2 : S.size ≤ 1000000000000 := by omega
  have hko1 : 1 ≤ (Cl.own c).kind := by rw [Cl.own_kind]; exact hk1
  have HKO := Lib.hid (Cl.own_kind c)
  have hn1 := hn.1
  have hn2 := hn.2
  have HFD := Lib.hid hfd
  have HFC := Lib.hid hfc
  clear hod hmore hS hd hdk hsc hfc hfd hn hko1
  go_enter Tryd.func5, Tryd.ntmps5
  go_wp2_with fail
  refine (known_any _ (hv.below (Below.alloc (Below.alloc (Below.refl _ _) (Nat.le_refl _) _) (by simp) _) hv.lt)).mono ?_
  rintro e w1 ⟨rfl, hb1⟩
  obtain ⟨hC1, hD1, hB1, hl1⟩ := two_blocks hb1
  have hC : Holds w1 w.heap.size c := hC1
  have hD : Holds w1 (w.heap.size + 1) d := hD1
  have hv1 : Vars w1 := hv.below hB1 hv.lt
  have hz1 := hB1.size
  clear hC1 hD1 hb1
  obtain ⟨c0, c1, c2, c3, c4, c5⟩ := hC.cells
  go_wp2_with fail
  refine (print_str c _ S HS.out hs1 HFC.out hv1).mono ?_
  rintro e w2 ⟨rfl, hb2⟩
  have hC2 : Holds w2 w.heap.size c := hC.below hb2
  have hD2 : Holds w2 (w.heap.size + 1) d := hD.below hb2
  have hv2 : Vars w2 := hv1.below hb2 hv1.lt
  have hz2 := hb2.size
  have hB2 := hB1.trans (hb2.mono hz1)
  clear c0 c1 c2 c3 c4 c5 hC hD hb2
  obtain ⟨c0, c1, c2, c3, c4, c5⟩ := hC2.cells
  go_wp2_with fail
  refine (parse_yes S _ hSz2 hv2 (Cl.own c) HQ.out).mono ?_
  rintro e w3 ⟨rfl, hb3⟩
  have hC3 : Holds w3 w.heap.size c := hC2.below hb3
  have hD3 : Holds w3 (w.heap.size + 1) d := hD2.below hb3
  have hv3 : Vars w3 := hv2.below hb3 hv2.lt
  have hz3 := hb3.size
  have hB3 := hB2.trans (hb3.mono (by omega))
  clear c0 c1 c2 c3 c4 c5 hC2 hD2 hb3
  go_wp2
  have hC4 : Holds (w3.alloc (.cells #[.int .i64 (Cl.own c).kind, .string (mk (Cl.own c).path), .string (mk (Cl.own c).other), .int .i64 (Cl.own c).off, .int .i64 (Cl.own c).size, .string (mk (Cl.own c).data)] 23)) w.heap.size c := (heap_alloc_old _ _ hC3.lt).trans hC3
  have hD4 : Holds (w3.alloc (.cells #[.int .i64 (Cl.own c).kind, .string (mk (Cl.own c).path), .string (mk (Cl.own c).other), .int .i64 (Cl.own c).off, .int .i64 (Cl.own c).size, .string (mk (Cl.own c).data)] 23)) (w.heap.size + 1) d := (heap_alloc_old _ _ hD3.lt).trans hD3
  have hX4 : Holds (w3.alloc (.cells #[.int .i64 (Cl.own c).kind, .string (mk (Cl.own c).path), .string (mk (Cl.own c).other), .int .i64 (Cl.own c).off, .int .i64 (Cl.own c).size, .string (mk (Cl.own c).data)] 23)) w3.heap.size (Cl.own c) := holds_alloc
  have hB4 := hB3.alloc (by omega) (.cells #[.int .i64 (Cl.own c).kind, .string (mk (Cl.own c).path), .string (mk (Cl.own c).other), .int .i64 (Cl.own c).off, .int .i64 (Cl.own c).size, .string (mk (Cl.own c).data)] 23)
  have hv4 : Vars (w3.alloc (.cells #[.int .i64 (Cl.own c).kind, .string (mk (Cl.own c).path), .string (mk (Cl.own c).other), .int .i64 (Cl.own c).off, .int .i64 (Cl.own c).size, .string (mk (Cl.own c).data)] 23)) := hv3.below ((Below.refl _ _).alloc (Nat.le_refl _) _) hv3.lt
  generalize w3.alloc (.cells #[.int .i64 (Cl.own c).kind, .string (mk (Cl.own c).path), .string (mk (Cl.own c).other), .int .i64 (Cl.own c).off, .int .i64 (Cl.own c).size, .string (mk (Cl.own c).data)] 23) = W4 at *
  generalize w3.heap.size = gx at *
  have lc := hC4.lt
  have ld := hD4.lt
  have lx := hX4.lt
  obtain ⟨c0, c1, c2, c3, c4, c5⟩ := hC4.cells
  obtain ⟨x0, x1, x2, x3, x4, x5⟩ := hX4.cells
  have HV4 := Lib.hid hv4
  have HC4 := Lib.hid hC4
  have HD4 := Lib.hid hD4
  have HX4 := Lib.hid hX4
  have HB4 := Lib.hid hB4
  clear hC3 hD3 hv hv1 hv2 hv3 hB1 hB2 hB3 hz1 hz2 hz3 hC4 hD4 hX4 hB4 hv4 hl1
  go_region_held3 (fun w' => w'.cell? ⟨w.heap.size, 0, none⟩ = some (.int .i64 c.kind) ∧ w'.cell? ⟨w.heap.size, 1, none⟩ = some (.string (mk c.path)) ∧ w'.cell? ⟨w.heap.size, 2, none⟩ = some (.string (mk c.other)) ∧ w'.cell? ⟨w.heap.size, 3, none⟩ = some (.int .i64 c.off) ∧ w'.cell? ⟨w.heap.size, 4, none⟩ = some (.int .i64 c.size) ∧ w'.cell? ⟨w.heap.size, 5, none⟩ = some (.string (mk c.data)) ∧ w'.cell? ⟨gx, 0, none⟩ = some (.int .i64 (Cl.own c).kind) ∧ w'.cell? ⟨gx, 1, none⟩ = some (.string (mk (Cl.own c).path)) ∧ w'.cell? ⟨gx, 2, none⟩ = some (.string (mk (Cl.own c).other)) ∧ w'.cell? ⟨gx, 3, none⟩ = some (.int .i64 (Cl.own c).off) ∧ w'.cell? ⟨gx, 4, none⟩ = some (.int .i64 (Cl.own c).size) ∧ w'.cell? ⟨gx, 5, none⟩ = some (.string (mk (Cl.own c).data))) (go_keep)
    ((first
      | (go_at_call 19; refine (num_any _ _).mono ?_; rintro e w' ⟨rfl, rfl⟩)
      | (go_at_call 21; refine (own_is c _ hk1 hk2).mono ?_; rintro e w5 ⟨rfl, hb5⟩; have c'0 := (hb5.cell (p := ⟨w.heap.size, 0, none⟩) lc).trans c0; have c'1 := (hb5.cell (p := ⟨w.heap.size, 1, none⟩) lc).trans c1; have c'2 := (hb5.cell (p := ⟨w.heap.size, 2, none⟩) lc).trans c2; have c'3 := (hb5.cell (p := ⟨w.heap.size, 3, none⟩) lc).trans c3; have c'4 := (hb5.cell (p := ⟨w.heap.size, 4, none⟩) lc).trans c4; have c'5 := (hb5.cell (p := ⟨w.heap.size, 5, none⟩) lc).trans c5; have x'0 := (hb5.cell (p := ⟨gx, 0, none⟩) lx).trans x0; have x'1 := (hb5.cell (p := ⟨gx, 1, none⟩) lx).trans x1; have x'2 := (hb5.cell (p := ⟨gx, 2, none⟩) lx).trans x2; have x'3 := (hb5.cell (p := ⟨gx, 3, none⟩) lx).trans x3; have x'4 := (hb5.cell (p := ⟨gx, 4, none⟩) lx).trans x4; have x'5 := (hb5.cell (p := ⟨gx, 5, none⟩) lx).trans x5)))
  all_goals
    have hb5' : Below W4.heap.size W4 w5 := ⟨hb5.os, hb5.tape, hb5.output, hb5.size, hb5.block⟩
    have hC5 : Holds w5 w.heap.size c := HC4.out.below hb5'
    have hD5 : Holds w5 (w.heap.size + 1) d := HD4.out.below hb5'
    have hX5 : Holds w5 gx (Cl.own c) := HX4.out.below hb5'
    have hv5 : Vars w5 := HV4.out.below hb5' HV4.out.lt
    have hB5 := HB4.out.trans (hb5'.mono HB4.out.size)
    clear hb5
    clear lc ld lx c0 c1 c2 c3 c4 c5 x0 x1 x2 x3 x4 x5
    go_wp2
    go_loopw [11, 12, 13, 14] (fun s11 s12 s13 s14 wr => ∃ (k : Nat) (p : Bool × Bool), k ≤ S.size ∧ s14 = .int .i64 k ∧ s12 = .bool p.1 ∧ s13 = .bool p.2 ∧ ss (bs S) k = p ∧ wr.ownsRow w5.heap.size 5 1 s11 (sc odd (bs S) k).length (bytesV (sc odd (bs S) k)) ∧ Below w5.heap.size w5 wr) (fun _ _ _ s14 _ => S.size - (intOf s14).toNat)
    case atStart => exact ⟨0, (false, false), Nat.zero_le _, rfl, rfl, rfl, rfl, World.ownsRow_nil _ _ _ _, Below.refl _ _⟩
    case round =>
      obtain ⟨k, p, hk, rfl, rfl, rfl, hp, hown, hnx⟩ := hrel
      have HP := Lib.hid hp
      have hsz := hnx.size
      have hpl := sc_len odd (bs S) k
      clear hp
      by_cases hlt : k < S.size
      · have h10 := (HCH.out k hlt).1
        have g10 : ((S[k].toNat : Int) == 10) = false := by
          have := UInt8.le_iff_toNat_le.1 h10
          have e : (32 : UInt8).toNat = 32 := rfl
          rw [beq_eq_false_iff_ne]; omega
        clear h10
        obtain ⟨q, b⟩ := p
        have hc92 : S[k].toNat = 92 ∨ S[k].toNat ≠ 92 := Classical.em _
        have hc34 : S[k].toNat = 34 ∨ S[k].toNat ≠ 34 := Classical.em _
        have hc32 : S[k].toNat = 32 ∨ S[k].toNat ≠ 32 := Classical.em _
        cases b with
        | true =>
          cases q
          · have hcx := True.intro
            have HL := Lib.hid (sc_succ odd S k hlt HP.out (st_back false S[k] odd))
            clear hc92 hc34 hc32
            go_wp2_with (at_builtin; refine wpList_append_bytes bytesT wr rfl _ _ rfl _ w5.heap.size _ (sc odd (bs S) k) [S[k]] 1 (by first | rfl | (simp only [bytesV, List.map_cons, List.map_nil, hcx]; rfl)) (by rfl) (by rfl) hown (by rfl) (by simp only [List.length_cons, List.length_nil]; omega) hsz ?_; intro v1 x1 ho1 hg1 _)
            go_roundw
            case rel =>
              refine ⟨k + 1, ((false, false) : Bool × Bool), by omega, by go_num, rfl, rfl, HL.out.2, ?_, hnx.grown hg1 hsz (fun j hj => (hown.lt j hj).1)⟩
              rw [HL.out.1]; exact ho1
            case measure => simp [intOf]; omega
          · have hcx := True.intro
            have HL := Lib.hid (sc_succ odd S k hlt HP.out (st_back true S[k] odd))
            clear hc92 hc34 hc32
            go_wp2_with (at_builtin; refine wpList_append_bytes bytesT wr rfl _ _ rfl _ w5.heap.size _ (sc odd (bs S) k) [S[k]] 1 (by first | rfl | (simp only [bytesV, List.map_cons, List.map_nil, hcx]; rfl)) (by rfl) (by rfl) hown (by rfl) (by simp only [List.length_cons, List.length_nil]; omega) hsz ?_; intro v1 x1 ho1 hg1 _)
            go_roundw
            case rel =>
              refine ⟨k + 1, ((true, false) : Bool × Bool), by omega, by go_num, rfl, rfl, HL.out.2, ?_, hnx.grown hg1 hsz (fun j hj => (hown.lt j hj).1)⟩
              rw [HL.out.1]; exact ho1
            case measure => simp [intOf]; omega
        | false =>
          cases q with
          | true =>
            rcases hc92 with hc92 | hc92
            · have hcx : S[k].toNat = 92 := hc92
              have hu : S[k] = 92 := (u8_eq (n := 92) (by omega)).2 hc92
              have HL := Lib.hid (sc_succ odd S k hlt HP.out (q := (true, true)) (o := [S[k]]) (by rw [hu]; exact st_esc odd))
              clear hu
              clear hc92 hc34 hc32
              go_wp2_with (at_builtin; refine wpList_append_bytes bytesT wr rfl _ _ rfl _ w5.heap.size _ (sc odd (bs S) k) [S[k]] 1 (by first | rfl | (simp only [bytesV, List.map_cons, List.map_nil, hcx]; rfl)) (by rfl) (by rfl) hown (by rfl) (by simp only [List.length_cons, List.length_nil]; omega) hsz ?_; intro v1 x1 ho1 hg1 _)
              go_roundw
              case rel =>
                refine ⟨k + 1, ((true, true) : Bool × Bool), by omega, by go_num, rfl, rfl, HL.out.2, ?_, hnx.grown hg1 hsz (fun j hj => (hown.lt j hj).1)⟩
                rw [HL.out.1]; exact ho1
              case measure => simp [intOf]; omega
            · have n92 : ((S[k].toNat : Int) == 92) = false := by rw [beq_eq_false_iff_ne]; omega
              have u92 : S[k] ≠ 92 := fun e => hc92 (by rw [e]; rfl)
              rcases hc34 with hc34 | hc34
              · have hcx : S[k].toNat = 34 := hc34
                have hu : S[k] = 34 := (u8_eq (n := 34) (by omega)).2 hc34
                have HL := Lib.hid (sc_succ odd S k hlt HP.out (q := (false, false)) (o := [S[k]]) (by rw [hu]; exact st_quote true odd))
                clear hu u92 n92
                clear hc92 hc34 hc32
                go_wp2_with (at_builtin; refine wpList_append_bytes bytesT wr rfl _ _ rfl _ w5.heap.size _ (sc odd (bs S) k) [S[k]] 1 (by first | rfl | (simp only [bytesV, List.map_cons, List.map_nil, hcx]; rfl)) (by rfl) (by rfl) hown (by rfl) (by simp only [List.length_cons, List.length_nil]; omega) hsz ?_; intro v1 x1 ho1 hg1 _)
                go_roundw
                case rel =>
                  refine ⟨k + 1, ((false, false) : Bool × Bool), by omega, by go_num, rfl, rfl, HL.out.2, ?_, hnx.grown hg1 hsz (fun j hj => (hown.lt j hj).1)⟩
                  rw [HL.out.1]; exact ho1
                case measure => simp [intOf]; omega
              · have n34 : ((S[k].toNat : Int) == 34) = false := by rw [beq_eq_false_iff_ne]; omega
                have u34 : S[k] ≠ 34 := fun e => hc34 (by rw [e]; rfl)
                have hcx := True.intro
                have HL := Lib.hid (sc_succ odd S k hlt HP.out (st_in S[k] odd u92 u34))
                clear u92 u34
                clear hc92 hc34 hc32
                go_wp2_with (at_builtin; refine wpList_append_bytes bytesT wr rfl _ _ rfl _ w5.heap.size _ (sc odd (bs S) k) [S[k]] 1 (by first | rfl | (simp only [bytesV, List.map_cons, List.map_nil, hcx]; rfl)) (by rfl) (by rfl) hown (by rfl) (by simp only [List.length_cons, List.length_nil]; omega) hsz ?_; intro v1 x1 ho1 hg1 _)
                all_goals
                  go_roundw
                  case rel =>
                    refine ⟨k + 1, ((true, false) : Bool × Bool), by omega, by go_num, rfl, rfl, HL.out.2, ?_, hnx.grown hg1 hsz (fun j hj => (hown.lt j hj).1)⟩
                    rw [HL.out.1]; exact ho1
                  case measure => simp [intOf]; omega
          | false =>
            rcases hc34 with hc34 | hc34
            · have hcx : S[k].toNat = 34 := hc34
              have hu : S[k] = 34 := (u8_eq (n := 34) (by omega)).2 hc34
              have HL := Lib.hid (sc_succ odd S k hlt HP.out (q := (true, false)) (o := [S[k]]) (by rw [hu]; exact st_quote false odd))
              clear hu
              clear hc92 hc34 hc32
              go_wp2_with (at_builtin; refine wpList_append_bytes bytesT wr rfl _ _ rfl _ w5.heap.size _ (sc odd (bs S) k) [S[k]] 1 (by first | rfl | (simp only [bytesV, List.map_cons, List.map_nil, hcx]; rfl)) (by rfl) (by rfl) hown (by rfl) (by simp only [List.length_cons, List.length_nil]; omega) hsz ?_; intro v1 x1 ho1 hg1 _)
              go_roundw
              case rel =>
                refine ⟨k + 1, ((true, false) : Bool × Bool), by omega, by go_num, rfl, rfl, HL.out.2, ?_, hnx.grown hg1 hsz (fun j hj => (hown.lt j hj).1)⟩
                rw [HL.out.1]; exact ho1
              case measure => simp [intOf]; omega
            · have n34 : ((S[k].toNat : Int) == 34) = false := by rw [beq_eq_false_iff_ne]; omega
              have u34 : S[k] ≠ 34 := fun e => hc34 (by rw [e]; rfl)
              rcases hc32 with hc32 | hc32
              · have hcx : S[k].toNat = 32 := hc32
                have hu : S[k] = 32 := (u8_eq (n := 32) (by omega)).2 hc32
                by_cases hod : odd = true
                · have hob : (n.tmod 2 != 0) = true := HOD.out.trans hod
                  have HL := Lib.hid (sc_succ odd S k hlt HP.out (q := (false, false)) (o := [S[k]] ++ [32, 32]) (by rw [hu, hod]; exact st_blank true))
                  clear hu u34 n34
                  clear hc92 hc34 hc32
                  go_wp2_with (first | (at_builtin; refine wpList_append_bytes bytesT wr rfl _ _ rfl _ w5.heap.size _ (sc odd (bs S) k) [S[k]] 1 (by first | rfl | (simp only [bytesV, List.map_cons, List.map_nil, hcx]; rfl)) (by rfl) (by rfl) hown (by rfl) (by simp only [List.length_cons, List.length_nil]; omega) hsz ?_; intro v1 x1 ho1 hg1 _) | (at_builtin; refine wpList_append_bytes bytesT x1 rfl _ _ rfl _ w5.heap.size _ (sc odd (bs S) k ++ [S[k]]) [32, 32] 2 (by rfl) (by rfl) (by rfl) ho1 (by rfl) (by simp only [List.length_append, List.length_cons, List.length_nil]; omega) (by have := hg1.size; omega) ?_; intro v2 x2 ho2 hg2 _))
                  go_roundw
                  case rel =>
                    refine ⟨k + 1, ((false, false) : Bool × Bool), by omega, by go_num, rfl, rfl, HL.out.2, ?_, ?_⟩
                    · rw [HL.out.1]
                      rw [List.append_assoc] at ho2; exact ho2
                    · have hr1 := hnx.grown hg1 hsz (fun j hj => (hown.lt j hj).1)
                      exact hr1.grown hg2 hr1.size (fun j hj => (ho1.lt j hj).1)
                  case measure => simp [intOf]; omega
                · have hod2 : odd = false := by simpa using hod
                  have hob : (n.tmod 2 != 0) = false := HOD.out.trans hod2
                  have HL := Lib.hid (sc_succ odd S k hlt HP.out (q := (false, false)) (o := [S[k]]) (by rw [hu, hod2]; exact st_blank false))
                  clear hu u34 n34 hod hod2
                  clear hc92 hc34 hc32
                  go_wp2_with (at_builtin; refine wpList_append_bytes bytesT wr rfl _ _ rfl _ w5.heap.size _ (sc odd (bs S) k) [S[k]] 1 (by first | rfl | (simp only [bytesV, List.map_cons, List.map_nil, hcx]; rfl)) (by rfl) (by rfl) hown (by rfl) (by simp only [List.length_cons, List.length_nil]; omega) hsz ?_; intro v1 x1 ho1 hg1 _)
                  go_roundw
                  case rel =>
                    refine ⟨k + 1, ((false, false) : Bool × Bool), by omega, by go_num, rfl, rfl, HL.out.2, ?_, hnx.grown hg1 hsz (fun j hj => (hown.lt j hj).1)⟩
                    rw [HL.out.1]; exact ho1
                  case measure => simp [intOf]; omega
              · have n32 : ((S[k].toNat : Int) == 32) = false := by rw [beq_eq_false_iff_ne]; omega
                have u32 : S[k] ≠ 32 := fun e => hc32 (by rw [e]; rfl)
                have hcx := True.intro
                have HL := Lib.hid (sc_succ odd S k hlt HP.out (st_out S[k] odd u34 u32))
                clear u34 u32
                clear hc92 hc34 hc32
                go_wp2_with (at_builtin; refine wpList_append_bytes bytesT wr rfl _ _ rfl _ w5.heap.size _ (sc odd (bs S) k) [S[k]] 1 (by first | rfl | (simp only [bytesV, List.map_cons, List.map_nil, hcx]; rfl)) (by rfl) (by rfl) hown (by rfl) (by simp only [List.length_cons, List.length_nil]; omega) hsz ?_; intro v1 x1 ho1 hg1 _)
                go_roundw
                case rel =>
                  refine ⟨k + 1, ((false, false) : Bool × Bool), by omega, by go_num, rfl, rfl, HL.out.2, ?_, hnx.grown hg1 hsz (fun j hj => (hown.lt j hj).1)⟩
                  rw [HL.out.1]; exact ho1
                case measure => simp [intOf]; omega
      · obtain rfl : k = S.size := by omega
        have z0 : (mk (sc odd (bs S) S.size)).size ≤ 60000000 := by rw [mk_size]; omega
        have z1 : ¬ 9223372036854775807 < 2 + (mk (sc odd (bs S) S.size)).size := by omega
        have z2 : ¬ 9223372036854775807 < 2 + (mk (sc odd (bs S) S.size)).size + 1 := by omega
        have z3 : ((⟨#[32, 32]⟩ : ByteArray) ++ mk (sc odd (bs S) S.size) ++ ⟨#[32]⟩).size ≤ 1000000000000 := by
          rw [ByteArray.size_append, ByteArray.size_append]
          show 2 + (mk (sc odd (bs S) S.size)).size + 1 ≤ _
          omega
        have hC6 : Holds wr w.heap.size c := hC5.below hnx
        have hD6 : Holds wr (w.heap.size + 1) d := hD5.below hnx
        have hX6 : Holds wr gx (Cl.own c) := hX5.below hnx
        have hvr : Vars wr := hv5.below hnx hv5.lt
        have hBr := hB5.trans (hnx.mono hB5.size)
        go_wp2_with (refine wpList_bytes_string bytesT Tryd.underlying9 _ rfl _ rfl w5.heap.size _ (sc odd (bs S) S.size) (by rfl) hown ?_)
        refine (parse_yes _ _ z3 hvr (Cl.own c) HM.out).mono ?_
        rintro e w6 ⟨rfl, hb6⟩
        have hC7 : Holds w6 w.heap.size c := hC6.below hb6
        have hD7 : Holds w6 (w.heap.size + 1) d := hD6.below hb6
        have hX7 : Holds w6 gx (Cl.own c) := hX6.below hb6
        have hv6 : Vars w6 := hvr.below hb6 hvr.lt
        have hB6 := hBr.trans (hb6.mono hBr.size)
        have hz6 := hB6.size
        have ld := hD7.lt
        obtain ⟨d0, d1, d2, d3, d4, d5⟩ := hD7.cells
        clear hC5 hD5 hX5 hC6 hD6 hX6 hown hnx hb6 hv5 hvr z1 z2 z3
        go_wp2_with fail
        refine (HD.out _ (hv6.below ((Below.refl _ _).alloc (Nat.le_refl _) _) hv6.lt)).mono ?_
        rintro e w8 ⟨rfl, hb8⟩
        have hC8 : Holds w8 w.heap.size c := (Holds.below ((heap_alloc_old _ _ hC7.lt).trans hC7) hb8)
        have hD8 : Holds w8 (w.heap.size + 1) d := (Holds.below ((heap_alloc_old _ _ hD7.lt).trans hD7) hb8)
        have hX8 : Holds w8 gx (Cl.own c) := (Holds.below ((heap_alloc_old _ _ hX7.lt).trans hX7) hb8)
        have hY8 : Holds w8 w6.heap.size (Cl.own c) := Holds.below holds_alloc hb8
        have hB8 := hB6.trans ((below_over hb8).mono hz6)
        clear d0 d1 d2 d3 d4 d5 ld hC7 hD7 hX7
        have lc := hC8.lt
        have ld := hD8.lt
        have lx := hX8.lt
        have ly := hY8.lt
        obtain ⟨c0, c1, c2, c3, c4, c5⟩ := hC8.cells
        obtain ⟨d0, d1, d2, d3, d4, d5⟩ := hD8.cells
        obtain ⟨x0, x1, x2, x3, x4, x5⟩ := hX8.cells
        obtain ⟨y0, y1, y2, y3, y4, y5⟩ := hY8.cells
        clear hC8 hD8 hX8 hY8 hb8 hv6
        have HB8 := Lib.hid hB8
        clear hB8 hB6 hBr hB5
        rcases HDK.out with ⟨hkk, rfl, hpd⟩ | ⟨hkk, hne⟩
        · have hkf : (d.kind != c.kind) = false := by rw [bne_eq_false_iff_eq]; exact hkk
          have hkd1 : 1 ≤ d.kind := by omega
          have hkd2 : d.kind ≤ 15 := by omega
          have HPD := Lib.hid hpd
          clear hkk hpd
          clear hz6 z0
          go_wp2_with fail
          clear hkf
          have hrun := run_eql_call (Cl.own c) (Cl.own d)
          go_region_held3 (fun w' => w'.cell? ⟨w.heap.size, 0, none⟩ = some (.int .i64 c.kind) ∧ w'.cell? ⟨w.heap.size, 1, none⟩ = some (.string (mk c.path)) ∧ w'.cell? ⟨w.heap.size, 2, none⟩ = some (.string (mk c.other)) ∧ w'.cell? ⟨w.heap.size, 3, none⟩ = some (.int .i64 c.off) ∧ w'.cell? ⟨w.heap.size, 4, none⟩ = some (.int .i64 c.size) ∧ w'.cell? ⟨w.heap.size, 5, none⟩ = some (.string (mk c.data)) ∧ w'.cell? ⟨w.heap.size + 1, 0, none⟩ = some (.int .i64 d.kind) ∧ w'.cell? ⟨w.heap.size + 1, 1, none⟩ = some (.string (mk d.path)) ∧ w'.cell? ⟨w.heap.size + 1, 2, none⟩ = some (.string (mk d.other)) ∧ w'.cell? ⟨w.heap.size + 1, 3, none⟩ = some (.int .i64 d.off) ∧ w'.cell? ⟨w.heap.size + 1, 4, none⟩ = some (.int .i64 d.size) ∧ w'.cell? ⟨w.heap.size + 1, 5, none⟩ = some (.string (mk d.data)) ∧ w'.cell? ⟨gx, 0, none⟩ = some (.int .i64 (Cl.own c).kind) ∧ w'.cell? ⟨gx, 1, none⟩ = some (.string (mk (Cl.own c).path)) ∧ w'.cell? ⟨gx, 2, none⟩ = some (.string (mk (Cl.own c).other)) ∧ w'.cell? ⟨gx, 3, none⟩ = some (.int .i64 (Cl.own c).off) ∧ w'.cell? ⟨gx, 4, none⟩ = some (.int .i64 (Cl.own c).size) ∧ w'.cell? ⟨gx, 5, none⟩ = some (.string (mk (Cl.own c).data)) ∧ w'.cell? ⟨w6.heap.size, 0, none⟩ = some (.int .i64 (Cl.own c).kind) ∧ w'.cell? ⟨w6.heap.size, 1, none⟩ = some (.string (mk (Cl.own c).path)) ∧ w'.cell? ⟨w6.heap.size, 2, none⟩ = some (.string (mk (Cl.own c).other)) ∧ w'.cell? ⟨w6.heap.size, 3, none⟩ = some (.int .i64 (Cl.own c).off) ∧ w'.cell? ⟨w6.heap.size, 4, none⟩ = some (.int .i64 (Cl.own c).size) ∧ w'.cell? ⟨w6.heap.size, 5, none⟩ = some (.string (mk (Cl.own c).data))) (go_keep)
            ((first
              | (go_at_call 19; refine (num_any _ _).mono ?_; rintro e w' ⟨rfl, rfl⟩)
              | (go_at_call 21; (with_reducible refine (own_is c _ hk1 hk2).mono ?_); rintro e w9 ⟨rfl, hb9⟩; have c'0 := (hb9.cell (p := ⟨w.heap.size, 0, none⟩) lc).trans c0; have c'1 := (hb9.cell (p := ⟨w.heap.size, 1, none⟩) lc).trans c1; have c'2 := (hb9.cell (p := ⟨w.heap.size, 2, none⟩) lc).trans c2; have c'3 := (hb9.cell (p := ⟨w.heap.size, 3, none⟩) lc).trans c3; have c'4 := (hb9.cell (p := ⟨w.heap.size, 4, none⟩) lc).trans c4; have c'5 := (hb9.cell (p := ⟨w.heap.size, 5, none⟩) lc).trans c5; have d'0 := (hb9.cell (p := ⟨w.heap.size + 1, 0, none⟩) ld).trans d0; have d'1 := (hb9.cell (p := ⟨w.heap.size + 1, 1, none⟩) ld).trans d1; have d'2 := (hb9.cell (p := ⟨w.heap.size + 1, 2, none⟩) ld).trans d2; have d'3 := (hb9.cell (p := ⟨w.heap.size + 1, 3, none⟩) ld).trans d3; have d'4 := (hb9.cell (p := ⟨w.heap.size + 1, 4, none⟩) ld).trans d4; have d'5 := (hb9.cell (p := ⟨w.heap.size + 1, 5, none⟩) ld).trans d5; have x'0 := (hb9.cell (p := ⟨gx, 0, none⟩) lx).trans x0; have x'1 := (hb9.cell (p := ⟨gx, 1, none⟩) lx).trans x1; have x'2 := (hb9.cell (p := ⟨gx, 2, none⟩) lx).trans x2; have x'3 := (hb9.cell (p := ⟨gx, 3, none⟩) lx).trans x3; have x'4 := (hb9.cell (p := ⟨gx, 4, none⟩) lx).trans x4; have x'5 := (hb9.cell (p := ⟨gx, 5, none⟩) lx).trans x5; have y'0 := (hb9.cell (p := ⟨w6.heap.size, 0, none⟩) ly).trans y0; have y'1 := (hb9.cell (p := ⟨w6.heap.size, 1, none⟩) ly).trans y1; have y'2 := (hb9.cell (p := ⟨w6.heap.size, 2, none⟩) ly).trans y2; have y'3 := (hb9.cell (p := ⟨w6.heap.size, 3, none⟩) ly).trans y3; have y'4 := (hb9.cell (p := ⟨w6.heap.size, 4, none⟩) ly).trans y4; have y'5 := (hb9.cell (p := ⟨w6.heap.size, 5, none⟩) ly).trans y5; have lc' := Nat.lt_of_lt_of_le lc hb9.size; have ld' := Nat.lt_of_lt_of_le ld hb9.size; have lx' := Nat.lt_of_lt_of_le lx hb9.size; have ly' := Nat.lt_of_lt_of_le ly hb9.size; clear c0 c1 c2 c3 c4 c5 d0 d1 d2 d3 d4 d5 x0 x1 x2 x3 x4 x5 y0 y1 y2 y3 y4 y5)
              | (go_at_call 21; (with_reducible refine (own_is d _ hkd1 hkd2).mono ?_); rintro e w10 ⟨rfl, hb10⟩; have c''0 := (hb10.cell (p := ⟨w.heap.size, 0, none⟩) lc').trans c'0; have c''1 := (hb10.cell (p := ⟨w.heap.size, 1, none⟩) lc').trans c'1; have c''2 := (hb10.cell (p := ⟨w.heap.size, 2, none⟩) lc').trans c'2; have c''3 := (hb10.cell (p := ⟨w.heap.size, 3, none⟩) lc').trans c'3; have c''4 := (hb10.cell (p := ⟨w.heap.size, 4, none⟩) lc').trans c'4; have c''5 := (hb10.cell (p := ⟨w.heap.size, 5, none⟩) lc').trans c'5; have d''0 := (hb10.cell (p := ⟨w.heap.size + 1, 0, none⟩) ld').trans d'0; have d''1 := (hb10.cell (p := ⟨w.heap.size + 1, 1, none⟩) ld').trans d'1; have d''2 := (hb10.cell (p := ⟨w.heap.size + 1, 2, none⟩) ld').trans d'2; have d''3 := (hb10.cell (p := ⟨w.heap.size + 1, 3, none⟩) ld').trans d'3; have d''4 := (hb10.cell (p := ⟨w.heap.size + 1, 4, none⟩) ld').trans d'4; have d''5 := (hb10.cell (p := ⟨w.heap.size + 1, 5, none⟩) ld').trans d'5; have x''0 := (hb10.cell (p := ⟨gx, 0, none⟩) lx').trans x'0; have x''1 := (hb10.cell (p := ⟨gx, 1, none⟩) lx').trans x'1; have x''2 := (hb10.cell (p := ⟨gx, 2, none⟩) lx').trans x'2; have x''3 := (hb10.cell (p := ⟨gx, 3, none⟩) lx').trans x'3; have x''4 := (hb10.cell (p := ⟨gx, 4, none⟩) lx').trans x'4; have x''5 := (hb10.cell (p := ⟨gx, 5, none⟩) lx').trans x'5; have y''0 := (hb10.cell (p := ⟨w6.heap.size, 0, none⟩) ly').trans y'0; have y''1 := (hb10.cell (p := ⟨w6.heap.size, 1, none⟩) ly').trans y'1; have y''2 := (hb10.cell (p := ⟨w6.heap.size, 2, none⟩) ly').trans y'2; have y''3 := (hb10.cell (p := ⟨w6.heap.size, 3, none⟩) ly').trans y'3; have y''4 := (hb10.cell (p := ⟨w6.heap.size, 4, none⟩) ly').trans y'4; have y''5 := (hb10.cell (p := ⟨w6.heap.size, 5, none⟩) ly').trans y'5; clear c'0 c'1 c'2 c'3 c'4 c'5 d'0 d'1 d'2 d'3 d'4 d'5 x'0 x'1 x'2 x'3 x'4 x'5 y'0 y'1 y'2 y'3 y'4 y'5)))
          all_goals
            go_wp2
            go_ret
            have hB9 := (Below.drew HB8.out).trans (hb9.mono HB8.out.size)
            exact ⟨ret_bool (back_eq HFC.out HFD.out HS.out HPD.out), hB9.trans (hb10.mono hB9.size)⟩
        · have hkf : (d.kind != c.kind) = true := by rw [bne_iff_ne]; exact hkk
          clear hkk
          go_wp2_with (go_at_call 19; refine (num_any _ _).mono ?_; rintro e w' ⟨rfl, rfl⟩)
          go_ret
          exact ⟨rfl, HB8.out⟩
theorem small_sized {c : Cl.PCall} (h : Cl.Small 1048576 c) : Sized c := by
  obtain ⟨a1, a2, a3⟩ := h
  exact ⟨by omega, by omega, by omega⟩
theorem print_size {c : Cl.PCall} {t : List UInt8} (h : Cl.print c = some t) (hs : Cl.Small 1048576 c) (hf : Cl.Fits c) : t.length ≤ 20000000 := by
  unfold Cl.print at h
  rw [Option.map_eq_some_iff] at h
  obtain ⟨⟨cmd, ps⟩, hr, rfl⟩ := h
  obtain ⟨n, hk, hn⟩ := Cl.rowAt_some hr
  obtain ⟨r1, r2⟩ := Cl.rows_small hn
  have hi : ∀ n : Int, Cl.inRange n → (Lib.itoa n).length ≤ 100 := fun n hn => itoa_len hn
  have ht : ∀ p, (Cl.text c p).length ≤ 4194306 := by
    intro p
    obtain ⟨h1, h2, h3⟩ := hs
    unfold Cl.text
    split
    · have := Cl.quote_len c.path; omega
    · have := Cl.quote_len c.other; omega
    · have := Cl.quote_len c.data; omega
    · have := hi _ hf.1; omega
    · have := hi _ hf.2; omega
    · simp
  have key : ∀ l : List Nat, (l.flatMap fun p => 32 :: Cl.text c p).length ≤ l.length * 4194307 := by
    intro l
    induction l with
    | nil => simp
    | cons p l ih =>
      have := ht p
      simp only [List.flatMap_cons, List.length_append, List.length_cons]
      omega
  have := key ps
  simp only [List.length_append]
  omega
theorem print_unlike {c d : Cl.PCall} {s t : List UInt8} (hc : Cl.Fits c) (hd : Cl.Fits d) (h1 : Cl.print c = some s) (h2 : Cl.print d = some t) (hk : d.kind ≠ c.kind) : s ≠ t := by
  rintro rfl
  have := (Cl.print_eq hc hd h1).1 h2
  exact hk (by rw [← Cl.own_kind d, ← this, Cl.own_kind])
/-- Whatever the two calls and the number. -/
theorem back_all (c d : Cl.PCall) (n : Int) (w : World) (hkc : Cl.inRange c.kind) (hkd : Cl.inRange d.kind) (hsc : Cl.Small 1048576 c) (hsd : Cl.Small 1048576 d) (hfc : Cl.Fits c) (hfd : Cl.Fits d) (hn : Cl.inRange n) (hv : Vars w) :
    Calls Tryd.prog 5 #[.agg #[.int .i64 c.kind, .string (mk c.path), .string (mk c.other), .int .i64 c.off, .int .i64 c.size, .string (mk c.data)], .agg #[.int .i64 d.kind, .string (mk d.path), .string (mk d.other), .int .i64 d.off, .int .i64 d.size, .string (mk d.data)], .int .i64 n] w fun e w' => e = .returned (.bool true) ∧ Below w.heap.size w w' := by
  by_cases hk : 1 ≤ c.kind ∧ c.kind ≤ 15
  · obtain ⟨r, hr⟩ := Cl.rowAt_is hk
    obtain ⟨s, hs⟩ : ∃ s, Cl.print c = some s := ⟨_, by unfold Cl.print; rw [hr]; rfl⟩
    have hsz := print_size hs hsc hfc
    cases hp : Cl.print d with
    | some t =>
      refine back_any c d n w hk.1 hk.2 hsc hfc hfd hn hv (mk s) t 0 hs hsz (fun W hW => print_yes d W t hp (small_sized hsd) hfd hW) ?_
      by_cases e : d.kind = c.kind
      · exact .inl ⟨e, rfl, hp⟩
      · exact .inr ⟨e, ne_list (print_unlike hfc hfd hs hp e)⟩
    | none =>
      have hdn : ¬ (1 ≤ d.kind ∧ d.kind ≤ 15) := by
        intro h
        obtain ⟨r, hr⟩ := Cl.rowAt_is h
        unfold Cl.print at hp
        rw [hr] at hp
        cases hp
      refine back_any c d n w hk.1 hk.2 hsc hfc hfd hn hv (mk s) [] 1 hs hsz (fun W hW => print_none d W hkd hdn) (.inr ⟨fun e => hdn (by rw [e]; exact hk), ne_list (Cl.print_ne hs)⟩)
  · exact back_out c d n w hkc hk hv
end Rw
end Go.Proofs.YtjloonijnbfhhaaDoor
