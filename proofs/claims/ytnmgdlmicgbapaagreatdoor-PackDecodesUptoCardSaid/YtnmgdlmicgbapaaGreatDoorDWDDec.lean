/- The walk of the document's Decode. -/
import Derived.Test.YtnmgdlmicgbapaaGreatDoorDRows
import Derived.Test.YtnmgdlmicgbapaaGreatDoorDSane
import Derived.Test.YtnmgdlmicgbapaaGreatDoorDWCursor
import Derived.Test.YtnmgdlmicgbapaaGreatDoorPWDEnc
namespace Go.Proofs.YtnmgdlmicgbapaaGreatDoor
open Go.RowKit Go.Maps

namespace Pw
open Pk
theorem run_string_seen {P : Program} {S T D : TypeId} (B : BytesT P S T) (hd : P.underlying D = some .string) (w : World) (ao : Option Addr) (l : List UInt8) (ca : Nat) (hs : BytesSeen w ao l) (hnil : ao = none → l.length = 0 ∧ ca = 0) : (convert S D (.slice ao l.length ca)).run P w = .ok (.string (mk l)) w := by
  have h := run_string_part B hd w ao l ca l.length hs hnil (Nat.le_refl _)
  rwa [List.take_length] at h
theorem noItems (t : TypeId) {w W : World} (h : Below w.heap.size w W) : ItemsOwn w W t [] (.slice none 0 0) [] [] := ⟨rfl, World.ownsRow_nil _ _ _ _, fun j x s h => by simp at h, h⟩
theorem run_own_string {P : Program} {S T D : TypeId} (B : BytesT P S T) (hd : P.underlying D = some .string) (w : World) (base : Nat) (v : Value) (l : List UInt8) (hown : w.ownsRow base T 1 v l.length (bytesV l)) : (convert S D v).run P w = .ok (.string (mk l)) w := by
  rcases hown.2 with ⟨rfl, hn⟩ | ⟨g, cap, cur, rfl, _⟩
  · have hl : l = [] := List.length_eq_zero_iff.1 hn
    subst hl
    rw [run_convert_bytes_string w S D T none 0 0 B.und B.elem hd]
    simp [Conv.bytesToString, Sem.run_pure]
    rfl
  · refine run_convert_bytes_back w S D T ⟨g, 0, none⟩ cap l B.und B.elem hd ?_
    intro j hj
    have := hown.cellAt j (by omega)
    rw [Addr.add_lit, Nat.zero_add, this]
    simp [bytesV, hj]
/-- What both answer: a list of the call's own and its error. -/
def DAns (w W : World) (t : TypeId) (b : List UInt8) (e : Ending) : Prop := ∃ v sls, e = .returned (.tuple #[v, .int .i64 (ansE b)]) ∧ ItemsOwn w W t [] v (ansL b) sls ∧ Apart sls
theorem rnum_lt (b : List UInt8) (n : Nat) (s : St) : (rnum b n s).1 < 256 ^ n := by
  unfold rnum
  split
  · exact Nat.pow_pos (by decide)
  · refine Nat.lt_of_lt_of_le (val_lt _) (Nat.pow_le_pow_right (by decide) ?_)
    rw [List.length_take]; omega
theorem rtake_len (b : List UInt8) (n : Nat) (s : St) : (rtake b n s).1.length ≤ b.length := by
  unfold rtake
  split
  · exact Nat.zero_le _
  · rw [List.length_take, List.length_drop]; omega
theorem ritems_bad (b : List UInt8) (m at' : Nat) : ritems b m (at', true) = ([], (at', true)) := ritems_spoilt b m at'
theorem cu_new (w : World) (b : List UInt8) (ao : Option Addr) (ca : Nat) (hs : BytesSeen w ao b) (hnil : ao = none → b.length = 0 ∧ ca = 0) (hca : b.length ≤ ca ∧ ca ≤ 9223372036854775807) :
    Cu w (w.alloc (.cells #[.slice ao b.length ca, .int .i64 0, .bool false] 37)) w.heap.size b 0 false := by
  have hB := Blk.new w #[.slice ao b.length ca, .int .i64 0, .bool false] 37
  have hc : ∀ (i : Nat) u, (#[.slice ao b.length ca, .int .i64 0, .bool false] : Array Value)[i]? = some u → (w.alloc (.cells #[.slice ao b.length ca, .int .i64 0, .bool false] 37)).cell? ⟨w.heap.size, i, none⟩ = some u := by
    intro i u hi
    simp only [World.cell?]
    rw [heap_alloc_new]
    simpa using hi
  exact ⟨⟨ao, ca, hc 0 _ rfl, hs, hnil, hca⟩, hc 1 _ rfl, hc 2 _ rfl, hB.fro 1, hB.fro 2, hB, Nat.zero_le _, hB.lt, Nat.le_refl _, (Below.refl _ _).alloc (Nat.le_refl _) _⟩
theorem rnum_good {b : List UInt8} {n a a' v : Nat} {f : Bool} (h : rnum b n (a, f) = (v, (a', false))) : a' = a + n := by
  unfold rnum at h
  split at h
  · cases h
  · cases h; rfl
theorem rnums_next {b : List UInt8} {vm j a v : Nat} {ps : List Int} {S : List Int × St} {s2 : St} (h : j < vm) (hq : S = (ps ++ (rnums b (vm - j) (a, false)).1, (rnums b (vm - j) (a, false)).2)) (hr : rnum b 4 (a, false) = (v, s2)) :
    Hid (S = ((ps ++ [(v : Int)]) ++ (rnums b (vm - (j + 1)) s2).1, (rnums b (vm - (j + 1)) s2).2)) := by
  have e : vm - j = (vm - (j + 1)) + 1 := by omega
  show S = _
  rw [hq, e, rnums, if_neg (by simp), hr]
  simp
theorem rnums_end {b : List UInt8} {vm j a : Nat} {f : Bool} {ps : List Int} {S : List Int × St} (h : ¬ (j < vm ∧ f = false)) (hq : S = (ps ++ (rnums b (vm - j) (a, f)).1, (rnums b (vm - j) (a, f)).2)) : Hid (S = (ps, (a, f))) := by
  show S = _
  rw [hq]
  cases f with
  | true => rw [rnums_spoilt, List.append_nil]
  | false =>
    have : vm - j = 0 := by
      rcases Nat.lt_or_ge j vm with h2 | h2
      · exact absurd ⟨h2, rfl⟩ h
      · omega
    rw [this, rnums, List.append_nil]
theorem ritems_next {b : List UInt8} {vm j a : Nat} {l : List PItem} {x : PItem} {S : List PItem × St} {s2 : St} (h : j < vm) (hq : S = (l ++ (ritems b (vm - j) (a, false)).1, (ritems b (vm - j) (a, false)).2)) (hr : ritem b (a, false) = (x, s2)) :
    Hid (S = ((l ++ [x]) ++ (ritems b (vm - (j + 1)) s2).1, (ritems b (vm - (j + 1)) s2).2)) := by
  have e : vm - j = (vm - (j + 1)) + 1 := by omega
  show S = _
  rw [hq, e, ritems, if_neg (by simp), hr]
  simp
theorem ritems_end {b : List UInt8} {vm j a : Nat} {f : Bool} {l : List PItem} {S : List PItem × St} (h : ¬ (j < vm ∧ f = false)) (hq : S = (l ++ (ritems b (vm - j) (a, f)).1, (ritems b (vm - j) (a, f)).2)) : Hid (S = (l, (a, f))) := by
  show S = _
  rw [hq]
  cases f with
  | true => rw [ritems_spoilt, List.append_nil]
  | false =>
    have : vm - j = 0 := by
      rcases Nat.lt_or_ge j vm with h2 | h2
      · exact absurd ⟨h2, rfl⟩ h
      · omega
    rw [this, ritems, List.append_nil]
theorem ritem_eq {b : List UInt8} {s0 s1 s2 s3 s4 s5 s6 s7 s8 s9 : St} {vk vn vs vz vm vd : Nat} {tp td : List UInt8} {ps : List Int} (h1 : rnum b 1 s0 = (vk, s1)) (h2 : rnum b 2 s1 = (vn, s2)) (h3 : rtake b vn s2 = (tp, s3)) (h4 : rnum b 4 s3 = (vs, s4)) (h5 : rnum b 4 s4 = (vz, s5)) (h6 : rnum b 4 s5 = (vm, s6)) (h7 : rnums b vm s6 = (ps, s7)) (h8 : rnum b 4 s7 = (vd, s8)) (h9 : rtake b vd s8 = (td, s9)) :
    ritem b s0 = (⟨tp, vk, vz, td, ps, (vs : Int) - 1⟩, s9) := by
  unfold ritem; simp only [h1, h2, h3, h4, h5, h6, h7, h8, h9]
theorem ritem_le {b : List UInt8} {a a' : Nat} {x : PItem} (ha : a ≤ b.length) (hb : b.length ≤ 2000000) (h : ritem b (a, false) = (x, (a', false))) : a + 1 ≤ a' := by
  rcases ritem_tie b a ha with ⟨_, h2, h3⟩ | ⟨h1, _⟩
  · rw [h] at h2 h3
    have := (item_some h2 (by rw [List.length_drop]; omega)).2
    simp only [List.length_drop] at this h3
    omega
  · rw [h] at h1; cases h1
set_option maxRecDepth 100000 in
set_option maxHeartbeats 4000000 in
theorem ddecode_any (b : List UInt8) (ao : Option Addr) (ca : Nat) (w : World) (hs : BytesSeen w ao b) (hnil : ao = none → b.length = 0 ∧ ca = 0) (hca : b.length ≤ ca ∧ ca ≤ 9223372036854775807) (hbl : b.length ≤ 2000000) :
    Calls Tryz.prog 4 #[.slice ao b.length ca] w fun e w' => DAns w w' 42 b e := by
  obtain ⟨i0, hi0, hz0, hz1, hz2⟩ := intInfo
  obtain ⟨j0, hj0, hy0, hy1, hy2⟩ := ditemInfo
  have hC0 := cu_new w b ao ca hs hnil hca
  have hb12 : b.length ≤ 1000000000000 := by omega
  have H8 := ctake_any (s := (0, false)) hC0 8 hb12 (by decide)
  have HRR := Lib.hid (show rread b = ritems b (rnum b 4 (rtake b 8 (0, false)).2).1 (rnum b 4 (rtake b 8 (0, false)).2).2 from rfl)
  clear hC0
  generalize (rtake b 8 (0, false)).2 = s1 at *
  go_enter Tryz.func4, Tryz.ntmps4
  go_wp2_with fail
  refine H8.mono ?_
  rintro e w1 ⟨⟨a1, c1, rfl, _⟩, hC1, hg1⟩
  have H4 := cnum_any hC1 4 hb12 (by decide)
  have hn0 := rnum_lt b 4 s1
  generalize rnum b 4 s1 = r4 at *
  obtain ⟨n0, a2, f2⟩ := r4
  replace HRR := Lib.hid (show rread b = ritems b n0 (a2, f2) from HRR.out)
  replace hn0 : n0 < 4294967296 := hn0
  replace H4 : Calls Tryz.prog 10 #[.pointer (some ⟨w.heap.size, 0, none⟩), .int .i64 (4 : Nat)] w1 fun e w' => e = .returned (.int .i64 n0) ∧ Cu w w' w.heap.size b a2 f2 ∧ w1.grownBy w' (some w.heap.size) := H4
  clear H8 hC1
  go_wp2_with fail
  refine H4.mono ?_
  rintro e w2 ⟨rfl, hC2, hg2⟩
  clear H4
  have hI0 : ItemsOwn w w2 42 [] (.slice none 0 0) [] [] := ⟨rfl, World.ownsRow_nil _ _ _ _, fun j x s h => by simp at h, hC2.below⟩
  go_wp2_with fail
  go_loopw [6, 7] (fun lv iv wr => ∃ (k at' : Nat) (bad : Bool) (l : List PItem) (sls : List Value), k ≤ n0 ∧ iv = .int .i64 k ∧ Cu w wr w.heap.size b at' bad ∧ ItemsOwn w wr 42 [] lv l sls ∧ Apart sls ∧ Hid (rread b = (l ++ (ritems b (n0 - k) (at', bad)).1, (ritems b (n0 - k) (at', bad)).2)) ∧ Hid (l.length = k) ∧ k ≤ b.length + 1 ∧ Hid (bad = false → k ≤ at')) (fun _ i _ => n0 - (intOf i).toNat)
  case atStart => exact ⟨0, a2, f2, [], [], Nat.zero_le _, rfl, hC2, hI0, Apart.nil, HRR.out, rfl, Nat.zero_le _, fun _ => Nat.zero_le _⟩
  case round =>
    obtain ⟨k, at', bad, l, sls, hk, rfl, hC, hI, hA, HQ, HL, hkb, HK⟩ := hrel
    by_cases hlt : k < n0
    · cases bad with
      | true =>
        have HE := ritems_end (fun h => by cases h.2) HQ.out
        have ha := Lib.hid (ans_bad (show readB b = none by rw [rread_eq, HE.out]; rfl))
        have hki : (k : Int) < (n0 : Int) := by omega
        have hfl := hC.flag
        have hN := noItems 42 hC.below
        clear HE HQ HL HK
        go_wp2_with fail
        go_ret2
        exact ⟨.slice none 0 0, [], by rw [ha.out.2]; rfl, by rw [ha.out.1]; exact hN, Apart.nil⟩
      | false =>
        have hki : (k : Int) < (n0 : Int) := by omega
        have hka : k ≤ at' := HK.out rfl
        have hal := hC.le
        have hcx := hC.flag
        -- ROUND
        have hX0 : Bx w (wr.alloc (.cells #[.string ⟨#[]⟩, .int .i64 0, .int .i64 0, .string ⟨#[]⟩, .slice none 0 0, .int .i64 0] 42)) 42 wr.heap.size noItem (.slice none 0 0) _ l sls := bx_new hI
        have hC0 := hC.kept (grown_alloc wr (.cells #[.string ⟨#[]⟩, .int .i64 0, .int .i64 0, .string ⟨#[]⟩, .slice none 0 0, .int .i64 0] 42)) (by simp) (fun j e => by cases e)
        have hcb := hC.lt
        have hcg := hC.ge
        clear hC hI
        go_wp2_with fail
        generalize (wr.alloc (.cells #[.string ⟨#[]⟩, .int .i64 0, .int .i64 0, .string ⟨#[]⟩, .slice none 0 0, .int .i64 0] 42)) = y0 at *
        generalize wr.heap.size = bx at *
        have H1 := cnum_any (s := (at', false)) hC0 1 hb12 (by decide)
        have b1 := rnum_lt b 1 (at', false)
        generalize hr1 : rnum b 1 (at', false) = r1 at *
        obtain ⟨vk, a1, f1⟩ := r1
        have E1 := Lib.hid hr1
        clear hr1
        replace b1 : vk < 256 := b1
        have bi1 : (vk : Int) < 256 := by omega
        refine H1.mono ?_
        rintro e y1 ⟨rfl, hC1, hg1⟩
        replace hC1 : Cu w y1 w.heap.size b a1 f1 := hC1
        have hX1 := hX0.read hC0.blk (by decide) (by decide) hC0.ge hg1
        clear H1 hg1 hX0 hC0
        have q := hX1.box 1 _ rfl
        have g := hX1.blk.fro 1
        go_wp2_with fail
        have hX2 := hX1.store (i := 1) (c := (.int .i64 vk)) (x' := (⟨[], vk, 0, [], [], 0⟩ : PItem)) (sl' := (.slice none 0 0)) (by decide) (by decide) rfl hX1.ints
        have hC2 := hC1.kept (grown_set y1 bx 1 (.int .i64 vk)) (by simp; omega) (fun j e => by cases e; omega)
        generalize y1.setCell ⟨bx, 1, none⟩ (.int .i64 vk) = y2 at *
        clear q g hX1 hC1 
        have H3 := cnum_any (s := (a1, f1)) hC2 2 hb12 (by decide)
        have b3 := rnum_lt b 2 (a1, f1)
        generalize hr3 : rnum b 2 (a1, f1) = r3 at *
        obtain ⟨vn, a3, f3⟩ := r3
        have E3 := Lib.hid hr3
        clear hr3
        replace b3 : vn < 65536 := b3
        have bi3 : (vn : Int) < 65536 := by omega
        refine H3.mono ?_
        rintro e y3 ⟨rfl, hC3, hg3⟩
        replace hC3 : Cu w y3 w.heap.size b a3 f3 := hC3
        have hX3 := hX2.read hC2.blk (by decide) (by decide) hC2.ge hg3
        clear H3 hg3 hX2 hC2
        go_wp2_with fail
        have H4 := ctake_any (s := (a3, f3)) hC3 vn hb12 (by omega)
        generalize hr4 : rtake b vn (a3, f3) = r4 at *
        obtain ⟨tp, a4, f4⟩ := r4
        have E4 := Lib.hid hr4
        clear hr4
        refine H4.mono ?_
        rintro e y4 ⟨⟨o4, c4, rfl, hs4, hn4, _⟩, hC4, hg4⟩
        replace hC4 : Cu w y4 w.heap.size b a4 f4 := hC4
        have hX4 := hX3.read hC3.blk (by decide) (by decide) hC3.ge hg4
        have kc := run_string_seen byT Tryz.underlying9 y4 o4 tp c4 (hs4.below hC4.below) hn4
        clear H4 hg4 hX3 hC3 hs4 hn4
        have q := hX4.box 0 _ rfl
        have g := hX4.blk.fro 0
        go_wp2_with fail
        have hX5 := hX4.store (i := 0) (c := (.string (mk tp))) (x' := (⟨tp, vk, 0, [], [], 0⟩ : PItem)) (sl' := (.slice none 0 0)) (by decide) (by decide) rfl hX4.ints
        have hC5 := hC4.kept (grown_set y4 bx 0 (.string (mk tp))) (by simp; omega) (fun j e => by cases e; omega)
        generalize y4.setCell ⟨bx, 0, none⟩ (.string (mk tp)) = y5 at *
        clear q g hX4 hC4 kc
        have H6 := cnum_any (s := (a4, f4)) hC5 4 hb12 (by decide)
        have b6 := rnum_lt b 4 (a4, f4)
        generalize hr6 : rnum b 4 (a4, f4) = r6 at *
        obtain ⟨vs, a6, f6⟩ := r6
        have E6 := Lib.hid hr6
        clear hr6
        replace b6 : vs < 4294967296 := b6
        have bi6 : (vs : Int) < 4294967296 := by omega
        refine H6.mono ?_
        rintro e y6 ⟨rfl, hC6, hg6⟩
        replace hC6 : Cu w y6 w.heap.size b a6 f6 := hC6
        have hX6 := hX5.read hC5.blk (by decide) (by decide) hC5.ge hg6
        clear H6 hg6 hX5 hC5
        have q := hX6.box 5 _ rfl
        have g := hX6.blk.fro 5
        go_wp2_with fail
        have hX7 := hX6.store (i := 5) (c := (.int .i64 ((vs : Int) - 1))) (x' := (⟨tp, vk, 0, [], [], (vs : Int) - 1⟩ : PItem)) (sl' := (.slice none 0 0)) (by decide) (by decide) rfl hX6.ints
        have hC7 := hC6.kept (grown_set y6 bx 5 (.int .i64 ((vs : Int) - 1))) (by simp; omega) (fun j e => by cases e; omega)
        generalize y6.setCell ⟨bx, 5, none⟩ (.int .i64 ((vs : Int) - 1)) = y7 at *
        clear q g hX6 hC6 
        have H8 := cnum_any (s := (a6, f6)) hC7 4 hb12 (by decide)
        have b8 := rnum_lt b 4 (a6, f6)
        generalize hr8 : rnum b 4 (a6, f6) = r8 at *
        obtain ⟨vz, a8, f8⟩ := r8
        have E8 := Lib.hid hr8
        clear hr8
        replace b8 : vz < 4294967296 := b8
        have bi8 : (vz : Int) < 4294967296 := by omega
        refine H8.mono ?_
        rintro e y8 ⟨rfl, hC8, hg8⟩
        replace hC8 : Cu w y8 w.heap.size b a8 f8 := hC8
        have hX8 := hX7.read hC7.blk (by decide) (by decide) hC7.ge hg8
        clear H8 hg8 hX7 hC7
        have q := hX8.box 2 _ rfl
        have g := hX8.blk.fro 2
        go_wp2_with fail
        have hX9 := hX8.store (i := 2) (c := (.int .i64 vz)) (x' := (⟨tp, vk, vz, [], [], (vs : Int) - 1⟩ : PItem)) (sl' := (.slice none 0 0)) (by decide) (by decide) rfl hX8.ints
        have hC9 := hC8.kept (grown_set y8 bx 2 (.int .i64 vz)) (by simp; omega) (fun j e => by cases e; omega)
        generalize y8.setCell ⟨bx, 2, none⟩ (.int .i64 vz) = y9 at *
        clear q g hX8 hC8 
        have H10 := cnum_any (s := (a8, f8)) hC9 4 hb12 (by decide)
        have b10 := rnum_lt b 4 (a8, f8)
        generalize hr10 : rnum b 4 (a8, f8) = r10 at *
        obtain ⟨vm, a10, f10⟩ := r10
        have E10 := Lib.hid hr10
        clear hr10
        replace b10 : vm < 4294967296 := b10
        have bi10 : (vm : Int) < 4294967296 := by omega
        refine H10.mono ?_
        rintro e y10 ⟨rfl, hC10, hg10⟩
        replace hC10 : Cu w y10 w.heap.size b a10 f10 := hC10
        have hX10 := hX9.read hC9.blk (by decide) (by decide) hC9.ge hg10
        clear H10 hg10 hX9 hC9
        go_wp2_with fail
        go_loopw [11] (fun iv wy => ∃ (j a : Nat) (f : Bool) (ps : List Int) (sl : Value), j ≤ vm ∧ iv = .int .i64 j ∧ Cu w wy w.heap.size b a f ∧ Bx w wy 42 bx ⟨tp, vk, vz, [], ps, (vs : Int) - 1⟩ sl u6 l sls ∧ Hid (rnums b vm (a10, f10) = (ps ++ (rnums b (vm - j) (a, f)).1, (rnums b (vm - j) (a, f)).2)) ∧ Hid (ps.length = j) ∧ j ≤ b.length + 1 ∧ Hid (f = false → j ≤ a)) (fun i _ => vm - (intOf i).toNat)
        case atStart => exact ⟨0, a10, f10, [], _, Nat.zero_le _, rfl, hC10, hX10, rfl, rfl, Nat.zero_le _, fun _ => Nat.zero_le _⟩
        case round =>
          obtain ⟨j, a, f, ps, sl, hj, rfl, hCj, hXj, HQj, HLj, hjb, HKj⟩ := hrel
          clear hC10 hX10
          by_cases hgo2 : j < vm ∧ f = false
          · obtain ⟨hjl, rfl⟩ := hgo2
            have hji : (j : Int) < (vm : Int) := by omega
            have hfl := hCj.flag
            have hja : j ≤ a := HKj.out rfl
            have hal2 := hCj.le
            have H := cnum_any (s := (a, false)) hCj 4 hb12 (by decide)
            have bp := rnum_lt b 4 (a, false)
            generalize hr : rnum b 4 (a, false) = r at *
            obtain ⟨vp, a', f'⟩ := r
            have EP := Lib.hid hr
            clear hr
            replace bp : vp < 4294967296 := bp
            have bpi : (vp : Int) < 4294967296 := by omega
            go_wp2_with fail
            refine H.mono ?_
            rintro e z1 ⟨rfl, hCp, hgp⟩
            replace hCp : Cu w z1 w.heap.size b a' f' := hCp
            have hXp := hXj.read hCj.blk (by decide) (by decide) hCj.ge hgp
            have hXa := hXp.kept (grown_alloc z1 (.cells #[.int .i64 vp] 3))
            have hCa := hCp.kept (grown_alloc z1 (.cells #[.int .i64 vp] 3)) (by simp) (fun j e => by cases e)
            have q := hXp.box 4 _ rfl
            have hpl : ps.length ≤ 2000001 := by rw [HLj.out]; omega
            have hbxl := hXa.blk.lt
            clear H hCp hCj hXj hgp hfl
            go_wp2_with (at_builtin; refine wpList_append_own_at _ rfl (.tmp 68) (.tmp 70) 40 rfl bx 3 i0 (.int .i64 0) 1 8 Tryz.underlying40 hi0 hz0 hz1 hz2 rfl (by decide) sl ps.length _ rfl hXa.ints.own ⟨z1.heap.size, 0, none⟩ 1 1 [.int .i64 (vp : Int)] rfl rfl (news_new _ _ _) (intV_one [(vp : Int)]) (by unfold maxLen; omega) (by omega) (by omega) ?_; intro v2 z2 ho2 hg2 _ _; obtain ⟨va, vc, rfl⟩ := own_form ho2; have q4 := (World.cell?_of_block (a := ⟨bx, 4, none⟩) (hg2.block bx hXa.blk.lt (fun e => hXa.blk.ne hXa.ints.own (by decide) e.symm))).trans (hXa.box 4 _ rfl); have g4 := (hXa.blk.kept hg2 (fun e => hXa.blk.ne hXa.ints.own (by decide) e.symm)).fro 4)
            have hX9 := hXa.grow (by decide) hg2 ho2
            have hC9 := (hCa.kept hg2 (fun e => by have := (hXa.ints.own.lt _ e.symm).1; omega) (fun j e => by have := (hXa.ints.own.lt _ e).1; omega)).kept (grown_set z2 bx 4 (.slice va (ps.length + 1) vc)) (by simp; omega) (fun j e => by cases e; omega)
            go_roundw
            case rel => exact ⟨j + 1, a', f', ps ++ [(vp : Int)], _, by omega, by go_num, hC9, hX9, rnums_next hjl HQj.out EP.out, (by rw [List.length_append, HLj.out]; rfl), by omega, fun e => by have := rnum_good (e ▸ EP.out); omega⟩
            case measure => simp [intOf]; omega
          · have E7 : Hid (rnums b vm (a10, f10) = (ps, (a, f))) := rnums_end (fun h => hgo2 h) HQj.out
            have hway : (j < vm ∧ f = true) ∨ j = vm := by
              rcases Nat.lt_or_ge j vm with h | h
              · cases f with
                | true => exact .inl ⟨h, rfl⟩
                | false => exact absurd ⟨h, rfl⟩ hgo2
              · exact .inr (by omega)
            have hpl : ps.length ≤ 2000001 := by rw [HLj.out]; omega
            have hfl := hCj.flag
            clear hgo2 HQj HKj
            have hC20 := hCj
            have hX20 := hXj
            clear hCj hXj
            rcases hway with ⟨hjl, hft⟩ | hje
            rotate_left
            · have hji : ¬ (j : Int) < (vm : Int) := by omega
              have hjd : decide ((j : Int) < (vm : Int)) = false := decide_eq_false hji
              clear hfl hje
              go_wp2_with fail
              have H21 := cnum_any (s := (a, f)) hC20 4 hb12 (by decide)
              have b21 := rnum_lt b 4 (a, f)
              generalize hr21 : rnum b 4 (a, f) = r21 at *
              obtain ⟨vd, a21, f21⟩ := r21
              have E21 := Lib.hid hr21
              clear hr21
              replace b21 : vd < 4294967296 := b21
              have bi21 : (vd : Int) < 4294967296 := by omega
              refine H21.mono ?_
              rintro e y21 ⟨rfl, hC21, hg21⟩
              replace hC21 : Cu w y21 w.heap.size b a21 f21 := hC21
              have hX21 := hX20.read hC20.blk (by decide) (by decide) hC20.ge hg21
              clear H21 hg21 hX20 hC20
              go_wp2_with fail
              have H22 := ctake_any (s := (a21, f21)) hC21 vd hb12 (by omega)
              generalize hr22 : rtake b vd (a21, f21) = r22 at *
              obtain ⟨td, a22, f22⟩ := r22
              have E22 := Lib.hid hr22
              clear hr22
              refine H22.mono ?_
              rintro e y22 ⟨⟨o22, c22, rfl, hs22, hn22, _⟩, hC22, hg22⟩
              replace hC22 : Cu w y22 w.heap.size b a22 f22 := hC22
              have hX22 := hX21.read hC21.blk (by decide) (by decide) hC21.ge hg22
              have kc := run_string_seen byT Tryz.underlying9 y22 o22 td c22 (hs22.below hC22.below) hn22
              clear H22 hg22 hX21 hC21 hs22 hn22
              have q := hX22.box 3 _ rfl
              have g := hX22.blk.fro 3
              go_upto_region 22 with fail
              have hX23 := hX22.store (i := 3) (c := (.string (mk td))) (x' := (⟨tp, vk, vz, td, ps, (vs : Int) - 1⟩ : PItem)) (sl' := sl) (by decide) (by decide) rfl hX22.ints
              have hC23 := hC22.kept (grown_set y22 bx 3 (.string (mk td))) (by simp; omega) (fun j e => by cases e; omega)
              generalize y22.setCell ⟨bx, 3, none⟩ (.string (mk td)) = y23 at *
              clear q g hX22 hC22 kc
              have HIT := Lib.hid (ritem_eq E1.out E3.out E4.out E6.out E8.out E10.out E7.out E21.out E22.out)
              have HQ2 := ritems_next hlt HQ.out HIT.out
              have HK2 : Hid (f22 = false → k + 1 ≤ a22) := fun e => by have := ritem_le hal hbl (e ▸ HIT.out); omega
              have hll : l.length ≤ 2000001 := by rw [HL.out]; omega
              clear E1 E3 E4 E6 E8 E10 E7 E21 E22 HIT HQ HLj
              have x0 := hX23.box 0 _ rfl
              have x1 := hX23.box 1 _ rfl
              have x2 := hX23.box 2 _ rfl
              have x3 := hX23.box 3 _ rfl
              have x4 := hX23.box 4 _ rfl
              have x5 := hX23.box 5 _ rfl
              obtain ⟨sa, sc, rfl⟩ := own_form hX23.ints.own
              have hXf := hX23.kept (grown_alloc y23 (.cells #[.string (mk tp), .int .i64 vk, .int .i64 vz, .string (mk td), .slice sa ps.length sc, .int .i64 ((vs : Int) - 1)] 42))
              have hCf := hC23.kept (grown_alloc y23 (.cells #[.string (mk tp), .int .i64 vk, .int .i64 vz, .string (mk td), .slice sa ps.length sc, .int .i64 ((vs : Int) - 1)] 42)) (by simp) (fun j e => by cases e)
              have hbs := hXf.its.below.size
              go_wp2_with (first | (refine wpList_slice_ditem rfl 81 rfl rfl ?_) | (at_builtin; refine wpList_append_own_at _ rfl (.tmp 80) (.tmp 82) 23 rfl w.heap.size 42 j0 zItem 6 80 Tryz.underlying23 hj0 hy0 hy1 hy2 rfl (by decide) _ l.length _ rfl hXf.its.own ⟨y23.heap.size, 0, none⟩ 1 1 (itemC ⟨tp, vk, vz, td, ps, (vs : Int) - 1⟩ (.slice sa ps.length sc)) rfl (by rfl) (news_new _ (itemC ⟨tp, vk, vz, td, ps, (vs : Int) - 1⟩ (.slice sa ps.length sc)) _) (itemC_one _ _ _ _) (by unfold maxLen; omega) (by omega) hbs ?_; intro v3 z3 ho3 hg3 _ _))
              have hA3 := hXf.apart hA
              have hI3 := hXf.done (by decide) ho3 hg3
              have hC3 := hCf.kept hg3 (fun e => hCf.blk.ne hXf.its.own (by decide) e.symm) (fun j e => (hXf.its.own.lt j e).1)
              go_roundw
              case rel => exact ⟨k + 1, a22, f22, _, _, by omega, by go_num, hC3, hI3, hA3, HQ2.out, (by rw [List.length_append, HL.out]; rfl), by omega, HK2.out⟩
              case measure => simp [intOf]; omega
            · have hji : (j : Int) < (vm : Int) := by omega
              rw [hft] at hfl
              clear hft
              go_wp2_with fail
              have H21 := cnum_any (s := (a, f)) hC20 4 hb12 (by decide)
              have b21 := rnum_lt b 4 (a, f)
              generalize hr21 : rnum b 4 (a, f) = r21 at *
              obtain ⟨vd, a21, f21⟩ := r21
              have E21 := Lib.hid hr21
              clear hr21
              replace b21 : vd < 4294967296 := b21
              have bi21 : (vd : Int) < 4294967296 := by omega
              refine H21.mono ?_
              rintro e y21 ⟨rfl, hC21, hg21⟩
              replace hC21 : Cu w y21 w.heap.size b a21 f21 := hC21
              have hX21 := hX20.read hC20.blk (by decide) (by decide) hC20.ge hg21
              clear H21 hg21 hX20 hC20
              go_wp2_with fail
              have H22 := ctake_any (s := (a21, f21)) hC21 vd hb12 (by omega)
              generalize hr22 : rtake b vd (a21, f21) = r22 at *
              obtain ⟨td, a22, f22⟩ := r22
              have E22 := Lib.hid hr22
              clear hr22
              refine H22.mono ?_
              rintro e y22 ⟨⟨o22, c22, rfl, hs22, hn22, _⟩, hC22, hg22⟩
              replace hC22 : Cu w y22 w.heap.size b a22 f22 := hC22
              have hX22 := hX21.read hC21.blk (by decide) (by decide) hC21.ge hg22
              have kc := run_string_seen byT Tryz.underlying9 y22 o22 td c22 (hs22.below hC22.below) hn22
              clear H22 hg22 hX21 hC21 hs22 hn22
              have q := hX22.box 3 _ rfl
              have g := hX22.blk.fro 3
              go_upto_region 22 with fail
              have hX23 := hX22.store (i := 3) (c := (.string (mk td))) (x' := (⟨tp, vk, vz, td, ps, (vs : Int) - 1⟩ : PItem)) (sl' := sl) (by decide) (by decide) rfl hX22.ints
              have hC23 := hC22.kept (grown_set y22 bx 3 (.string (mk td))) (by simp; omega) (fun j e => by cases e; omega)
              generalize y22.setCell ⟨bx, 3, none⟩ (.string (mk td)) = y23 at *
              clear q g hX22 hC22 kc
              have HIT := Lib.hid (ritem_eq E1.out E3.out E4.out E6.out E8.out E10.out E7.out E21.out E22.out)
              have HQ2 := ritems_next hlt HQ.out HIT.out
              have HK2 : Hid (f22 = false → k + 1 ≤ a22) := fun e => by have := ritem_le hal hbl (e ▸ HIT.out); omega
              have hll : l.length ≤ 2000001 := by rw [HL.out]; omega
              clear E1 E3 E4 E6 E8 E10 E7 E21 E22 HIT HQ HLj
              have x0 := hX23.box 0 _ rfl
              have x1 := hX23.box 1 _ rfl
              have x2 := hX23.box 2 _ rfl
              have x3 := hX23.box 3 _ rfl
              have x4 := hX23.box 4 _ rfl
              have x5 := hX23.box 5 _ rfl
              obtain ⟨sa, sc, rfl⟩ := own_form hX23.ints.own
              have hXf := hX23.kept (grown_alloc y23 (.cells #[.string (mk tp), .int .i64 vk, .int .i64 vz, .string (mk td), .slice sa ps.length sc, .int .i64 ((vs : Int) - 1)] 42))
              have hCf := hC23.kept (grown_alloc y23 (.cells #[.string (mk tp), .int .i64 vk, .int .i64 vz, .string (mk td), .slice sa ps.length sc, .int .i64 ((vs : Int) - 1)] 42)) (by simp) (fun j e => by cases e)
              have hbs := hXf.its.below.size
              go_wp2_with (first | (refine wpList_slice_ditem rfl 81 rfl rfl ?_) | (at_builtin; refine wpList_append_own_at _ rfl (.tmp 80) (.tmp 82) 23 rfl w.heap.size 42 j0 zItem 6 80 Tryz.underlying23 hj0 hy0 hy1 hy2 rfl (by decide) _ l.length _ rfl hXf.its.own ⟨y23.heap.size, 0, none⟩ 1 1 (itemC ⟨tp, vk, vz, td, ps, (vs : Int) - 1⟩ (.slice sa ps.length sc)) rfl (by rfl) (news_new _ (itemC ⟨tp, vk, vz, td, ps, (vs : Int) - 1⟩ (.slice sa ps.length sc)) _) (itemC_one _ _ _ _) (by unfold maxLen; omega) (by omega) hbs ?_; intro v3 z3 ho3 hg3 _ _))
              have hA3 := hXf.apart hA
              have hI3 := hXf.done (by decide) ho3 hg3
              have hC3 := hCf.kept hg3 (fun e => hCf.blk.ne hXf.its.own (by decide) e.symm) (fun j e => (hXf.its.own.lt j e).1)
              go_roundw
              case rel => exact ⟨k + 1, a22, f22, _, _, by omega, by go_num, hC3, hI3, hA3, HQ2.out, (by rw [List.length_append, HL.out]; rfl), by omega, HK2.out⟩
              case measure => simp [intOf]; omega
        -- END
    · have hki : ¬ (k : Int) < (n0 : Int) := by omega
      have hkd : decide ((k : Int) < (n0 : Int)) = false := decide_eq_false hki
      have HE := ritems_end (fun h => hlt h.1) HQ.out
      have hfl := hC.flag
      cases bad with
      | true =>
        have ha := Lib.hid (ans_bad (show readB b = none by rw [rread_eq, HE.out]; rfl))
        clear HE HQ HL HK
        go_wp2_with fail
        go_ret2
        exact ⟨.slice none 0 0, [], by rw [ha.out.2]; rfl, by rw [ha.out.1]; exact noItems _ hC.below, Apart.nil⟩
      | false =>
        have hrd : readB b = some l := by rw [rread_eq, HE.out]; rfl
        obtain ⟨hsn, hll⟩ := readB_some hrd hbl
        obtain ⟨ro, rc, rfl, hRI⟩ := hI.at_
        have HEn := dencode_any l ro rc wr hRI hsn (by omega)
        have hb2 := hC.below
        have kb := fun W (h : Below wr.heap.size wr W) => run_string_seen byT Tryz.underlying9 W ao b ca (hs.below (hb2.trans (h.mono hb2.size))) hnil
        clear HE HQ HL HK
        cases hr : right lt l with
        | false =>
          have ha := Lib.hid (ans_no hrd (fun h => by rw [hr] at h; cases h.1))
          have HR := Lib.hid hr
          clear hr hrd
          go_wp2_with fail
          refine HEn.mono ?_
          rintro e w5 ⟨hb5, h5, _⟩
          obtain rfl := h5 HR.out
          clear h5 kb
          go_wp2_with fail
          go_ret2
          exact ⟨.slice none 0 0, [], by rw [ha.out.2]; rfl, by rw [ha.out.1]; exact noItems _ (hb2.trans (hb5.mono hb2.size)), Apart.nil⟩
        | true =>
          have HR := Lib.hid hr
          clear hr
          by_cases he : enc l = b
          · have ha := Lib.hid (ans_yes hrd HR.out he)
            have HE2 := Lib.hid he
            clear hrd he
            go_wp2_with fail
            refine HEn.mono ?_
            rintro e w5 ⟨hb5, _, h5⟩
            obtain ⟨ev, rfl, hO⟩ := h5 HR.out
            obtain ⟨ea, ec, rfl⟩ := own_form hO.own
            have k1 := (run_own_string byT Tryz.underlying9 w5 _ _ (enc l) hO.own).trans (show _ = Result.ok (Value.string (mk b)) w5 by rw [HE2.out])
            have k2 := kb w5 hb5
            clear h5 kb
            go_wp2_with fail
            go_ret2
            exact ⟨.slice ro l.length rc, sls, by rw [ha.out.2]; rfl, by rw [ha.out.1]; exact hI.grown hb5, hA⟩
          · have ha := Lib.hid (ans_no hrd (fun h => he h.2))
            have k3 : ((mk (enc l)).toList == (mk b).toList) = false := by rw [mk_toList, mk_toList]; exact beq_eq_false_iff_ne.2 he
            clear hrd he
            go_wp2_with fail
            refine HEn.mono ?_
            rintro e w5 ⟨hb5, _, h5⟩
            obtain ⟨ev, rfl, hO⟩ := h5 HR.out
            obtain ⟨ea, ec, rfl⟩ := own_form hO.own
            have k1 := run_own_string byT Tryz.underlying9 w5 _ _ (enc l) hO.own
            have k2 := kb w5 hb5
            clear h5 kb
            go_wp2_with fail
            go_ret2
            exact ⟨.slice none 0 0, [], by rw [ha.out.2]; rfl, by rw [ha.out.1]; exact noItems _ (hb2.trans (hb5.mono hb2.size)), Apart.nil⟩
end Pw
end Go.Proofs.YtnmgdlmicgbapaaGreatDoor
