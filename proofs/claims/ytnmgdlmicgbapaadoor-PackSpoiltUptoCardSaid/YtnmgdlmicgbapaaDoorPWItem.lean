/- The walks of what one item may be: the program's zeros, end, isEmpty, isFile; the document's zeros, long, file. -/
import Derived.Test.YtnmgdlmicgbapaaDoorPItems
import Derived.Test.YtnmgdlmicgbapaaDoorPShelf
import Derived.Test.YtnmgdlmicgbapaaDoorChecked
import Derived.WalkSmall
namespace Go.Proofs.YtnmgdlmicgbapaaDoor
open Go.RowKit

namespace Pw
open Pk
theorem mk_toList (l : List UInt8) : (mk l).toList = l := toList_bs (mk l)
theorem isEmpty_any (x : PItem) (sl : Value) (w : World) (hx : Sane x) (hp : IntsAt w sl x.pieces) : Calls Tryd.prog 18 #[itemV x sl] w fun e w' => e = .returned (.bool (isEmpty x)) ∧ Below w.heap.size w w' := by
  obtain ⟨ao, cap, rfl, _⟩ := hp
  have hm := hx.many
  have HE := Lib.hid (show isEmpty x = (decide (x.size = 0) && x.data.isEmpty && x.pieces.isEmpty) from rfl)
  unfold itemV
  go_enter Tryd.func18, Tryd.ntmps18
  go_wp2
  all_goals
    go_ret
    refine ⟨ret_bool ?_, (Below.refl _ _).alloc (Nat.le_refl _) _⟩
    rw [HE.out]
    simp_all [mk_toList]
  all_goals (cases x.pieces <;> simp <;> omega)
theorem drop_nil (p : UInt8 → Bool) : ∀ l : List UInt8, l.dropWhile p = [] ↔ ∀ x ∈ l, p x = true
  | [] => by simp
  | c :: r => by
    rw [List.dropWhile_cons]
    cases hc : p c
    · simp [hc]
    · simp [hc, drop_nil p r]
theorem zeros_all (l : List UInt8) : Lib.trimB l 0 = [] ↔ allZero l = true := by
  unfold Lib.trimB Lib.trimLeftB Lib.trimRightB allZero
  rw [drop_nil (· == 0), List.all_eq_true]
  constructor
  · intro h
    cases hd : l.reverse.dropWhile (· == 0) with
    | nil =>
      have h2 := (drop_nil _ _).1 hd
      exact fun x hx => h2 x (by simpa using hx)
    | cons c r =>
      have h1 := h c (by rw [hd]; simp)
      have h2 := List.head_dropWhile_not (p := (· == (0 : UInt8))) (l := l.reverse) (by rw [hd]; simp)
      simp only [hd, List.head_cons] at h2
      rw [h1] at h2
      cases h2
  · intro h x hx
    have h2 : l.reverse.dropWhile (· == 0) = [] := (drop_nil _ _).2 fun x hx => h x (by simpa using hx)
    rw [h2] at hx
    cases hx
theorem zeros_any (l : List UInt8) (w : World) (hl : l.length ≤ 9000000) : Calls Tryd.prog 31 #[.string (mk l)] w fun e w' => e = .returned (.bool (allZero l)) ∧ Below w.heap.size w w' := by
  have HT := Tryd.strings_Trim_one (mk l) 0 (by decide) w (by show l.length ≤ _; omega)
  have HZ := Lib.hid (zeros_all l)
  have e : Lib.trimB (mk l).data.toList 0 = Lib.trimB l 0 := rfl
  rw [e] at HT
  clear e
  generalize Lib.trimB l 0 = t at HT HZ
  go_enter Tryd.func31, Tryd.ntmps31
  go_wp2_with (go_at_call 40; refine HT.mono ?_; rintro e w' ⟨rfl, hw⟩)
  go_ret
  refine ⟨ret_bool ?_, ?_⟩
  · show t.isEmpty = allZero l
    rw [Bool.eq_iff_iff, ← HZ.out]
    simp
  · rcases hw with rfl | rfl
    · exact Below.refl _ _
    · exact (Below.refl _ _).drew
theorem end_any (size p : Int) (w : World) (h1 : 0 ≤ size) (h2 : size ≤ 8459264) (h3 : 0 ≤ p) (h4 : 512 * p < size) : Calls Tryd.prog 30 #[.int .i64 size, .int .i64 p] w fun e w' => e = .returned (.int .i64 (512 * p + min 512 (size - 512 * p))) ∧ w = w' := by
  go_enter Tryd.func30, Tryd.ntmps30
  go_wp2
  all_goals
    go_ret
    exact ⟨ret_int (by omega), rfl⟩
theorem mk_upto (l : List UInt8) (k : Nat) : (mk l).extract 0 k = mk (l.take k) := Lib.extract_upto (mk l) k
theorem mk_from (l : List UInt8) (k : Nat) : (mk l).extract k l.length = mk (l.drop k) := Lib.extract_from (mk l) k
theorem filePs_step (size last p : Int) (data : List UInt8) (ps : List Int) (h1 : last < p) (h2 : 512 * p < size) (n : Nat) (hn : n = (min 512 (size - 512 * p)).toNat) :
    filePs size last data (p :: ps) = (!decide (data.length < n) && (!allZero (data.take n) && filePs size p (data.drop n) ps)) := by
  rw [filePs, if_neg (by omega), ← hn]
  by_cases h3 : data.length < n
  · simp [h3]
  · cases h4 : allZero (data.take n) <;> simp [h3]
theorem filePs_no (size last p : Int) (data : List UInt8) (ps : List Int) (h : p ≤ last ∨ size ≤ 512 * p) : filePs size last data (p :: ps) = false := by rw [filePs, if_pos h]
/-- The box of an item. -/
def BoxAt (w : World) (b : Nat) (x : PItem) (sl : Value) : Prop := ∀ i c, (itemC x sl)[i]? = some c → w.cell? ⟨b, i, none⟩ = some c
theorem BoxAt.new (w : World) (x : PItem) (sl : Value) (t : TypeId) : BoxAt (w.alloc (.cells #[.string (mk x.path), .int .i64 x.kind, .int .i64 x.size, .string (mk x.data), sl, .int .i64 x.same] t)) w.heap.size x sl := by
  intro i c h
  simp only [World.cell?]
  rw [heap_alloc_new]
  simpa [itemC] using h
theorem BoxAt.below {w w' : World} {b B : Nat} {x : PItem} {sl : Value} (h : BoxAt w b x sl) (hb : Below B w w') (hl : b < B) : BoxAt w' b x sl := fun i c hi => (hb.cell (p := ⟨b, i, none⟩) hl).trans (h i c hi)
set_option maxRecDepth 100000 in
set_option maxHeartbeats 1000000 in
theorem isFile_any (x : PItem) (sl : Value) (w : World) (hx : Sane x) (hp : IntsAt w sl x.pieces) : Calls Tryd.prog 22 #[itemV x sl] w fun e w' => e = .returned (.bool (file x)) ∧ Below w.heap.size w w' := by
  obtain ⟨ao, cap, rfl, hnil, hcap, hmax, hcell⟩ := hp
  have hm := hx.many
  have hxd := hx.data
  have HE := Lib.hid (show file x = (decide (0 ≤ x.size ∧ x.size ≤ 8459264) && filePs x.size (-1) x.data x.pieces) from rfl)
  have hp2 : IntsAt w (.slice ao x.pieces.length cap) x.pieces := ⟨ao, cap, rfl, hnil, hcap, hmax, hcell⟩
  clear hnil hcap hmax hcell
  unfold itemV
  by_cases hs : 0 ≤ x.size ∧ x.size ≤ 8459264
  · obtain ⟨hs1, hs2⟩ := hs
    have HF := Lib.hid (show file x = filePs x.size (-1) x.data x.pieces by rw [HE.out, decide_eq_true ⟨hs1, hs2⟩]; rfl)
    have hB0 := BoxAt.new w x (.slice ao x.pieces.length cap) 29
    have hP0 := hp2.alloc (.cells #[.string (mk x.path), .int .i64 x.kind, .int .i64 x.size, .string (mk x.data), (.slice ao x.pieces.length cap), .int .i64 x.same] 29)
    have hbe : Below w.heap.size w (w.alloc (.cells #[.string (mk x.path), .int .i64 x.kind, .int .i64 x.size, .string (mk x.data), (.slice ao x.pieces.length cap), .int .i64 x.same] 29)) := (Below.refl _ _).alloc (Nat.le_refl _) _
    have hsz : (w.alloc (.cells #[.string (mk x.path), .int .i64 x.kind, .int .i64 x.size, .string (mk x.data), (.slice ao x.pieces.length cap), .int .i64 x.same] 29)).heap.size = w.heap.size + 1 := by simp
    have HSZ := Lib.hid hsz
    clear hsz HE hp2
    go_enter Tryd.func22, Tryd.ntmps22
    go_wp2
    generalize hw0 : (w.alloc (.cells #[.string (mk x.path), .int .i64 x.kind, .int .i64 x.size, .string (mk x.data), (.slice ao x.pieces.length cap), .int .i64 x.same] 29)) = w0 at *
    clear hw0
    go_loopw [3, 4, 21] (fun dv lv i wr => ∃ k : Nat, k ≤ x.pieces.length ∧ i = .int .i64 k ∧ ∃ (data : List UInt8) (last : Int), dv = .string (mk data) ∧ lv = .int .i64 last ∧ -1 ≤ last ∧ last ≤ 100000 ∧ data.length ≤ 100000000 ∧ Hid (filePs x.size last data (x.pieces.drop k) = filePs x.size (-1) x.data x.pieces) ∧ Below w0.heap.size w0 wr) (fun _ _ i _ => x.pieces.length - (intOf i).toNat)
    case atStart => exact ⟨0, Nat.zero_le _, rfl, x.data, -1, rfl, rfl, by omega, by omega, hxd, rfl, Below.refl _ _⟩
    case round =>
      obtain ⟨k, hk, rfl, data, last, rfl, rfl, hl1, hl2, hdl, hR, hnx⟩ := hrel
      have hz := hnx.size
      have hBr := hB0.below hnx (by rw [HSZ.out]; omega)
      have hPr := hP0.below hnx
      have b2 := hBr 2 _ rfl
      clear hB0 hP0
      by_cases hlt : k < x.pieces.length
      · obtain ⟨p, hpk⟩ : ∃ p, x.pieces[k]? = some p := ⟨_, List.getElem?_eq_getElem hlt⟩
        have hpm := hx.pieces p (List.mem_of_getElem? hpk)
        have hdr : x.pieces.drop k = p :: x.pieces.drop (k + 1) := by
          rw [List.drop_eq_getElem_cons hlt]; congr 1
          rw [List.getElem?_eq_getElem hlt] at hpk; exact Option.some.inj hpk
        rw [hdr] at hR
        obtain ⟨_, _, e1, _, _, _, hcell⟩ := hPr
        cases e1
        obtain ⟨g, o, rfl, hg, hc⟩ := hcell k p hpk
        clear hcell hpk hdr
        by_cases h1 : p ≤ last
        · have HN := Lib.hid (filePs_no x.size last p data (x.pieces.drop (k + 1)) (.inl h1))
          go_wp2
          go_ret
          refine ⟨ret_bool (by rw [HF.out, ← hR.out, HN.out]), hbe.trans (hnx.mono ?_)⟩
          have := HSZ.out; omega
        · by_cases h2 : x.size ≤ 512 * p
          · have HN := Lib.hid (filePs_no x.size last p data (x.pieces.drop (k + 1)) (.inr h2))
            go_wp2
            go_ret
            refine ⟨ret_bool (by rw [HF.out, ← hR.out, HN.out]), hbe.trans (hnx.mono ?_)⟩
            have := HSZ.out; omega
          · obtain ⟨nn, hnn⟩ : ∃ nn : Nat, nn = (min 512 (x.size - 512 * p)).toNat := ⟨_, rfl⟩
            have HN := Lib.hid (filePs_step x.size last p data (x.pieces.drop (k + 1)) (by omega) (by omega) nn hnn)
            have hn1 : (nn : Int) ≤ 512 := by omega
            have hE := fun W => (end_any x.size p W hs1 hs2 (by omega) (by omega))
            have hee : 512 * p + min 512 (x.size - 512 * p) = p * 512 + nn := by omega
            rw [hee] at hE
            clear hee hnn
            have hsub : p * 512 + (nn : Int) - p * 512 = (nn : Int) := by omega
            have hms : (mk data).size = data.length := rfl
            have hp1 : 0 ≤ p := by omega
            have hp2 : p ≤ 100000 := by omega
            by_cases h3 : data.length < nn
            · have h3' : ((data.length : Int) < (nn : Int)) := by omega
              go_wp2_with (go_at_call 30; refine (hE _).mono ?_; rintro e w' ⟨rfl, rfl⟩)
              go_ret
              refine ⟨ret_bool (by rw [HF.out, ← hR.out, HN.out, decide_eq_true h3]; rfl), hbe.trans (hnx.mono ?_)⟩
              have := HSZ.out; omega
            · have hu := mk_upto data nn
              have hf := mk_from data nn
              have HZ := zeros_any (data.take nn) wr (by have := List.length_take_le nn data; omega)
              go_wp2_with (first | (go_at_call 30; refine (hE _).mono ?_; rintro e w' ⟨rfl, rfl⟩) | (go_at_call 31; refine HZ.mono ?_; rintro e w1 ⟨rfl, hb1⟩))
              · have ha : allZero (data.take nn) = true := by assumption
                go_ret
                refine ⟨ret_bool ?_, hbe.trans ((hnx.trans (hb1.mono hz)).mono ?_)⟩
                · rw [HF.out, ← hR.out, HN.out, decide_eq_false h3, ha]; rfl
                · have := HSZ.out; omega
              · have ha : allZero (data.take nn) = false := by first | assumption | simp_all
                go_roundw
                case rel =>
                  refine ⟨k + 1, by omega, by go_num, _, _, rfl, rfl, by omega, by omega, by rw [List.length_drop]; omega, ?_, hnx.trans (hb1.mono hz)⟩
                  have e := hR.out
                  rw [HN.out, decide_eq_false h3, ha] at e
                  exact e
                case measure => simp [intOf]; omega
      · obtain rfl : k = x.pieces.length := by omega
        have HD := Lib.hid (show filePs x.size last data (x.pieces.drop x.pieces.length) = data.isEmpty by rw [List.drop_length]; rfl)
        go_wp2
        go_ret
        refine ⟨ret_bool ?_, ?_⟩
        · rw [HF.out, ← hR.out, HD.out]
          show (mk data).toList.isEmpty = data.isEmpty
          rw [mk_toList]
        · exact hbe.trans (hnx.mono (by have := HSZ.out; omega))
  · have HF := Lib.hid (show file x = false by rw [HE.out, decide_eq_false hs]; rfl)
    go_enter Tryd.func22, Tryd.ntmps22
    by_cases h0 : x.size < 0
    all_goals
      go_wp2
      go_ret
      exact ⟨ret_bool HF.out.symm, (Below.refl _ _).alloc (Nat.le_refl _) _⟩
end Pw
end Go.Proofs.YtnmgdlmicgbapaaDoor
