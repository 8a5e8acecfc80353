/- The walk of the program's Encode. -/
import Derived.Test.YtnmgdlmicgbapaaDoorPWRight
import Derived.Test.YtnmgdlmicgbapaaDoorPWRow
import Derived.Lib.SlBytesConst
namespace Go.Proofs.YtnmgdlmicgbapaaDoor
open Go.RowKit Go.Maps

namespace Pw
open Pk
/-- The bytes ahead of item number k. -/
def acc (l : List PItem) (k : Nat) : List UInt8 := magic ++ low 4 l.length ++ (l.take k).flatMap itemB
theorem acc_len (l : List PItem) (h : ∀ x ∈ l, Fits x) (k : Nat) : (acc l k).length ≤ 12 + 8700000 * l.length := by
  have h1 : ∀ r : List PItem, (∀ x ∈ r, Fits x) → (r.flatMap itemB).length ≤ 8700000 * r.length := by
    intro r
    induction r with
    | nil => intro _; simp
    | cons x r ih =>
      intro h
      have h2 := ih fun y hy => h y (by simp [hy])
      have h3 := h x (by simp)
      have h4 := h3.path; have h5 := h3.data; have h6 := h3.count
      rw [List.flatMap_cons, List.length_append, itemB_len, List.length_cons]
      omega
  have h2 := h1 (l.take k) fun x hx => h x (List.mem_of_mem_take hx)
  have h3 : (l.take k).length ≤ l.length := by rw [List.length_take]; omega
  unfold acc
  rw [List.length_append, List.length_append, low_len]
  have : magic.length = 8 := rfl
  omega
theorem acc_succ (l : List PItem) (k : Nat) (x : PItem) (h : l[k]? = some x) : acc l (k + 1) = acc l k ++ itemB x := by
  unfold acc
  rw [take_snoc l k x h, List.flatMap_append]
  simp
theorem acc_enc (l : List PItem) (k : Nat) : (acc l k).length ≤ (enc l).length := by
  unfold acc enc body
  simp only [List.length_append, low_len]
  have h1 := congrArg List.length (congrArg (List.flatMap itemB) (List.take_append_drop k l))
  rw [List.flatMap_append, List.length_append] at h1
  omega
theorem enc_len_of (l : List PItem) (h : ∀ x ∈ l, Fits x) : (enc l).length ≤ 16 + 8700000 * l.length := by
  have := acc_len l h l.length
  rw [show acc l l.length = body l by unfold acc body; rw [List.take_length]] at this
  unfold enc
  rw [List.length_append, low_len]
  omega
theorem acc_all (l : List PItem) (k : Nat) (h : l.length ≤ k) : acc l k = body l := by
  unfold acc body
  rw [List.take_of_length_le h]
/-- An item's bytes, in the order of the code. -/
theorem itemB_eq (L : List UInt8) (x : PItem) : L ++ itemB x = (((((((L ++ low 1 x.kind.toNat) ++ low 2 x.path.length) ++ x.path) ++ low 4 (x.same + 1).toNat) ++ low 4 x.size.toNat) ++ low 4 x.pieces.length) ++ (x.pieces.take x.pieces.length).flatMap fun p => low 4 p.toNat) ++ low 4 x.data.length ++ x.data := by
  unfold itemB
  rw [List.take_length]
  simp
theorem pieces_succ (ps : List Int) (j : Nat) (p : Int) (h : ps[j]? = some p) : ((ps.take (j + 1)).flatMap fun p => low 4 p.toNat) = ((ps.take j).flatMap fun p => low 4 p.toNat) ++ low 4 p.toNat := by
  rw [take_snoc ps j p h, List.flatMap_append]
  simp
theorem own_alloc {w0 W : World} {v : Value} {L : List UInt8} (h : Own w0 W v L) (o : Obj) : Own w0 (W.alloc o) v L := ⟨h.own.alloc o, h.below.alloc h.below.size o⟩
theorem row_new {w0 W : World} {v : Value} {L : List UInt8} (h : Own w0 W v L) (x : PItem) (sl : Value) (t : TypeId) : Row w0 (W.alloc (.cells #[.string (mk x.path), .int .i64 x.kind, .int .i64 x.size, .string (mk x.data), sl, .int .i64 x.same] t)) v L W.heap.size x sl :=
  ⟨own_alloc h _, fun e => absurd (h.own.lt _ e).2 (Nat.lt_irrefl _), by simp, BoxAt.new W x sl t⟩
theorem pieces_len (ps : List Int) (j : Nat) : ((ps.take j).flatMap fun p => low 4 p.toNat).length ≤ 4 * ps.length := by
  rw [flat4_len, List.length_take]
  omega
theorem magic_get (j : Nat) (u : Value) (h : (bytesV magic)[j]? = some u) : (#[.int .u8 66, .int .u8 79, .int .u8 76, .int .u8 69, .int .u8 80, .int .u8 65, .int .u8 75, .int .u8 49] : Array Value)[j]? = some u := by
  have e : (#[.int .u8 66, .int .u8 79, .int .u8 76, .int .u8 69, .int .u8 80, .int .u8 65, .int .u8 75, .int .u8 49] : Array Value) = (bytesV magic).toArray := rfl
  rw [e, List.getElem?_toArray]
  exact h
theorem isW1 : isW 1 := by unfold isW; simp
theorem isW2 : isW 2 := by unfold isW; simp
theorem isW4 : isW 4 := by unfold isW; simp
set_option maxRecDepth 100000 in
set_option maxHeartbeats 4000000 in
theorem encode_any (l : List PItem) (ao : Option Addr) (cap : Nat) (w : World) (hI : ItemsAt w ao l) (hs : ∀ x ∈ l, Sane x) (hl : l.length ≤ 100000000) (hel : right lt l = true → (enc l).length ≤ 19000000000000) (ht : Tabs w) :
    Calls Tryd.prog 4 #[.slice ao l.length cap] w fun e w' => Below w.heap.size w w' ∧ (right lt l = false → e = .returned (.tuple #[.slice none 0 0, .int .i64 240])) ∧ (right lt l = true → ∃ v, e = .returned (.tuple #[v, .int .i64 0]) ∧ Own w w' v (enc l)) := by
  have HR := isRight_any l ao cap w hI hs hl ht.maxLen ht.maxLenLt
  cases hr : right lt l with
  | false =>
    rw [hr] at HR
    clear hr hI
    go_enter Tryd.func4, Tryd.ntmps4
    go_wp2_with fail
    refine HR.mono ?_
    rintro e w1 ⟨rfl, hb1⟩
    go_wp2
    go_ret2
    exact ⟨hb1, fun _ => rfl, fun h => by cases h⟩
  | true =>
    have hF := right_fits (by omega) hr
    rw [hr] at HR
    have hel2 := hel hr
    have HA := fun k => Nat.le_trans (acc_enc l k) hel2
    clear hel hel2
    have HE := Lib.hid (show enc l = acc l l.length ++ low 4 (crc (acc l l.length)) by rw [acc_all l _ (Nat.le_refl _)]; rfl)
    have hlen := hl
    have kc := fun (W : World) (C : Array Value) (n c : Nat) => Lib.run_convert_bytes_const (P := Tryd.prog) W 23 5 C n c Tryd.underlying23 Tryd.underlying5
    have HP := fun (W : World) (hW : Below w.heap.size w W) => put_full magic W.heap.size l.length 4 w.heap.size (W.alloc (.cells #[.int .u8 66, .int .u8 79, .int .u8 76, .int .u8 69, .int .u8 80, .int .u8 65, .int .u8 75, .int .u8 49] 5 (8, 9))) isW4 (by omega) (by decide) (by rw [World.size_alloc]; have := hW.size; omega) ht.widthsLt hW.size (((hW.alloc hW.size _).cell (p := ⟨_, 4, none⟩) ht.widthsLt).trans (ht.widths 4 isW4)) (fun j u hj => (World.cell?_alloc_mark _ _ _ _ _).trans (magic_get j u hj))
    clear hr
    go_enter Tryd.func4, Tryd.ntmps4
    go_wp2_with fail
    refine HR.mono ?_
    rintro e w1 ⟨rfl, hb1⟩
    go_wp2_with (go_at_call 8; refine (HP w1 hb1).mono ?_; rintro e w2 ⟨v2, rfl, ho2, ha2⟩)
    have hO : Own w w2 v2 (acc l 0) := ⟨by simpa [acc] using ho2, ha2.below (hb1.alloc hb1.size _) (by rw [World.size_alloc]; have := hb1.size; omega) (fun j e => by have : w1.heap.size = j := Option.some.inj e; have := hb1.size; omega)⟩
    clear HP HR ho2 ha2 hb1 kc
    go_loopw [4, 19] (fun bv i wr => ∃ k : Nat, k ≤ l.length ∧ i = .int .i64 k ∧ Own w wr bv (acc l k)) (fun _ i _ => l.length - (intOf i).toNat)
    case atStart => exact ⟨0, Nat.zero_le _, rfl, hO⟩
    case round =>
      obtain ⟨k, hk, rfl, hOr⟩ := hrel
      clear hO
      by_cases hlt : k < l.length
      · obtain ⟨x, hx⟩ : ∃ x, l[k]? = some x := ⟨_, List.getElem?_eq_getElem hlt⟩
        have hxm := List.mem_of_getElem? hx
        have hsx := hs x hxm
        have hfx := hF x hxm
        have hki : (k : Int) < (l.length : Int) := by omega
        obtain ⟨g, o, sl, rfl, hgw, hpx, hcw⟩ := hI k x hx
        have hcx := fun i c hi => (hOr.below.cell (p := ⟨g, o + (k * 6 + i), none⟩) hgw).trans (hcw i c hi)
        have d0 : wr.cell? ⟨g, o + k * 6, none⟩ = some (.string (mk x.path)) := hcx 0 _ rfl
        have d1 : wr.cell? ⟨g, o + k * 6 + 1, none⟩ = some (.int .i64 x.kind) := hcx 1 _ rfl
        have d2 : wr.cell? ⟨g, o + k * 6 + 2, none⟩ = some (.int .i64 x.size) := hcx 2 _ rfl
        have d3 : wr.cell? ⟨g, o + k * 6 + 3, none⟩ = some (.string (mk x.data)) := hcx 3 _ rfl
        have d4 : wr.cell? ⟨g, o + k * 6 + 4, none⟩ = some sl := hcx 4 _ rfl
        have d5 : wr.cell? ⟨g, o + k * 6 + 5, none⟩ = some (.int .i64 x.same) := hcx 5 _ rfl
        have hp2 := hpx
        obtain ⟨sa, sc, rfl, _⟩ := hp2
        have hR0 := row_new hOr x (.slice sa x.pieces.length sc) 29
        have HN := Lib.hid ((acc_succ l k x hx).trans (itemB_eq (acc l k) x))
        have hAk := HA k
        have f1 := hfx.kind; have f2 := hfx.path; have f3 := hfx.same; have f4 := hfx.size; have f5 := hfx.data; have f6 := hfx.count
        clear hcx hcw hx hOr
        go_upto_region 7 with fail
        generalize (wr.alloc (.cells #[.string (mk x.path), .int .i64 x.kind, .int .i64 x.size, .string (mk x.data), .slice sa x.pieces.length sc, .int .i64 x.same] 29)) = W at *
        have hRd := hR0.drew
        have x0 := hR0.box 0 _ rfl
        have x1 := hR0.box 1 _ rfl
        generalize acc l k = A at *
        go_region_held3 (fun w' => w'.cell? ⟨wr.heap.size, 0, none⟩ = some (.string (mk x.path)) ∧ w'.cell? ⟨wr.heap.size, 1, none⟩ = some (.int .i64 x.kind)) (go_keep) ((first | (go_at_call 8; refine (put_row hR7 ht 2 (x.path.length : Int) isW2 (by omega) (by first | omega | (simp only [List.length_append, low_len]; omega))).mono ?_; rintro e w8 ⟨v8, rfl, hR8⟩; have q8_0 := hR8.box 0 _ rfl; have q8_1 := hR8.box 1 _ rfl) | (go_at_call 8; refine (put_row hRd ht 1 x.kind isW1 (by omega) (by first | omega | (simp only [List.length_append, low_len]; omega))).mono ?_; rintro e w7 ⟨v7, rfl, hR7⟩; have q7_0 := hR7.box 0 _ rfl; have q7_1 := hR7.box 1 _ rfl)))
        go_upto_region 9 with (at_builtin; refine wpList_text_row hR8 rfl _ _ rfl x.path rfl rfl (by first | omega | (simp only [List.length_append, low_len]; omega)) ?_; intro v9 w9 hR9; have q9_5 := hR9.box 5 _ rfl; have q9_2 := hR9.box 2 _ rfl; have q9_4 := hR9.box 4 _ rfl)
        have hR9d := hR9.drew
        have hw9 : IntKind.i64.wrap (x.same + 1) = x.same + 1 := by rw [IntKind.wrap_i64]; omega
        clear hR0 hR7 hR8 hRd
        go_region_held3 (fun w' => w'.cell? ⟨wr.heap.size, 5, none⟩ = some (.int .i64 x.same) ∧ w'.cell? ⟨wr.heap.size, 2, none⟩ = some (.int .i64 x.size) ∧ w'.cell? ⟨wr.heap.size, 4, none⟩ = some (.slice sa x.pieces.length sc)) (go_keep) ((first | (go_at_call 8; refine (put_row hR11 ht 4 (x.pieces.length : Int) isW4 (by omega) (by first | omega | (simp only [List.length_append, low_len]; omega))).mono ?_; rintro e w12 ⟨v12, rfl, hR12⟩; have q12_5 := hR12.box 5 _ rfl; have q12_2 := hR12.box 2 _ rfl; have q12_4 := hR12.box 4 _ rfl) | (go_at_call 8; refine (put_row hR10 ht 4 x.size isW4 (by omega) (by first | omega | (simp only [List.length_append, low_len]; omega))).mono ?_; rintro e w11 ⟨v11, rfl, hR11⟩; have q11_5 := hR11.box 5 _ rfl; have q11_2 := hR11.box 2 _ rfl; have q11_4 := hR11.box 4 _ rfl) | (go_at_call 8; refine (put_row hR9d ht 4 (x.same + 1) isW4 (by omega) (by first | omega | (simp only [List.length_append, low_len]; omega))).mono ?_; rintro e w10 ⟨v10, rfl, hR10⟩; have q10_5 := hR10.box 5 _ rfl; have q10_2 := hR10.box 2 _ rfl; have q10_4 := hR10.box 4 _ rfl)))
        clear hR9 hR9d hR10 hR11
        simp only [Int.toNat_natCast] at hR12
        generalize wr.heap.size = bx at *
        obtain ⟨B, hB, hBl, HB⟩ : ∃ B, Row w w12 v12 B bx x (.slice sa x.pieces.length sc) ∧ B.length ≤ 20000000000000 ∧ Hid (acc l (k + 1) = B ++ ((x.pieces.take x.pieces.length).flatMap fun p => low 4 p.toNat) ++ low 4 x.data.length ++ x.data) :=
          ⟨_, hR12, by simp only [List.length_append, low_len]; omega, HN.out⟩
        have HPL := fun j => pieces_len x.pieces j
        clear HN hR12 hw9
        go_wp2
        go_loopw [4, 50] (fun bv i wy => ∃ j : Nat, j ≤ x.pieces.length ∧ i = .int .i64 j ∧ Row w wy bv (B ++ (x.pieces.take j).flatMap fun p => low 4 p.toNat) bx x (.slice sa x.pieces.length sc)) (fun _ i _ => x.pieces.length - (intOf i).toNat)
        case atStart => exact ⟨0, Nat.zero_le _, rfl, by simpa using hB⟩
        case round =>
          obtain ⟨j, hj, rfl, hRj⟩ := hrel
          have hPj := HPL j
          clear hB
          by_cases hjl : j < x.pieces.length
          · obtain ⟨p, hp⟩ : ∃ p, x.pieces[j]? = some p := ⟨_, List.getElem?_eq_getElem hjl⟩
            have hpf := hfx.pieces p (List.mem_of_getElem? hp)
            have hji : (j : Int) < (x.pieces.length : Int) := by omega
            have HPS := Lib.hid (pieces_succ x.pieces j p hp)
            have hpy := hpx.below hRj.below
            obtain ⟨_, _, e1, _, _, _, hcell⟩ := hpy
            cases e1
            obtain ⟨g3, o3, rfl, _, hc3⟩ := hcell j p hp
            have HPut := put_row hRj ht 4 p isW4 (by omega) (by rw [List.length_append]; omega)
            have q4 := hRj.box 4 _ rfl
            clear hcell hp HPL
            go_wp2_with fail
            refine HPut.mono ?_
            rintro e w13 ⟨v13, rfl, hR13⟩
            go_wp2
            go_roundw
            case rel => exact ⟨j + 1, by omega, by go_num, by rw [HPS.out, ← List.append_assoc]; exact hR13⟩
            case measure => simp [intOf]; omega
          · obtain rfl : j = x.pieces.length := by omega
            have hRjd := hRj.drew
            have q3 := hRj.box 3 _ rfl
            clear HPL
            generalize hB2 : (B ++ (x.pieces.take x.pieces.length).flatMap fun p => low 4 p.toNat) = B2 at *
            have hBl2 : B2.length ≤ 30000000000000 := by rw [← hB2, List.length_append]; omega
            clear hB2
            go_wp2
            go_region_held3 (fun w' => w'.cell? ⟨bx, 3, none⟩ = some (.string (mk x.data))) (go_keep) ((first | (refine step_text_row hR14 rfl _ _ rfl x.data rfl rfl (by first | omega | (simp only [List.length_append, low_len]; omega)) ?_; intro v15 w15 hR15; have q15 := hR15.box 3 _ rfl) | (go_at_call 8; refine (put_row hRjd ht 4 (x.data.length : Int) isW4 (by omega) (by omega)).mono ?_; rintro e w14 ⟨v14, rfl, hR14⟩; have q14 := hR14.box 3 _ rfl)))
            go_wp2
            go_roundw
            case rel => exact ⟨k + 1, by omega, by go_num, by rw [HB.out]; simpa only [Int.toNat_natCast] using hR15.toOwn⟩
            case measure => simp [intOf]; omega
      · obtain rfl : k = l.length := by omega
        have HAl := HA l.length
        have hpos : 8 ≤ (acc l l.length).length := by
          unfold acc
          rw [List.length_append, List.length_append]
          have : magic.length = 8 := rfl
          omega
        obtain ⟨g, cap2, rfl, _, _, _, _, _, _⟩ := own_at hOr.own (by omega)
        have HO := of_any (acc l l.length) g cap2 wr (by omega) (BytesAt.of_own hOr.own) (ht.all hOr.below).half
        have hcrc := crc_lt (acc l l.length)
        have HPut := put_own hOr ht 4 (crc (acc l l.length) : Int) isW4 (by omega) (by omega)
        rw [Int.toNat_natCast] at HPut
        rw [← HE.out] at HPut
        clear HE HA hpos
        generalize crc (acc l l.length) = c at *
        go_wp2_with (first | (go_at_call 9; refine HO.mono ?_; rintro e w3 ⟨rfl, rfl⟩) | (go_at_call 8; refine HPut.mono ?_; rintro e w4 ⟨v4, rfl, ho4, ha4⟩))
        go_ret2
        have hF := hOr.app ho4 ha4
        exact ⟨hF.below, (fun h => by cases h), fun _ => ⟨_, rfl, hF⟩⟩
end Pw
end Go.Proofs.YtnmgdlmicgbapaaDoor
