/- The walk of the document's Parse. -/
import Derived.Test.YtjloonijnbfhhaaDoorERefPieces
import Derived.Test.YtjloonijnbfhhaaDoorERefPrint
namespace Go.Proofs.YtjloonijnbfhhaaDoor
open Go.RowKit Go.Maps Go.WideShapes

namespace Er
open Qw Rw
theorem parse_cutR {l : List UInt8} {o : Option (List (List UInt8))} (h : Cl.toks Cl.tokR l = o) : Cl.parse l = o.bind Cl.parseToks := by
  rw [Cl.parse_R]; unfold Cl.parseR; rw [h]
/-- The kind that has been found in the table's first rows. -/
def KF (t0 : List UInt8) (k : Nat) (κ : Nat) : Prop := (κ = 0 ∧ ∀ m, m < k - 1 → ∀ r, Cl.rowsT[m]? = some r → r.1 ≠ t0) ∨ (1 ≤ κ ∧ κ < k ∧ ∃ ps, Cl.rowsT[κ - 1]? = some (t0, ps))
theorem kf_ne {t0 : List UInt8} {k κ : Nat} {r : List UInt8 × List Nat} (h1 : 1 ≤ k) (h : KF t0 k κ) (hr : Cl.rowsT[k - 1]? = some r) (hne : r.1 ≠ t0) : KF t0 (k + 1) κ := by
  rcases h with ⟨h0, h⟩ | ⟨h2, h3, h4⟩
  · have := none_of_ne h hr hne
    exact .inl ⟨h0, by rwa [show k + 1 - 1 = k - 1 + 1 by omega]⟩
  · exact .inr ⟨h2, by omega, h4⟩
theorem kf_eq {t0 : List UInt8} {k : Nat} {ps : List Nat} (h1 : 1 ≤ k) (hr : Cl.rowsT[k - 1]? = some (t0, ps)) : KF t0 (k + 1) k := .inr ⟨h1, by omega, ps, hr⟩
/-- While the table is looked through: the call lies behind the words, the table behind it. -/
structure Look (w1 wx : World) (κ : Nat) : Prop where
  below : Below w1.heap.size w1 wx
  holds : Holds wx w1.heap.size (Cl.zero κ)
  table : wx.heap[w1.heap.size + 1]? = some (.cells rowCells 80 (0, 0))
  size : w1.heap.size + 2 ≤ wx.heap.size
theorem look_new (w1 : World) : Look w1 ((w1.alloc (.cells #[.int .i64 0, .string ⟨#[]⟩, .string ⟨#[]⟩, .int .i64 0, .int .i64 0, .string ⟨#[]⟩] 23)).alloc (.cells rowCells 80)) 0 where
  below := ((Below.refl _ _).alloc (Nat.le_refl _) _).alloc (by simp) _
  holds := (heap_alloc_old _ _ (by simp)).trans (heap_alloc_new _ _)
  table := heap_second _ _ _
  size := by simp
theorem look_set {w1 wx : World} {κ : Nat} (h : Look w1 wx κ) (k : Nat) : Look w1 (wx.setCell ⟨w1.heap.size, 0, none⟩ (.int .i64 k)) k where
  below := h.below.setCell (Nat.le_refl _) _
  holds := heap_setCell_same _ _ 0 _ _ _ h.holds
  table := by rw [heap_setCell_other _ _ _ _ (show w1.heap.size + 1 ≠ w1.heap.size by omega)]; exact h.table
  size := by have := h.size; simpa using this
theorem Look.drew {w1 wx : World} {κ : Nat} (h : Look w1 wx κ) (n : Nat) : Look w1 (wx.drewN n) κ := ⟨below_drewN h.below _, h.holds, h.table, h.size⟩
theorem Look.cell {w1 wx : World} {κ : Nat} (h : Look w1 wx κ) (j : Nat) : wx.cell? ⟨w1.heap.size + 1, j, none⟩ = rowCells[j]? := by
  have := h.table
  simp only [World.cell?, this]
  rfl
/-- How far the places are filled. -/
def Fil (z : Cl.PCall) (ps : List Nat) (ts : List (List UInt8)) (i : Nat) (b : Bool) (d : Cl.PCall) : Prop :=
  (b = true ∧ Cl.fill z ps ts = Cl.fill d (ps.drop i) (ts.drop i)) ∨ (b = false ∧ Cl.fill z ps ts = none)
theorem fil_step {z d e : Cl.PCall} {ps : List Nat} {ts : List (List UInt8)} {i p : Nat} {t : List UInt8} {b b' : Bool} (hp : ps[i]? = some p) (ht : ts[i]? = some t) (hf : Fil z ps ts i b d) (hb : b' = (b && (Cl.put d t p).isSome)) (he : ∀ x, Cl.put d t p = some x → x = e) : Fil z ps ts (i + 1) b' e := by
  subst hb
  rcases hf with ⟨rfl, hf⟩ | ⟨rfl, hf⟩
  · have e1 : ps.drop i = p :: ps.drop (i + 1) := by
      obtain ⟨h1, h2⟩ := List.getElem?_eq_some_iff.1 hp
      rw [List.drop_eq_getElem_cons h1, h2]
    have e2 : ts.drop i = t :: ts.drop (i + 1) := by
      obtain ⟨h1, h2⟩ := List.getElem?_eq_some_iff.1 ht
      rw [List.drop_eq_getElem_cons h1, h2]
    rw [e1, e2] at hf
    simp only [Cl.fill] at hf
    cases hq : Cl.put d t p with
    | none => rw [hq] at hf; exact .inr ⟨rfl, hf⟩
    | some x => rw [hq] at hf; rw [he x hq] at hf; exact .inl ⟨rfl, hf⟩
  · exact .inr ⟨rfl, hf⟩
/-- While the places are read: only the call's own block changes. -/
structure Inn (w1 W0 : World) (d : Cl.PCall) (wx : World) : Prop where
  below : Below w1.heap.size w1 wx
  holds : Holds wx w1.heap.size d
  size : W0.heap.size ≤ wx.heap.size
  old : ∀ b, b < W0.heap.size → b ≠ w1.heap.size → wx.heap[b]? = W0.heap[b]?
theorem Inn.step {w1 W0 wx wy : World} {d e : Cl.PCall} {o : Nat} {v : Value} (h : Inn w1 W0 d wx) (hb : Below wx.heap.size wx wy) (he : Holds (wy.setCell ⟨w1.heap.size, o, none⟩ v) w1.heap.size e) : Inn w1 W0 e (wy.setCell ⟨w1.heap.size, o, none⟩ v) where
  below := (h.below.trans (hb.mono h.below.size)).setCell (Nat.le_refl _) _
  holds := he
  size := by have := h.size; have := hb.size; simp; omega
  old := by
    intro b hb1 hne
    rw [heap_setCell_other _ _ _ _ hne]
    exact (hb.block b (by have := h.size; omega)).trans (h.old b hb1 hne)
theorem holds_set {wy : World} {g : Nat} {d : Cl.PCall} (h : Holds wy g d) (x : List UInt8) (n : Int) :
    Holds (wy.setCell ⟨g, 1, none⟩ (.string (mk x))) g { d with path := x } ∧ Holds (wy.setCell ⟨g, 2, none⟩ (.string (mk x))) g { d with other := x } ∧ Holds (wy.setCell ⟨g, 5, none⟩ (.string (mk x))) g { d with data := x } ∧
    Holds (wy.setCell ⟨g, 3, none⟩ (.int .i64 n)) g { d with off := n } ∧ Holds (wy.setCell ⟨g, 4, none⟩ (.int .i64 n)) g { d with size := n } :=
  ⟨heap_setCell_same _ _ 1 _ _ _ h, heap_setCell_same _ _ 2 _ _ _ h, heap_setCell_same _ _ 5 _ _ _ h, heap_setCell_same _ _ 3 _ _ _ h, heap_setCell_same _ _ 4 _ _ _ h⟩
theorem ux_some {t x : List UInt8} (h : Cl.unquote t = some x) : x = ux t := by unfold ux; rw [h]; rfl
theorem put_word (d : Cl.PCall) (t : List UInt8) :
    ((Cl.put d t 0).isSome = (ue t == 0) ∧ ∀ x, Cl.put d t 0 = some x → x = { d with path := ux t }) ∧ ((Cl.put d t 1).isSome = (ue t == 0) ∧ ∀ x, Cl.put d t 1 = some x → x = { d with other := ux t }) ∧ ((Cl.put d t 2).isSome = (ue t == 0) ∧ ∀ x, Cl.put d t 2 = some x → x = { d with data := ux t }) := by
  rw [ue_eq]
  unfold Cl.put ux
  cases h : Cl.unquote t <;> simp
theorem put_num (d : Cl.PCall) (t : List UInt8) (n : Int) (hn : ∀ m, Cl.num t = some m → n = m) :
    ((Cl.put d t 3).isSome = (Cl.num t).isSome ∧ ∀ x, Cl.put d t 3 = some x → x = { d with off := n }) ∧ ((Cl.put d t 4).isSome = (Cl.num t).isSome ∧ ∀ x, Cl.put d t 4 = some x → x = { d with size := n }) := by
  unfold Cl.put
  cases h : Cl.num t with
  | none => simp
  | some m => have := hn m h; subst this; simp

set_option maxRecDepth 100000 in
set_option maxHeartbeats 4000000 in
theorem parse_bad (s : ByteArray) (w : World) (hs : s.size ≤ 1000000000000) (h : Cl.toks Cl.tokR (bs s) = none) : Calls Tryd.prog 14 #[.string s] w (PParse w (Cl.parse (bs s))) := by
  have HP := Lib.hid (parse_cutR h)
  have HT := Lib.hid h
  clear h
  go_enter Tryd.func14, Tryd.ntmps14
  go_wp2_with (go_at_call 33; refine (words_any _ _ hs).mono ?_; rw [HT.out]; rintro e w1 ⟨hb1, v, rfl, hv⟩; have hH : Holds w1 w.heap.size (Cl.zero 0) := res_at hb1 (Below.refl _ _); have k0 : w1.cell? ⟨w.heap.size, 0, none⟩ = some (.int .i64 0) := hH.c0; have k1 : w1.cell? ⟨w.heap.size, 1, none⟩ = some (.string ⟨#[]⟩) := hH.c1; have k2 : w1.cell? ⟨w.heap.size, 2, none⟩ = some (.string ⟨#[]⟩) := hH.c2; have k3 : w1.cell? ⟨w.heap.size, 3, none⟩ = some (.int .i64 0) := hH.c3; have k4 : w1.cell? ⟨w.heap.size, 4, none⟩ = some (.int .i64 0) := hH.c4; have k5 : w1.cell? ⟨w.heap.size, 5, none⟩ = some (.string ⟨#[]⟩) := hH.c5; have kz := hH.z)
  exact bodyPost_ret (v := .tuple #[.agg #[.int .i64 0, .string ⟨#[]⟩, .string ⟨#[]⟩, .int .i64 0, .int .i64 0, .string ⟨#[]⟩], .int .i64 250]) (by simp [results, Tryd.results14, go_sem, res_cells hH (.int .i64 0) (.string ⟨#[]⟩) (.string ⟨#[]⟩) (.int .i64 0) (.int .i64 0) (.string ⟨#[]⟩)]) rfl (pparse_none HP.out (below_res hb1))

set_option maxRecDepth 100000 in
set_option maxHeartbeats 4000000 in
theorem parse_nil (s : ByteArray) (w : World) (hs : s.size ≤ 1000000000000) (h : Cl.toks Cl.tokR (bs s) = some []) : Calls Tryd.prog 14 #[.string s] w (PParse w (Cl.parse (bs s))) := by
  have HP := Lib.hid (parse_cutR h)
  have HT := Lib.hid h
  clear h
  go_enter Tryd.func14, Tryd.ntmps14
  go_wp2_with (go_at_call 33; refine (words_any _ _ hs).mono ?_; rw [HT.out]; rintro e w1 ⟨hb1, v, rfl, hv⟩; obtain ⟨a, c, rfl⟩ := strs_none (hv _ rfl); have hH : Holds w1 w.heap.size (Cl.zero 0) := res_at hb1 (Below.refl _ _); have k0 : w1.cell? ⟨w.heap.size, 0, none⟩ = some (.int .i64 0) := hH.c0; have k1 : w1.cell? ⟨w.heap.size, 1, none⟩ = some (.string ⟨#[]⟩) := hH.c1; have k2 : w1.cell? ⟨w.heap.size, 2, none⟩ = some (.string ⟨#[]⟩) := hH.c2; have k3 : w1.cell? ⟨w.heap.size, 3, none⟩ = some (.int .i64 0) := hH.c3; have k4 : w1.cell? ⟨w.heap.size, 4, none⟩ = some (.int .i64 0) := hH.c4; have k5 : w1.cell? ⟨w.heap.size, 5, none⟩ = some (.string ⟨#[]⟩) := hH.c5; have kz := hH.z; clear hv)
  exact bodyPost_ret (v := .tuple #[.agg #[.int .i64 0, .string ⟨#[]⟩, .string ⟨#[]⟩, .int .i64 0, .int .i64 0, .string ⟨#[]⟩], .int .i64 250]) (by simp [results, Tryd.results14, go_sem, res_cells hH (.int .i64 0) (.string ⟨#[]⟩) (.string ⟨#[]⟩) (.int .i64 0) (.int .i64 0) (.string ⟨#[]⟩)]) rfl (pparse_none HP.out (below_res hb1))

set_option maxRecDepth 100000 in
set_option maxHeartbeats 4000000 in
theorem parse_go (s : ByteArray) (w : World) (hs : s.size ≤ 1000000000000) (t0 : List UInt8) (ts : List (List UInt8)) (h : Cl.toks Cl.tokR (bs s) = some (t0 :: ts)) : Calls Tryd.prog 14 #[.string s] w (PParse w (Cl.parseToks (t0 :: ts))) := by
  have HS := Lib.hid (fun t ht => Cl.toks_size (bs s) _ (Cl.RP h) t ht)
  have HT := Lib.hid h
  clear h
  go_enter Tryd.func14, Tryd.ntmps14
  go_wp2_with (first | (go_at_call 33; refine (words_any _ _ hs).mono ?_; rw [HT.out]; rintro e w1 ⟨hb1, v, rfl, hv⟩; obtain ⟨gl, cap, rfl, hgb, hgl, hcap, hcm, hc0, hcs⟩ := strs_at (hv _ rfl); have HC := Lib.hid hcs; clear hcs hv; have hs1 := hb1.size; simp only [World.size_alloc] at hs1 hgb) | (go_at_call 34; refine (rows_any _).mono ?_; rintro e w2 ⟨rfl, rfl⟩))
  go_loopg [8] 15 (fun g s8 wx => ∃ k κ : Nat, 1 ≤ k ∧ k + g = 16 ∧ s8 = .int .i64 k ∧ Hid (KF t0 k κ) ∧ Look w1 wx κ)
  case atStart => exact ⟨1, 0, by omega, rfl, rfl, .inl ⟨rfl, fun m h => absurd h (Nat.not_lt_zero _)⟩, look_new _⟩
  case round =>
    obtain ⟨k, κ, hk1, hkg, rfl, HK, hL⟩ := hrel
    have hLs := hL.size
    by_cases hk : k < 16
    · have hki : (k : Int) < 16 := by omega
      obtain ⟨cmd, ps, hrow⟩ := rowsT_at (n := k - 1) (by omega)
      obtain ⟨t, ht⟩ : ∃ t, told[k - 1]? = some t := ⟨_, List.getElem?_eq_getElem (by show k - 1 < 15; omega)⟩
      have v0 : wr.cell? ⟨w1.heap.size + 1, k * 3, none⟩ = some (.string (mk cmd)) := (hL.cell _).trans (cells_row k hk1 hk cmd ps t hrow ht).1
      have hc2 : wr.cell? ⟨gl, 0, none⟩ = some (.string (mk t0)) := (hL.below.cell (p := ⟨gl, 0, none⟩) hgl).trans hc0
      have hgl2 : gl < wr.heap.size := by have := hL.below.size; omega
      by_cases hcmd : cmd = t0
      · subst hcmd
        have kk : wr.cell? ⟨w1.heap.size, 0, none⟩ = some (.int .i64 κ) := hL.holds.c0
        have kz := hL.holds.z
        have HN := Lib.hid (kf_eq hk1 hrow)
        clear hrow ht
        go_wp2
        go_quiet (fail)
        go_wp2
        go_roundg (15 - k)
        case measure => omega
        case rel => exact ⟨k + 1, k, by omega, by omega, by go_num, HN.out, look_set (hL.drew _) k⟩
      · have HN := Lib.hid (kf_ne hk1 HK.out hrow hcmd)
        have hne : ((mk cmd).toList == (mk t0).toList) = false := ne_list hcmd
        clear hrow ht hcmd
        go_wp2
        go_quiet (fail)
        go_wp2
        go_roundg (15 - k)
        case measure => omega
        case rel => exact ⟨k + 1, κ, by omega, by omega, by go_num, HN.out, hL.drew _⟩
    · obtain rfl : k = 16 := by omega
      have kk : wr.cell? ⟨w1.heap.size, 0, none⟩ = some (.int .i64 κ) := hL.holds.c0
      rcases HK.out with ⟨rfl, hno⟩ | ⟨hκ1, hκ2, ps, hrow⟩
      · have HKN := Lib.hid (parse_none (ts := ts) (t := t0) (fun m hm => hno m (by omega)))
        clear hno
        go_wp2_with (go_at_call 35; refine (row_none _ _ (by decide)).mono ?_; rintro e w3 ⟨rfl, hb3⟩; have hbx := hL.below.trans (hb3.mono hL.below.size); have hH : Holds w3 w.heap.size (Cl.zero 0) := res_at hb1 hbx; have hs3 := hb3.size; have hR3 : w.heap.size < w3.heap.size := (by omega); have hR3n : w.heap.size ≠ w3.heap.size := (by omega); have k0 : w3.cell? ⟨w.heap.size, 0, none⟩ = some (.int .i64 0) := hH.c0; have k1 : w3.cell? ⟨w.heap.size, 1, none⟩ = some (.string ⟨#[]⟩) := hH.c1; have k2 : w3.cell? ⟨w.heap.size, 2, none⟩ = some (.string ⟨#[]⟩) := hH.c2; have k3 : w3.cell? ⟨w.heap.size, 3, none⟩ = some (.int .i64 0) := hH.c3; have k4 : w3.cell? ⟨w.heap.size, 4, none⟩ = some (.int .i64 0) := hH.c4; have k5 : w3.cell? ⟨w.heap.size, 5, none⟩ = some (.string ⟨#[]⟩) := hH.c5; have kz := hH.z)
        exact bodyPost_ret (v := .tuple #[.agg #[.int .i64 0, .string ⟨#[]⟩, .string ⟨#[]⟩, .int .i64 0, .int .i64 0, .string ⟨#[]⟩], .int .i64 250]) (by simp [results, Tryd.results14, go_sem, hR3, res_cells hH (.int .i64 0) (.string ⟨#[]⟩) (.string ⟨#[]⟩) (.int .i64 0) (.int .i64 0) (.string ⟨#[]⟩)]) rfl (pparse_none HKN.out ((below_res (hb1.trans (hbx.mono hb1.size))).alloc (by simp; omega) _))
      · have hps3 := (Cl.rows_small hrow).2
        obtain ⟨t, ht⟩ : ∃ t, told[κ - 1]? = some t := ⟨_, List.getElem?_eq_getElem (by show κ - 1 < 15; omega)⟩
        have HPF : Hid (Cl.parseToks (t0 :: ts) = Cl.fill (Cl.zero (κ : Int)) ps ts) := by
          have := parse_fill (ts := ts) hrow
          rw [show ((κ - 1 : Nat) : Int) + 1 = (κ : Int) by omega] at this
          exact Lib.hid this
        have HL := Lib.hid (lets ps)
        have hp5 := (Cl.rows_at hrow).2.2.2
        by_cases hlen : ts.length = ps.length
        · go_wp2_with (go_at_call 35; refine (row_some κ hκ1 hκ2 t0 ps t hrow ht _).mono ?_; rintro e w3 ⟨rfl, hb3⟩; generalize mk (ps.map code) = P at HL; have hPs := HL.out.size; have hbx := hL.below.trans (hb3.mono hL.below.size); have hH : Holds w3 w.heap.size (Cl.zero 0) := res_at hb1 hbx; have hs3 := hb3.size; have hR3 : w.heap.size < w3.heap.size := (by omega); have k0 : w3.cell? ⟨w.heap.size, 0, none⟩ = some (.int .i64 0) := hH.c0; have k1 : w3.cell? ⟨w.heap.size, 1, none⟩ = some (.string ⟨#[]⟩) := hH.c1; have k2 : w3.cell? ⟨w.heap.size, 2, none⟩ = some (.string ⟨#[]⟩) := hH.c2; have k3 : w3.cell? ⟨w.heap.size, 3, none⟩ = some (.int .i64 0) := hH.c3; have k4 : w3.cell? ⟨w.heap.size, 4, none⟩ = some (.int .i64 0) := hH.c4; have k5 : w3.cell? ⟨w.heap.size, 5, none⟩ = some (.string ⟨#[]⟩) := hH.c5; have kz := hH.z; have hlb : (((ps.length : Int) + 1) != (1 + (ps.length : Int))) = false := (by rw [bne_eq_false_iff_eq]; omega))
          clear hlb
          go_loopg [5, 10] ps.length (fun g s5 s10 wx => ∃ (i : Nat) (b : Bool) (d : Cl.PCall), i + g = ps.length ∧ s5 = .bool b ∧ s10 = .int .i64 i ∧ Inn w1 (w3.alloc (.cells #[.string (mk t0), .string P, .string (mk [t])] 80)) d wx ∧ Hid (Fil (Cl.zero (κ : Int)) ps ts i b d))
          case atStart => exact ⟨0, true, Cl.zero κ, by omega, rfl, rfl, ⟨hbx.alloc hbx.size _, (heap_alloc_old _ _ (by omega)).trans ((hb3.block _ (by omega)).trans hL.holds), Nat.le_refl _, fun b _ _ => rfl⟩, .inl ⟨rfl, rfl⟩⟩
          case round =>
            obtain ⟨i, b, d, hig, rfl, rfl, hI, HF⟩ := hrel
            have hIs := hI.size
            rw [World.size_alloc] at hIs
            have hib := hI.below.size
            have hd := hI.holds
            have hrw : wr.heap[w3.heap.size]? = some (.cells #[.string (mk t0), .string P, .string (mk [t])] 80 (0, 0)) := (hI.old _ (by simp) (by omega)).trans (heap_alloc_new _ _)
            have hr1 : wr.cell? ⟨w3.heap.size, 1, none⟩ = some (.string P) := by simp [World.cell?, hrw]
            have hHr : Holds wr w.heap.size (Cl.zero 0) := res_at hb1 hI.below
            clear hrw k0 k1 k2 k3 k4 k5 kz kk
            by_cases hip : i < ps.length
            · have hkk : ps[i]? = some ps[i] := List.getElem?_eq_getElem hip
              have hpk : ps[i] < 5 := hp5 _ (List.getElem_mem hip)
              obtain ⟨tt, htt⟩ : ∃ u, ts[i]? = some u := ⟨_, List.getElem?_eq_getElem (by omega)⟩
              have hts : (mk tt).size ≤ 1000000000000 := by
                have h1 := HS.out tt (List.mem_cons_of_mem _ (List.mem_of_getElem? htt))
                rw [bs_len] at h1
                show tt.length ≤ _
                omega
              have hcl : wr.cell? ⟨gl, 1 + i, none⟩ = some (.string (mk tt)) := (hI.below.cell (p := ⟨gl, 1 + i, none⟩) hgl).trans (HC.out i tt htt)
              have hgl1 : gl < wr.heap.size := by omega
              have hrl : w3.heap.size < wr.heap.size := by omega
              have hiP : i < P.size := by omega
              have hat := HL.out.at_ i _ hkk hiP
              have HKK := Lib.hid hkk
              generalize ps[i] = p at hpk hat HKK
              clear hkk hp5 hHr
              have hx1 : (0 : Int) ≤ 1 + (i : Int) := by omega
              have hx2 : 1 + (i : Int) < (ts.length : Int) + 1 := by omega
              have hx3 : (1 + (i : Int)).toNat = 1 + i := by omega
              have hn1 : w3.heap.size ≠ w1.heap.size := by omega
              have hn3 : gl ≠ w1.heap.size := by omega
              obtain rfl | rfl | rfl | rfl | rfl : p = 0 ∨ p = 1 ∨ p = 2 ∨ p = 3 ∨ p = 4 := by omega
              · have hcb : (P[i].toNat : Int) = 112 := hat
                clear hat
                cases b
                all_goals
                  go_wp2_with (first | (go_at_call 10; refine (unquote_any (mk tt) _ hts).mono ?_; rintro e w4 ⟨rfl, hb4⟩; have hd4 := hd.below (hb4.mono (Nat.le_refl _)); have n1 := (hb4.cell (p := ⟨w3.heap.size, 1, none⟩) hrl).trans hr1; have n2 := (hb4.cell (p := ⟨gl, 1 + i, none⟩) hgl1).trans hcl; have m0 := hd4.c0; have m1 := hd4.c1; have m2 := hd4.c2; have m3 := hd4.c3; have m4 := hd4.c4; have m5 := hd4.c5; have mz := hd4.z) | (go_at_call 36; refine (number_any (mk tt) _ hts).mono ?_; rintro e w5 ⟨⟨nn, rfl, hnn⟩, rfl⟩))
                  go_roundg (ps.length - (i + 1))
                  case measure => omega
                  case rel => exact ⟨i + 1, _, _, by omega, rfl, by go_num, hI.step hb4 (holds_set hd4 _ 0).1, fil_step HKK.out htt HF.out (by rw [((put_word d tt).1).1]; rfl) ((put_word d tt).1).2⟩
              · have hcb : (P[i].toNat : Int) = 111 := hat
                clear hat
                cases b
                all_goals
                  go_wp2_with (first | (go_at_call 10; refine (unquote_any (mk tt) _ hts).mono ?_; rintro e w4 ⟨rfl, hb4⟩; have hd4 := hd.below (hb4.mono (Nat.le_refl _)); have n1 := (hb4.cell (p := ⟨w3.heap.size, 1, none⟩) hrl).trans hr1; have n2 := (hb4.cell (p := ⟨gl, 1 + i, none⟩) hgl1).trans hcl; have m0 := hd4.c0; have m1 := hd4.c1; have m2 := hd4.c2; have m3 := hd4.c3; have m4 := hd4.c4; have m5 := hd4.c5; have mz := hd4.z) | (go_at_call 36; refine (number_any (mk tt) _ hts).mono ?_; rintro e w5 ⟨⟨nn, rfl, hnn⟩, rfl⟩))
                  go_roundg (ps.length - (i + 1))
                  case measure => omega
                  case rel => exact ⟨i + 1, _, _, by omega, rfl, by go_num, hI.step hb4 (holds_set hd4 _ 0).2.1, fil_step HKK.out htt HF.out (by rw [((put_word d tt).2.1).1]; rfl) ((put_word d tt).2.1).2⟩
              · have hcb : (P[i].toNat : Int) = 100 := hat
                clear hat
                cases b
                all_goals
                  go_wp2_with (first | (go_at_call 10; refine (unquote_any (mk tt) _ hts).mono ?_; rintro e w4 ⟨rfl, hb4⟩; have hd4 := hd.below (hb4.mono (Nat.le_refl _)); have n1 := (hb4.cell (p := ⟨w3.heap.size, 1, none⟩) hrl).trans hr1; have n2 := (hb4.cell (p := ⟨gl, 1 + i, none⟩) hgl1).trans hcl; have m0 := hd4.c0; have m1 := hd4.c1; have m2 := hd4.c2; have m3 := hd4.c3; have m4 := hd4.c4; have m5 := hd4.c5; have mz := hd4.z) | (go_at_call 36; refine (number_any (mk tt) _ hts).mono ?_; rintro e w5 ⟨⟨nn, rfl, hnn⟩, rfl⟩))
                  go_roundg (ps.length - (i + 1))
                  case measure => omega
                  case rel => exact ⟨i + 1, _, _, by omega, rfl, by go_num, hI.step hb4 (holds_set hd4 _ 0).2.2.1, fil_step HKK.out htt HF.out (by rw [((put_word d tt).2.2).1]; rfl) ((put_word d tt).2.2).2⟩
              · have hcb : (P[i].toNat : Int) = 102 := hat
                clear hat
                cases b
                all_goals
                  go_wp2_with (first | (go_at_call 10; refine (unquote_any (mk tt) _ hts).mono ?_; rintro e w4 ⟨rfl, hb4⟩; have hd4 := hd.below (hb4.mono (Nat.le_refl _)); have n1 := (hb4.cell (p := ⟨w3.heap.size, 1, none⟩) hrl).trans hr1; have n2 := (hb4.cell (p := ⟨gl, 1 + i, none⟩) hgl1).trans hcl; have m0 := hd4.c0; have m1 := hd4.c1; have m2 := hd4.c2; have m3 := hd4.c3; have m4 := hd4.c4; have m5 := hd4.c5; have mz := hd4.z) | (go_at_call 36; refine (number_any (mk tt) _ hts).mono ?_; rintro e w5 ⟨⟨nn, rfl, hnn⟩, rfl⟩))
                  go_roundg (ps.length - (i + 1))
                  case measure => omega
                  case rel => exact ⟨i + 1, _, _, by omega, rfl, by go_num, hI.step hb4 (holds_set hd4 [] nn).2.2.2.1, fil_step HKK.out htt HF.out (by rw [((put_num d tt nn hnn).1).1]; rfl) ((put_num d tt nn hnn).1).2⟩
              · have hcb : (P[i].toNat : Int) = 115 := hat
                clear hat
                cases b
                all_goals
                  go_wp2_with (first | (go_at_call 10; refine (unquote_any (mk tt) _ hts).mono ?_; rintro e w4 ⟨rfl, hb4⟩; have hd4 := hd.below (hb4.mono (Nat.le_refl _)); have n1 := (hb4.cell (p := ⟨w3.heap.size, 1, none⟩) hrl).trans hr1; have n2 := (hb4.cell (p := ⟨gl, 1 + i, none⟩) hgl1).trans hcl; have m0 := hd4.c0; have m1 := hd4.c1; have m2 := hd4.c2; have m3 := hd4.c3; have m4 := hd4.c4; have m5 := hd4.c5; have mz := hd4.z) | (go_at_call 36; refine (number_any (mk tt) _ hts).mono ?_; rintro e w5 ⟨⟨nn, rfl, hnn⟩, rfl⟩))
                  go_roundg (ps.length - (i + 1))
                  case measure => omega
                  case rel => exact ⟨i + 1, _, _, by omega, rfl, by go_num, hI.step hb4 (holds_set hd4 [] nn).2.2.2.2, fil_step HKK.out htt HF.out (by rw [((put_num d tt nn hnn).2).1]; rfl) ((put_num d tt nn hnn).2).2⟩
            · obtain rfl : i = ps.length := by omega
              have k0 : wr.cell? ⟨w.heap.size, 0, none⟩ = some (.int .i64 0) := hHr.c0
              have k1 : wr.cell? ⟨w.heap.size, 1, none⟩ = some (.string ⟨#[]⟩) := hHr.c1
              have k2 : wr.cell? ⟨w.heap.size, 2, none⟩ = some (.string ⟨#[]⟩) := hHr.c2
              have k3 : wr.cell? ⟨w.heap.size, 3, none⟩ = some (.int .i64 0) := hHr.c3
              have k4 : wr.cell? ⟨w.heap.size, 4, none⟩ = some (.int .i64 0) := hHr.c4
              have k5 : wr.cell? ⟨w.heap.size, 5, none⟩ = some (.string ⟨#[]⟩) := hHr.c5
              have kz := hHr.z
              have m0 := hd.c0
              have m1 := hd.c1
              have m2 := hd.c2
              have m3 := hd.c3
              have m4 := hd.c4
              have m5 := hd.c5
              rcases HF.out with ⟨rfl, hfill⟩ | ⟨rfl, hnone⟩
              · have HFE := Lib.hid (HPF.out.trans (filled_end hlen.symm hfill))
                clear hfill
                go_wp2
                exact bodyPost_ret (v := .tuple #[.agg #[.int .i64 d.kind, .string (mk d.path), .string (mk d.other), .int .i64 d.off, .int .i64 d.size, .string (mk d.data)], .int .i64 0]) (by simp [results, Tryd.results14, go_sem, res_cells hHr (.int .i64 d.kind) (.string (mk d.path)) (.string (mk d.other)) (.int .i64 d.off) (.int .i64 d.size) (.string (mk d.data))]) rfl (pparse_some HFE.out (below_res (hb1.trans (hI.below.mono hb1.size))))
              · have HFE := Lib.hid (HPF.out.trans hnone)
                clear hnone
                go_wp2
                exact bodyPost_ret (v := .tuple #[.agg #[.int .i64 0, .string ⟨#[]⟩, .string ⟨#[]⟩, .int .i64 0, .int .i64 0, .string ⟨#[]⟩], .int .i64 250]) (by simp [results, Tryd.results14, go_sem, res_cells hHr (.int .i64 0) (.string ⟨#[]⟩) (.string ⟨#[]⟩) (.int .i64 0) (.int .i64 0) (.string ⟨#[]⟩)]) rfl (pparse_none HFE.out (below_res (hb1.trans (hI.below.mono hb1.size))))
        · have HFE := Lib.hid (HPF.out.trans (fill_len _ _ _ (fun h => hlen h.symm)))
          go_wp2_with (go_at_call 35; refine (row_some κ hκ1 hκ2 t0 ps t hrow ht _).mono ?_; rintro e w3 ⟨rfl, hb3⟩; generalize mk (ps.map code) = P at HL; have hPs := HL.out.size; have hbx := hL.below.trans (hb3.mono hL.below.size); have hH : Holds w3 w.heap.size (Cl.zero 0) := res_at hb1 hbx; have hs3 := hb3.size; have hR3 : w.heap.size < w3.heap.size := (by omega); have k0 : w3.cell? ⟨w.heap.size, 0, none⟩ = some (.int .i64 0) := hH.c0; have k1 : w3.cell? ⟨w.heap.size, 1, none⟩ = some (.string ⟨#[]⟩) := hH.c1; have k2 : w3.cell? ⟨w.heap.size, 2, none⟩ = some (.string ⟨#[]⟩) := hH.c2; have k3 : w3.cell? ⟨w.heap.size, 3, none⟩ = some (.int .i64 0) := hH.c3; have k4 : w3.cell? ⟨w.heap.size, 4, none⟩ = some (.int .i64 0) := hH.c4; have k5 : w3.cell? ⟨w.heap.size, 5, none⟩ = some (.string ⟨#[]⟩) := hH.c5; have kz := hH.z; have hlb : (((ts.length : Int) + 1) != (1 + (P.size : Int))) = true := (by rw [bne_iff_ne]; omega))
          exact bodyPost_ret (v := .tuple #[.agg #[.int .i64 0, .string ⟨#[]⟩, .string ⟨#[]⟩, .int .i64 0, .int .i64 0, .string ⟨#[]⟩], .int .i64 250]) (by simp [results, Tryd.results14, go_sem, hR3, res_cells hH (.int .i64 0) (.string ⟨#[]⟩) (.string ⟨#[]⟩) (.int .i64 0) (.int .i64 0) (.string ⟨#[]⟩)]) rfl (pparse_none HFE.out ((below_res (hb1.trans (hbx.mono hb1.size))).alloc (by simp; omega) _))
end Er
end Go.Proofs.YtjloonijnbfhhaaDoor
