/- The plain law of blanks: a printed line that is given more blanks outside of quotes is cut into the same words. No program in sight. -/
import Derived.Test.YtjloonijnbfhhaaDoorCallsCall
namespace Go.Proofs.YtjloonijnbfhhaaDoor
namespace Cl

/-- Within quotes; behind a backslash. -/
def st (p : Bool × Bool) (c : UInt8) : Bool × Bool :=
  if p.2 = true then (p.1, false) else if p.1 = true ∧ c = 92 then (p.1, true) else if c = 34 then (!p.1, false) else p
/-- What a byte becomes. -/
def bl (odd : Bool) (p : Bool × Bool) (c : UInt8) : B := if p.2 = false ∧ p.1 = false ∧ c = 32 ∧ odd = true then [32, 32, 32] else [c]
def scan (odd : Bool) : Bool × Bool → B → B
  | _, [] => []
  | p, c :: r => bl odd p c ++ scan odd (st p c) r
theorem scan_app (odd : Bool) : ∀ (s t : B) (p : Bool × Bool), scan odd p (s ++ t) = scan odd p s ++ scan odd (s.foldl st p) t
  | [], t, p => rfl
  | c :: s, t, p => by
    simp only [List.cons_append, scan, List.foldl_cons, List.append_assoc]
    rw [scan_app odd s t]
theorem scan_snoc (odd : Bool) (s : B) (c : UInt8) (p : Bool × Bool) : scan odd p (s ++ [c]) = scan odd p s ++ bl odd (s.foldl st p) c := by
  rw [scan_app]; simp [scan]
theorem st_snoc (s : B) (c : UInt8) (p : Bool × Bool) : (s ++ [c]).foldl st p = st (s.foldl st p) c := by simp
theorem bl_len (odd : Bool) (p : Bool × Bool) (c : UInt8) : (bl odd p c).length ≤ 3 := by
  unfold bl; split <;> simp
theorem scan_len (odd : Bool) : ∀ (s : B) (p : Bool × Bool), (scan odd p s).length ≤ 3 * s.length
  | [], p => by simp [scan]
  | c :: s, p => by
    have := scan_len odd s (st p c)
    have := bl_len odd p c
    simp only [scan, List.length_append, List.length_cons]
    omega

/-- A text that is scanned as it stands. -/
def Calm (odd : Bool) (t : B) : Prop := scan odd (false, false) t = t ∧ t.foldl st (false, false) = (false, false)
theorem calm_bare (odd : Bool) {t : B} (h : ∀ c ∈ t, isBare c = true) : Calm odd t := by
  induction t with
  | nil => exact ⟨rfl, rfl⟩
  | cons c t ih =>
    obtain ⟨i1, i2⟩ := ih (fun x hx => h x (by simp [hx]))
    have hc := bare_chars c (h c (by simp))
    have e1 : st (false, false) c = (false, false) := by simp [st, hc.2.2.1]
    have e2 : bl odd (false, false) c = [c] := by simp [bl, hc.2.2.2]
    refine ⟨?_, ?_⟩
    · simp only [scan, e1, e2, i1, List.cons_append, List.nil_append]
    · simp only [List.foldl_cons, e1, i2]
theorem esc_calm_fin : ∀ n : Fin 256, ∀ odd : Bool, scan odd (true, false) (esc (UInt8.ofNat n.val)) = esc (UInt8.ofNat n.val) ∧ (esc (UInt8.ofNat n.val)).foldl st (true, false) = (true, false) := by decide +kernel
theorem esc_calm (c : UInt8) (odd : Bool) : scan odd (true, false) (esc c) = esc c ∧ (esc c).foldl st (true, false) = (true, false) :=
  all_u8 (P := fun c => ∀ odd : Bool, scan odd (true, false) (esc c) = esc c ∧ (esc c).foldl st (true, false) = (true, false)) esc_calm_fin c odd
theorem flat_calm (odd : Bool) : ∀ s : B, scan odd (true, false) (s.flatMap esc) = s.flatMap esc ∧ (s.flatMap esc).foldl st (true, false) = (true, false)
  | [] => ⟨rfl, rfl⟩
  | c :: s => by
    obtain ⟨h1, h2⟩ := esc_calm c odd
    obtain ⟨i1, i2⟩ := flat_calm odd s
    simp only [List.flatMap_cons]
    rw [scan_app, List.foldl_append, h1, h2, i1, i2]
    exact ⟨rfl, rfl⟩
theorem calm_quote (odd : Bool) (s : B) : Calm odd (quote s) := by
  unfold quote
  split
  · rename_i h
    simp only [bare, Bool.and_eq_true, List.all_eq_true] at h
    exact calm_bare odd h.1
  · obtain ⟨i1, i2⟩ := flat_calm odd s
    have e1 : st (false, false) 34 = (true, false) := rfl
    have e2 : bl odd (false, false) 34 = [34] := by simp [bl]
    have e3 : scan odd (true, false) [34] = [34] := by simp [scan, bl]
    refine ⟨?_, ?_⟩
    · simp only [scan, e1, e2]
      rw [scan_app, i1, i2, e3]; rfl
    · simp only [List.foldl_cons, List.foldl_append, e1, i2]; rfl
theorem calm_itoa (odd : Bool) (n : Int) : Calm odd (Lib.itoa n) := by
  have := bare_itoa n
  simp only [bare, Bool.and_eq_true, List.all_eq_true] at this
  exact calm_bare odd this.1
theorem calm_text (odd : Bool) (c : PCall) (p : Nat) : Calm odd (text c p) := by
  unfold text
  split <;> first | exact calm_quote odd _ | exact calm_itoa odd _ | exact ⟨rfl, rfl⟩
/-- The blanks between two words. -/
def blk (odd : Bool) : B := if odd = true then [32, 32, 32] else [32]
theorem scan_line (odd : Bool) (c : PCall) : ∀ ps : List Nat, scan odd (false, false) (ps.flatMap fun p => 32 :: text c p) = (ps.flatMap fun p => blk odd ++ text c p) ∧ (ps.flatMap fun p => 32 :: text c p).foldl st (false, false) = (false, false)
  | [] => ⟨rfl, rfl⟩
  | p :: ps => by
    obtain ⟨h1, h2⟩ := calm_text odd c p
    obtain ⟨i1, i2⟩ := scan_line odd c ps
    have e1 : st (false, false) 32 = (false, false) := rfl
    have e2 : bl odd (false, false) 32 = blk odd := by cases odd <;> rfl
    simp only [List.flatMap_cons, List.cons_append, scan, List.foldl_cons, e1, e2]
    rw [scan_app, List.foldl_append, h1, h2, i1, i2]
    simp
theorem toks_blanks (k : Nat) (s : B) : toks tokR (List.replicate k 32 ++ s) = toks tokR s := by
  induction k with
  | zero => rfl
  | succ k ih => rw [List.replicate_succ, List.cons_append, toks_blank eatsR, ih]
theorem toks_words_bl (k : Nat) : ∀ (ts : List B) (t : B), Good t → (∀ x ∈ ts, Good x) → toks tokR (t ++ ((ts.flatMap fun x => 32 :: (List.replicate k 32 ++ x)) ++ [32])) = some (t :: ts)
  | [], t, h, _ => by
    have := toks_good_app h []
    simpa [toks_nil] using this
  | x :: ts, t, h, hs => by
    rw [List.flatMap_cons, List.cons_append, List.cons_append, toks_good_app h, List.append_assoc, List.append_assoc, toks_blanks, toks_words_bl k ts x (hs x (by simp)) (fun y hy => hs y (by simp [hy]))]
    rfl
/-- A printed line with more blanks ahead of it, behind it and between its words says the same. -/
theorem parse_more {c : PCall} (hr : Fits c) {s : B} (h : print c = some s) (odd : Bool) : parse (32 :: 32 :: (scan odd (false, false) s ++ [32])) = some (own c) := by
  unfold print at h
  rw [Option.map_eq_some_iff] at h
  obtain ⟨r, hr', rfl⟩ := h
  obtain ⟨n, hk, hn⟩ := rowAt_some hr'
  obtain ⟨h1, h2, h3, h4⟩ := rows_at hn
  refine parse_words c hr hr' _ ?_
  rw [toks_blank eatsR, toks_blank eatsR, scan_app]
  have hb := h2
  simp only [bare, Bool.and_eq_true, List.all_eq_true] at hb
  obtain ⟨b1, b2⟩ := calm_bare odd hb.1
  rw [b1, b2, (scan_line odd c r.2).1]
  have := toks_words_bl (if odd = true then 2 else 0) (r.2.map (text c)) r.1 (good_bare h2) (by
    intro x hx
    obtain ⟨p, hp, rfl⟩ := List.mem_map.1 hx
    exact good_text c p (h4 p hp))
  rw [List.flatMap_map] at this
  rw [List.append_assoc, ← this]
  congr 4
  funext p
  cases odd <;> rfl
/-- A printed line's bytes. -/
theorem print_chars {c : PCall} {s : B} (h : print c = some s) : ∀ x ∈ s, 32 ≤ x ∧ x ≤ 126 := by
  unfold print at h
  rw [Option.map_eq_some_iff] at h
  obtain ⟨r, hr', rfl⟩ := h
  obtain ⟨n, hk, hn⟩ := rowAt_some hr'
  obtain ⟨h1, h2, h3, h4⟩ := rows_at hn
  have hall : ∀ t : B, bare t = true → ∀ x ∈ t, 32 ≤ x ∧ x ≤ 126 := by
    intro t ht x hx
    simp only [bare, Bool.and_eq_true, List.all_eq_true] at ht
    have := bare_chars x (ht.1 x hx)
    exact ⟨this.1, this.2.1⟩
  intro x hx
  rw [List.mem_append, List.mem_flatMap] at hx
  rcases hx with hx | ⟨p, hp, hx⟩
  · exact hall _ h2 x hx
  · rcases List.mem_cons.1 hx with rfl | hx
    · decide
    · revert hx
      unfold text
      split
      · exact quote_chars _ x
      · exact quote_chars _ x
      · exact quote_chars _ x
      · exact hall _ (bare_itoa _) x
      · exact hall _ (bare_itoa _) x
      · intro hx; cases hx
theorem print_ne {c : PCall} {s : B} (h : print c = some s) : s ≠ [] := by
  unfold print at h
  rw [Option.map_eq_some_iff] at h
  obtain ⟨r, hr', rfl⟩ := h
  obtain ⟨n, hk, hn⟩ := rowAt_some hr'
  have := (good_bare (rows_at hn).2.1).ne
  intro e
  exact this (List.append_eq_nil_iff.1 e).1
end Cl
end Go.Proofs.YtjloonijnbfhhaaDoor
