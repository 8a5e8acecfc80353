/- The plain laws of lines: how a line is cut into words, and that words with blanks between them are cut again into the same words. No program in sight. -/
import Derived.Test.YtjloonijnbfhhaaDoorCallsNum
namespace Go.Proofs.YtjloonijnbfhhaaDoor
namespace Cl

/-! ### what stands ahead of the first blank -/
def upto (s : B) : B := s.takeWhile (fun c => decide (c ≠ 32))
def from' (s : B) : B := s.dropWhile (fun c => decide (c ≠ 32))
def skip (s : B) : B := s.dropWhile (fun c => decide (c = 32))
theorem upto_from (s : B) : upto s ++ from' s = s := List.takeWhile_append_dropWhile
theorem skip_blank (s : B) : skip (32 :: s) = skip s := by simp [skip]
theorem skip_other {c : UInt8} (s : B) (h : c ≠ 32) : skip (c :: s) = c :: s := by simp [skip, h]
theorem skip_len (s : B) : (skip s).length ≤ s.length := by
  induction s with
  | nil => simp [skip]
  | cons c s ih => by_cases h : c = 32
                   · subst h; rw [skip_blank]; simp only [List.length_cons]; omega
                   · rw [skip_other s h]; exact Nat.le_refl _
theorem skip_head (s : B) : (skip s).head? ≠ some 32 := by
  induction s with
  | nil => simp [skip]
  | cons c s ih => by_cases h : c = 32
                   · subst h; rw [skip_blank]; exact ih
                   · rw [skip_other s h]; simpa using h
theorem upto_none {s : B} (h : ∀ c ∈ s, c ≠ 32) (r : B) : upto (s ++ 32 :: r) = s ∧ from' (s ++ 32 :: r) = 32 :: r := by
  induction s with
  | nil => simp [upto, from']
  | cons c s ih =>
    have hc := h c (by simp)
    obtain ⟨i1, i2⟩ := ih (fun x hx => h x (by simp [hx]))
    unfold upto from' at *
    simp only [List.cons_append, List.takeWhile_cons, List.dropWhile_cons, decide_eq_true hc, if_true, i1, i2, and_self]
theorem upto_all {s : B} (h : ∀ c ∈ s, c ≠ 32) : upto s = s ∧ from' s = [] := by
  induction s with
  | nil => simp [upto, from']
  | cons c s ih =>
    have hc := h c (by simp)
    obtain ⟨i1, i2⟩ := ih (fun x hx => h x (by simp [hx]))
    unfold upto from' at *
    simp only [List.takeWhile_cons, List.dropWhile_cons, decide_eq_true hc, if_true, i1, i2, and_self]
theorem upto_mem {s : B} : ∀ c ∈ upto s, c ≠ 32 := by
  induction s with
  | nil => simp [upto]
  | cons c s ih =>
    unfold upto at *
    rw [List.takeWhile_cons]
    by_cases h : c = 32
    · simp [h]
    · simp only [decide_eq_true h, if_true, List.mem_cons]
      rintro x (rfl | hx)
      · exact h
      · exact ih x hx
theorem from_head (s : B) : from' s = [] ∨ (from' s).head? = some 32 := by
  induction s with
  | nil => simp [from']
  | cons c s ih =>
    unfold from' at *
    rw [List.dropWhile_cons]
    by_cases h : c = 32
    · subst h; simp
    · simp only [decide_eq_true h, if_true]; exact ih

/-! ### the words of a line -/
/-- The document's: one word, and what stands behind it. -/
def tokR : B → Option (B × B)
  | [] => none
  | c :: r => if c = 34 then
      match dq r with
      | none => none
      | some (_, n) => if r.drop n = [] ∨ (r.drop n).head? = some 32 then some ((c :: r).take (n + 1), r.drop n) else none
    else some (upto (c :: r), from' (c :: r))
/-- The program's: what stands beside a quoted word goes with it. -/
def tokP : B → Option (B × B)
  | [] => none
  | c :: r => if c = 34 then
      match dq r with
      | none => none
      | some (_, n) => some ((c :: r).take (n + 1) ++ upto (r.drop n), from' (r.drop n))
    else some (upto (c :: r), from' (c :: r))
theorem tokR_cons (c : UInt8) (r : B) : tokR (c :: r) = if c = 34 then
      match dq r with
      | none => none
      | some (_, n) => if r.drop n = [] ∨ (r.drop n).head? = some 32 then some ((c :: r).take (n + 1), r.drop n) else none
    else some (upto (c :: r), from' (c :: r)) := rfl
theorem tokP_cons (c : UInt8) (r : B) : tokP (c :: r) = if c = 34 then
      match dq r with
      | none => none
      | some (_, n) => some ((c :: r).take (n + 1) ++ upto (r.drop n), from' (r.drop n))
    else some (upto (c :: r), from' (c :: r)) := rfl
def toksF (tok : B → Option (B × B)) : Nat → B → Option (List B)
  | 0, _ => none
  | f + 1, s => match skip s with
    | [] => some []
    | c :: r => match tok (c :: r) with
      | none => none
      | some p => (toksF tok f p.2).map (p.1 :: ·)
def toks (tok : B → Option (B × B)) (s : B) : Option (List B) := toksF tok (s.length + 1) s
/-- A word takes something. -/
def Eats (tok : B → Option (B × B)) : Prop := ∀ c r t q, c ≠ 32 → tok (c :: r) = some (t, q) → q.length < (c :: r).length
theorem toksF_mono {tok : B → Option (B × B)} (he : Eats tok) : ∀ (f g : Nat) (s : B), s.length < f → f ≤ g → toksF tok g s = toksF tok f s
  | 0, _, _, h, _ => by omega
  | f + 1, 0, _, _, h => by omega
  | f + 1, g + 1, s, h, h' => by
    unfold toksF
    cases hs : skip s with
    | nil => rfl
    | cons c r =>
      simp only
      cases ht : tok (c :: r) with
      | none => rfl
      | some p =>
        obtain ⟨t, q⟩ := p
        have hc : c ≠ 32 := by have := skip_head s; rw [hs] at this; simpa using this
        have h1 := he c r t q hc ht
        have h2 := skip_len s
        rw [hs] at h2
        simp only
        rw [toksF_mono he f g q (by omega) (by omega)]
theorem toks_nil (tok : B → Option (B × B)) : toks tok [] = some [] := rfl
theorem toks_skip {tok : B → Option (B × B)} (s : B) : toks tok (32 :: s) = toksF tok (s.length + 2) s := by
  unfold toks
  rw [List.length_cons, toksF, skip_blank, toksF]
theorem toks_blank {tok : B → Option (B × B)} (he : Eats tok) (s : B) : toks tok (32 :: s) = toks tok s := by
  rw [toks_skip, toksF_mono he (s.length + 1) (s.length + 2) s (by omega) (by omega)]; rfl
theorem toks_word {tok : B → Option (B × B)} (he : Eats tok) (c : UInt8) (r : B) (hc : c ≠ 32) : toks tok (c :: r) =
    match tok (c :: r) with
    | none => none
    | some p => (toks tok p.2).map (p.1 :: ·) := by
  unfold toks
  rw [List.length_cons, toksF, skip_other r hc]
  simp only
  cases ht : tok (c :: r) with
  | none => rfl
  | some p =>
    obtain ⟨t, q⟩ := p
    have h1 := he c r t q hc ht
    simp only [List.length_cons] at *
    rw [toksF_mono he (q.length + 1) (r.length + 1) q (by omega) (by omega)]

theorem from_len (s : B) : (from' s).length ≤ s.length := by
  have := congrArg List.length (upto_from s)
  rw [List.length_append] at this; omega
theorem from_lt {c : UInt8} (r : B) (h : c ≠ 32) : (from' (c :: r)).length < (c :: r).length := by
  have : from' (c :: r) = from' r := by simp [from', h]
  rw [this]; have := from_len r; simp only [List.length_cons]; omega
theorem eatsR : Eats tokR := by
  intro c r t q hc h
  rw [tokR_cons] at h
  split at h
  · cases hd : dq r with
    | none => rw [hd] at h; cases h
    | some p =>
      rw [hd] at h
      simp only at h
      split at h
      · cases h; simp only [List.length_drop, List.length_cons]; omega
      · cases h
  · cases h; exact from_lt r hc
theorem eatsP : Eats tokP := by
  intro c r t q hc h
  rw [tokP_cons] at h
  split at h
  · cases hd : dq r with
    | none => rw [hd] at h; cases h
    | some p =>
      rw [hd] at h
      simp only at h
      cases h
      have := from_len (r.drop p.2)
      simp only [List.length_drop, List.length_cons] at *; omega
  · cases h; exact from_lt r hc

/-- Induction along a line. -/
theorem line_ind {P : B → Prop} (h0 : P []) (h1 : ∀ s, P s → P (32 :: s)) (h2 : ∀ c r, c ≠ 32 → (∀ q : B, q.length < (c :: r).length → P q) → P (c :: r)) : ∀ s, P s := by
  intro s
  generalize hk : s.length = k
  induction k using Nat.strongRecOn generalizing s with
  | _ k ih =>
    cases s with
    | nil => exact h0
    | cons c r =>
      by_cases e : c = 32
      · subst e; exact h1 r (ih _ (by simp only [List.length_cons] at hk; omega) _ rfl)
      · exact h2 c r e (fun q hq => ih _ (by omega) q rfl)

/-- A word that is none, as the program cuts it. -/
def Junk (t : B) : Prop := t.head? = some 34 ∧ unquote t = none

/-- What the document cuts the program cuts alike; where the document refuses the program refuses, or cuts a word that is none. -/
theorem toks_RP : ∀ s : B, (∀ l, toks tokR s = some l → toks tokP s = some l) ∧ (∀ l, toks tokR s = none → toks tokP s = some l → ∃ t ∈ l, Junk t) := by
  refine line_ind ⟨(fun l h => h), (fun l h => by cases h)⟩ (fun s ih => ?_) (fun c r hc ih => ?_)
  · rw [toks_blank eatsR, toks_blank eatsP]; exact ih
  · rw [toks_word eatsR c r hc, toks_word eatsP c r hc]
    by_cases e : c = 34
    · subst e
      rw [tokR_cons, tokP_cons]
      simp only [if_true]
      cases hd : dq r with
      | none => exact ⟨(fun l h => by cases h), (fun l _ h => by cases h)⟩
      | some p =>
        obtain ⟨x, n⟩ := p
        simp only
        by_cases hj : r.drop n = [] ∨ (r.drop n).head? = some 32
        · have e1 : upto (r.drop n) = [] ∧ from' (r.drop n) = r.drop n := by
            rcases hj with h | h
            · rw [h]; exact ⟨rfl, rfl⟩
            · cases hq : r.drop n with
              | nil => exact ⟨rfl, rfl⟩
              | cons a b => rw [hq] at h; simp only [List.head?_cons, Option.some.injEq] at h; subst h; exact ⟨by simp [upto], by simp [from']⟩
          rw [if_pos hj, e1.1, e1.2, List.append_nil]
          simp only
          have := ih (r.drop n) (by simp only [List.length_drop, List.length_cons]; omega)
          constructor
          · intro l h
            cases hr : toks tokR (r.drop n) with
            | none => rw [hr] at h; cases h
            | some m => rw [hr] at h; rw [this.1 m hr]; exact h
          · intro l h h'
            cases hr : toks tokR (r.drop n) with
            | some m => rw [hr] at h; cases h
            | none =>
              cases hp : toks tokP (r.drop n) with
              | none => rw [hp] at h'; cases h'
              | some m =>
                rw [hp] at h'
                obtain ⟨t, ht, hjt⟩ := this.2 m hr hp
                cases h'
                exact ⟨t, by simp [ht], hjt⟩
        · rw [if_neg hj]
          refine ⟨(fun l h => by cases h), fun l _ h => ?_⟩
          cases hp : toks tokP (from' (r.drop n)) with
          | none => rw [hp] at h; cases h
          | some m =>
            rw [hp] at h
            cases h
            refine ⟨_, List.mem_cons_self .., ?_⟩
            have hlen := dq_len r x n hd
            simp only [not_or] at hj
            have hu : upto (r.drop n) ≠ [] := by
              cases hq : r.drop n with
              | nil => exact absurd hq hj.1
              | cons a b =>
                rw [hq] at hj
                have ha : a ≠ 32 := by simpa using hj.2
                simp [upto, ha]
            rw [List.take_succ_cons, List.cons_append]
            refine ⟨rfl, ?_⟩
            have h1 := dq_app (upto (r.drop n)) _ x n (dq_take r x n n hd (Nat.le_refl _))
            unfold unquote
            rw [bare_not_quote]
            simp only [Bool.false_eq_true, if_false, if_true, h1, List.length_append, List.length_take]
            have : 1 ≤ (upto (r.drop n)).length := by
              cases hq : upto (r.drop n) with
              | nil => exact absurd hq hu
              | cons a b => simp
            rw [if_neg (by omega)]
    · rw [tokR_cons, tokP_cons]
      simp only [if_neg e]
      have := ih (from' (c :: r)) (from_lt r hc)
      constructor
      · intro l h
        cases hr : toks tokR (from' (c :: r)) with
        | none => rw [hr] at h; cases h
        | some m => rw [hr] at h; rw [this.1 m hr]; exact h
      · intro l h h'
        cases hr : toks tokR (from' (c :: r)) with
        | some m => rw [hr] at h; cases h
        | none =>
          cases hp : toks tokP (from' (c :: r)) with
          | none => rw [hp] at h'; cases h'
          | some m =>
            rw [hp] at h'
            obtain ⟨t, ht, hjt⟩ := this.2 m hr hp
            cases h'
            exact ⟨t, by simp [ht], hjt⟩

/-- A word as it stands between blanks. -/
structure Good (t : B) : Prop where
  ne : t ≠ []
  quoted : ∀ r, t = 34 :: r → ∃ x, dq r = some (x, r.length)
  bare : t.head? ≠ some 34 → ∀ c ∈ t, c ≠ 32

theorem Good.head {t : B} (h : Good t) : ∃ c r, t = c :: r ∧ c ≠ 32 := by
  cases t with
  | nil => exact absurd rfl h.ne
  | cons c r =>
    refine ⟨c, r, rfl, ?_⟩
    by_cases e : c = 34
    · subst e; decide
    · exact h.bare (by simpa using e) c (by simp)
theorem tok_good {t : B} (h : Good t) : tokR t = some (t, []) := by
  obtain ⟨c, r, rfl, hc⟩ := h.head
  rw [tokR_cons]
  by_cases e : c = 34
  · subst e
    obtain ⟨x, hx⟩ := h.quoted r rfl
    simp only [if_true, hx, List.drop_length, true_or]
    rw [List.take_of_length_le (by simp)]
  · have := upto_all (h.bare (by simpa using e))
    rw [if_neg e, this.1, this.2]
theorem tok_good_app {t : B} (h : Good t) (s : B) : tokR (t ++ 32 :: s) = some (t, 32 :: s) := by
  obtain ⟨c, r, rfl, hc⟩ := h.head
  rw [List.cons_append]
  rw [tokR_cons]
  by_cases e : c = 34
  · subst e
    obtain ⟨x, hx⟩ := h.quoted r rfl
    have := dq_app (32 :: s) r x _ hx
    simp only [if_true, this, List.drop_left, List.head?_cons, or_true]
    rw [← List.cons_append, List.take_left' (by simp)]
  · have := upto_none (h.bare (by simpa using e)) s
    rw [if_neg e, ← List.cons_append, this.1, this.2]
theorem toks_good {t : B} (h : Good t) : toks tokR t = some [t] := by
  obtain ⟨c, r, he, hc⟩ := h.head
  have := tok_good h
  rw [he] at this ⊢
  rw [toks_word eatsR c r hc, this]
  simp [toks_nil]
theorem toks_good_app {t : B} (h : Good t) (s : B) : toks tokR (t ++ 32 :: s) = (toks tokR s).map (t :: ·) := by
  obtain ⟨c, r, he, hc⟩ := h.head
  have := tok_good_app h s
  rw [he, List.cons_append] at this ⊢
  rw [toks_word eatsR c _ hc, this]
  simp only
  rw [toks_blank eatsR]
/-- What is cut out of a line is good, and no longer than the line. -/
theorem toks_are_good : ∀ s : B, ∀ l, toks tokR s = some l → (∀ t ∈ l, Good t) ∧ (l.map (fun t => t.length + 1)).sum ≤ s.length + 1 := by
  refine line_ind (fun l h => by cases h; simp) (fun s ih l h => ?_) (fun c r hc ih l h => ?_)
  · rw [toks_blank eatsR] at h
    have := ih l h
    exact ⟨this.1, by simp only [List.length_cons]; omega⟩
  · rw [toks_word eatsR c r hc] at h
    rw [tokR_cons] at h
    by_cases e : c = 34
    · subst e
      simp only [if_true] at h
      cases hd : dq r with
      | none => rw [hd] at h; cases h
      | some p =>
        obtain ⟨x, n⟩ := p
        rw [hd] at h
        simp only at h
        have hlen := dq_len r x n hd
        by_cases hj : r.drop n = [] ∨ (r.drop n).head? = some 32
        · rw [if_pos hj] at h
          simp only at h
          have hg : Good ((34 :: r).take (n + 1)) := by
            rw [List.take_succ_cons]
            refine ⟨by simp, fun q hq => ?_, fun hh => absurd rfl hh⟩
            cases hq
            exact ⟨x, by rw [dq_take r x n n hd (Nat.le_refl _), List.length_take, Nat.min_eq_left (by omega)]⟩
          rcases hj with hj | hj
          · rw [hj, toks_nil] at h
            cases h
            refine ⟨by simpa using hg, ?_⟩
            simp only [List.map_cons, List.map_nil, List.sum_cons, List.sum_nil, List.length_take, List.length_cons]
            omega
          · obtain ⟨q, hq⟩ : ∃ q, r.drop n = 32 :: q := by
              cases hq : r.drop n with
              | nil => rw [hq] at hj; cases hj
              | cons a b => rw [hq] at hj; simp only [List.head?_cons, Option.some.injEq] at hj; exact ⟨b, by rw [hj]⟩
            rw [hq, toks_blank eatsR] at h
            have hl2 := congrArg List.length hq
            simp only [List.length_drop, List.length_cons] at hl2
            cases hr : toks tokR q with
            | none => rw [hr] at h; cases h
            | some m =>
              rw [hr] at h
              cases h
              have := ih q (by simp only [List.length_cons]; omega) m hr
              refine ⟨?_, ?_⟩
              · intro t ht
                rcases List.mem_cons.1 ht with rfl | ht
                · exact hg
                · exact this.1 t ht
              · simp only [List.map_cons, List.sum_cons, List.length_take, List.length_cons]
                omega
        · rw [if_neg hj] at h; cases h
    · rw [if_neg e] at h
      simp only at h
      have hg : Good (upto (c :: r)) := by
        have hu : upto (c :: r) = c :: upto r := by simp [upto, hc]
        rw [hu]
        refine ⟨by simp, fun q hq => ?_, fun _ => ?_⟩
        · simp only [List.cons.injEq] at hq; exact absurd hq.1 e
        · rw [← hu]; exact upto_mem
      have hl := congrArg List.length (upto_from (c :: r))
      rw [List.length_append] at hl
      rcases from_head (c :: r) with hf | hf
      · rw [hf, toks_nil] at h
        cases h
        refine ⟨by simpa using hg, ?_⟩
        simp only [List.map_cons, List.map_nil, List.sum_cons, List.sum_nil]
        omega
      · obtain ⟨q, hq⟩ : ∃ q, from' (c :: r) = 32 :: q := by
          cases hq : from' (c :: r) with
          | nil => rw [hq] at hf; cases hf
          | cons a b => rw [hq] at hf; simp only [List.head?_cons, Option.some.injEq] at hf; exact ⟨b, by rw [hf]⟩
        rw [hq] at hl
        simp only [List.length_cons] at hl
        rw [hq, toks_blank eatsR] at h
        cases hr : toks tokR q with
        | none => rw [hr] at h; cases h
        | some m =>
          rw [hr] at h
          cases h
          have := ih q (by simp only [List.length_cons]; omega) m hr
          refine ⟨?_, ?_⟩
          · intro t ht
            rcases List.mem_cons.1 ht with rfl | ht
            · exact hg
            · exact this.1 t ht
          · simp only [List.map_cons, List.sum_cons, List.length_cons]
            omega
/-- A word more behind a line. -/
theorem toks_more (u : B) : ∀ s : B, ∀ l, toks tokR s = some l → toks tokR (s ++ 32 :: u) = (toks tokR u).map (l ++ ·) := by
  refine line_ind (fun l h => by cases h; rw [List.nil_append, toks_blank eatsR]; simp) (fun s ih l h => ?_) (fun c r hc ih l h => ?_)
  · rw [toks_blank eatsR] at h
    rw [List.cons_append, toks_blank eatsR]; exact ih l h
  · rw [toks_word eatsR c r hc] at h
    rw [List.cons_append, toks_word eatsR c _ hc]
    rw [tokR_cons] at h ⊢
    by_cases e : c = 34
    · subst e
      simp only [if_true] at h ⊢
      cases hd : dq r with
      | none => rw [hd] at h; cases h
      | some p =>
        obtain ⟨x, n⟩ := p
        rw [hd] at h
        simp only at h
        have hlen := dq_len r x n hd
        rw [dq_app (32 :: u) r x n hd]
        simp only
        rw [List.drop_append_of_le_length (by omega), ← List.cons_append, List.take_append_of_le_length (by simp only [List.length_cons]; omega)]
        by_cases hj : r.drop n = [] ∨ (r.drop n).head? = some 32
        · rw [if_pos hj] at h
          simp only at h
          rw [if_pos (by
            rcases hj with hj | hj
            · right; rw [hj]; rfl
            · right; rw [List.head?_append, hj]; rfl)]
          simp only
          cases hr : toks tokR (r.drop n) with
          | none => rw [hr] at h; cases h
          | some m =>
            rw [hr] at h
            cases h
            rw [ih (r.drop n) (by simp only [List.length_drop, List.length_cons]; omega) m hr]
            cases toks tokR u <;> simp
        · rw [if_neg hj] at h; cases h
    · rw [if_neg e] at h ⊢
      simp only at h ⊢
      have h1 : upto (c :: (r ++ 32 :: u)) = upto (c :: r) ∧ from' (c :: (r ++ 32 :: u)) = from' (c :: r) ++ 32 :: u := by
        have hs := upto_from (c :: r)
        rcases from_head (c :: r) with hf | hf
        · rw [hf, List.append_nil] at hs
          have := upto_none (s := c :: r) (by rw [← hs]; exact upto_mem) u
          rw [List.cons_append] at this
          rw [this.1, this.2, hs, hf]; exact ⟨rfl, rfl⟩
        · obtain ⟨q, hq⟩ : ∃ q, from' (c :: r) = 32 :: q := by
            cases hq : from' (c :: r) with
            | nil => rw [hq] at hf; cases hf
            | cons a b => rw [hq] at hf; simp only [List.head?_cons, Option.some.injEq] at hf; exact ⟨b, by rw [hf]⟩
          have h2 := upto_none (s := upto (c :: r)) upto_mem (q ++ 32 :: u)
          rw [hq] at hs ⊢
          have e2 : c :: (r ++ 32 :: u) = upto (c :: r) ++ 32 :: (q ++ 32 :: u) := by
            rw [← List.cons_append, ← hs]; simp
            rw [hs]
          rw [e2, h2.1, h2.2]; exact ⟨rfl, rfl⟩
      rw [h1.1, h1.2]
      cases hr : toks tokR (from' (c :: r)) with
      | none => rw [hr] at h; cases h
      | some m =>
        rw [hr] at h
        cases h
        rw [ih (from' (c :: r)) (from_lt r hc) m hr]
        cases toks tokR u <;> simp
end Cl
end Go.Proofs.YtjloonijnbfhhaaDoor
