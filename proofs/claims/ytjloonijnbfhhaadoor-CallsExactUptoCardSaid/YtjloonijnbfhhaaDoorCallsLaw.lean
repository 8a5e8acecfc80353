/- The plain laws of words, numbers, lines and calls: what is quoted is read again, what is printed is parsed again. No program in sight. -/
import Derived.Lib.ItoaNum
import Derived.Lib.ParseIntB
namespace Go.Proofs.YtjloonijnbfhhaaDoor
namespace Cl
abbrev B := List UInt8

/-! ### words -/
def isBare (c : UInt8) : Bool := decide (65 ≤ c ∧ c ≤ 90) || decide (97 ≤ c ∧ c ≤ 122) || decide (48 ≤ c ∧ c ≤ 57) || decide (c = 47 ∨ c = 46 ∨ c = 95 ∨ c = 45)
def bare (s : B) : Bool := s.all isBare && !s.isEmpty
def hexd (n : UInt8) : UInt8 := if n < 10 then 48 + n else 87 + n
def esc (c : UInt8) : B := if c = 34 ∨ c = 92 then [92, c] else if 32 ≤ c ∧ c ≤ 126 then [c] else [92, 120, hexd (c / 16), hexd (c % 16)]
def quote (s : B) : B := if bare s then s else 34 :: (s.flatMap esc ++ [34])
def digit (c : UInt8) : UInt8 := if 48 ≤ c ∧ c ≤ 57 then c - 48 else if 97 ≤ c ∧ c ≤ 102 then c - 87 else if 65 ≤ c ∧ c ≤ 70 then c - 55 else 16
/-- One mark: what it says, and how many bytes it has. -/
def mark : B → Option (UInt8 × Nat)
  | [] => none
  | c :: r => if c < 32 ∨ 126 < c ∨ c = 34 then none else if c ≠ 92 then some (c, 1) else
    match r with
    | [] => none
    | d :: r => if d = 34 ∨ d = 92 then some (d, 2) else
      match r with
      | h :: l :: _ => if d = 120 ∧ digit h < 16 ∧ digit l < 16 then some (16 * digit h + digit l, 4) else none
      | _ => none
/-- What stands behind the first '"' of a quoted word: what it says, and how many bytes it has, with the last '"'. -/
def dqF : Nat → B → Option (B × Nat)
  | 0, _ => none
  | f + 1, s => match s with
    | [] => none
    | c :: _ => if c = 34 then some ([], 1) else
      match mark s with
      | none => none
      | some (x, n) => (dqF f (s.drop n)).map fun p => (x :: p.1, n + p.2)
def dq (s : B) : Option (B × Nat) := dqF s.length s
/-- What a word says. -/
def unquote (w : B) : Option B :=
  if bare w then some w else
  match w with
  | [] => none
  | c :: r => if c = 34 then match dq r with
      | some (x, n) => if n = r.length then some x else none
      | none => none
    else none

theorem mark_pos {s : B} {x : UInt8} {n : Nat} (h : mark s = some (x, n)) : 1 ≤ n ∧ n ≤ s.length := by
  unfold mark at h
  split at h
  · cases h
  · split at h
    · cases h
    · split at h
      · cases h; simp
      · split at h
        · cases h
        · split at h
          · cases h; simp
          · split at h
            · split at h
              · cases h; simp
              · cases h
            · cases h
theorem dqF_mono : ∀ (f g : Nat) (s : B), s.length ≤ f → f ≤ g → dqF g s = dqF f s
  | 0, 0, _, _, _ => rfl
  | 0, g + 1, s, h, _ => by
    have : s = [] := List.length_eq_zero_iff.1 (by omega)
    subst this; rfl
  | f + 1, 0, _, _, h => by omega
  | f + 1, g + 1, s, h, h' => by
    unfold dqF
    cases s with
    | nil => rfl
    | cons c r =>
      simp only
      split
      · rfl
      · cases hm : mark (c :: r) with
        | none => rfl
        | some p =>
          obtain ⟨x, n⟩ := p
          have := mark_pos hm
          simp only
          rw [dqF_mono f g _ (by simp only [List.length_drop, List.length_cons] at *; omega) (by omega)]
/-- One step. -/
theorem dq_cons (c : UInt8) (r : B) : dq (c :: r) = if c = 34 then some ([], 1) else
      match mark (c :: r) with
      | none => none
      | some (x, n) => (dq ((c :: r).drop n)).map fun p => (x :: p.1, n + p.2) := by
  unfold dq
  rw [List.length_cons, dqF]
  split
  · rfl
  · cases hm : mark (c :: r) with
    | none => rfl
    | some p =>
      obtain ⟨x, n⟩ := p
      have := mark_pos hm
      simp only
      rw [dqF_mono ((c :: r).drop n).length r.length _ (Nat.le_refl _) (by simp only [List.length_drop, List.length_cons] at *; omega)]
theorem dq_nil : dq [] = none := rfl
theorem dq_none_of_mark {c : UInt8} {r : B} (h : c ≠ 34) (hm : mark (c :: r) = none) : dq (c :: r) = none := by rw [dq_cons, if_neg h, hm]
theorem dq_some_of_mark {c : UInt8} {r : B} {x : UInt8} {n : Nat} (h : c ≠ 34) (hm : mark (c :: r) = some (x, n)) : dq (c :: r) = (dq ((c :: r).drop n)).map fun p => (x :: p.1, n + p.2) := by rw [dq_cons, if_neg h, hm]
theorem dq_end (r : B) : dq (34 :: r) = some ([], 1) := by rw [dq_cons, if_pos rfl]

/-- Induction along a quoted word. -/
theorem dq_ind {P : B → Prop} (h0 : P []) (h1 : ∀ r, P (34 :: r)) (h2 : ∀ c r, c ≠ 34 → mark (c :: r) = none → P (c :: r))
    (h3 : ∀ c r x n, c ≠ 34 → mark (c :: r) = some (x, n) → P ((c :: r).drop n) → P (c :: r)) : ∀ s, P s := by
  intro s
  generalize hk : s.length = k
  induction k using Nat.strongRecOn generalizing s with
  | _ k ih =>
    cases s with
    | nil => exact h0
    | cons c r =>
      by_cases e : c = 34
      · subst e; exact h1 r
      · cases hm : mark (c :: r) with
        | none => exact h2 c r e hm
        | some p =>
          obtain ⟨x, n⟩ := p
          have hp := mark_pos hm
          exact h3 c r x n e hm (ih _ (by simp only [List.length_drop, List.length_cons] at *; omega) _ rfl)

theorem dq_len : ∀ s : B, ∀ x n, dq s = some (x, n) → 1 ≤ n ∧ n ≤ s.length ∧ x.length + 1 ≤ n := by
  refine dq_ind (fun x n h => by cases h) (fun r x n h => ?_) (fun c r hc hm x n h => by rw [dq_none_of_mark hc hm] at h; cases h) (fun c r y m hc hm ih x n h => ?_)
  · rw [dq_end] at h; cases h; simp
  · rw [dq_some_of_mark hc hm] at h
    have hp := mark_pos hm
    cases hd : dq ((c :: r).drop m) with
    | none => rw [hd] at h; cases h
    | some p =>
      rw [hd] at h
      obtain ⟨z, k⟩ := p
      simp only [Option.map_some, Option.some.injEq, Prod.mk.injEq] at h
      obtain ⟨rfl, rfl⟩ := h
      have := ih z k hd
      simp only [List.length_drop, List.length_cons] at *
      omega

theorem mark_app {s : B} (t : B) {x : UInt8} {n : Nat} (h : mark s = some (x, n)) : mark (s ++ t) = some (x, n) := by
  unfold mark at h
  split at h
  · cases h
  · rename_i c r
    rw [List.cons_append]
    unfold mark
    simp only
    split at h
    · cases h
    · rename_i h1
      rw [if_neg h1]
      split at h
      · rename_i h2; rw [if_pos h2]; exact h
      · rename_i h2
        rw [if_neg h2]
        split at h
        · cases h
        · rename_i d r
          rw [List.cons_append]
          simp only
          split at h
          · rename_i h3; rw [if_pos h3]; exact h
          · rename_i h3
            rw [if_neg h3]
            split at h
            · simp only [List.cons_append]; exact h
            · cases h
/-- What stands behind the last '"' is not looked at. -/
theorem dq_app (t : B) : ∀ s : B, ∀ x n, dq s = some (x, n) → dq (s ++ t) = some (x, n) := by
  refine dq_ind (fun x n h => by cases h) (fun r x n h => ?_) (fun c r hc hm x n h => by rw [dq_none_of_mark hc hm] at h; cases h) (fun c r y m hc hm ih x n h => ?_)
  · rw [dq_end] at h; rw [List.cons_append, dq_end]; exact h
  · rw [dq_some_of_mark hc hm] at h
    have hm' := mark_app t hm
    have hp := mark_pos hm
    rw [List.cons_append] at hm'
    rw [List.cons_append, dq_some_of_mark hc hm']
    cases hd : dq ((c :: r).drop m) with
    | none => rw [hd] at h; cases h
    | some p =>
      obtain ⟨z, k⟩ := p
      rw [hd] at h
      have := ih z k hd
      rw [← List.cons_append, List.drop_append_of_le_length (by omega), this]
      exact h
/-- .. so the bytes ahead of it are enough. -/
theorem mark_take {s : B} {x : UInt8} {n : Nat} (k : Nat) (h : mark s = some (x, n)) (hk : n ≤ k) : mark (s.take k) = some (x, n) := by
  unfold mark at h
  split at h
  · cases h
  · rename_i c r
    split at h
    · cases h
    · rename_i h1
      split at h
      · rename_i h2
        cases h
        obtain ⟨k, rfl⟩ : ∃ j, k = j + 1 := ⟨k - 1, by omega⟩
        rw [List.take_succ_cons]; unfold mark; simp only; rw [if_neg h1, if_pos h2]
      · rename_i h2
        split at h
        · cases h
        · rename_i d r
          split at h
          · rename_i h3
            cases h
            obtain ⟨k, rfl⟩ : ∃ j, k = j + 2 := ⟨k - 2, by omega⟩
            rw [List.take_succ_cons, List.take_succ_cons]; unfold mark; simp only; rw [if_neg h1, if_neg h2, if_pos h3]
          · rename_i h3
            split at h
            · rename_i h4 l q
              split at h
              · rename_i h5
                cases h
                obtain ⟨k, rfl⟩ : ∃ j, k = j + 4 := ⟨k - 4, by omega⟩
                rw [List.take_succ_cons, List.take_succ_cons, List.take_succ_cons, List.take_succ_cons]; unfold mark; simp only; rw [if_neg h1, if_neg h2, if_neg h3, if_pos h5]
              · cases h
            · cases h
theorem dq_take : ∀ s : B, ∀ x n k, dq s = some (x, n) → n ≤ k → dq (s.take k) = some (x, n) := by
  refine dq_ind (fun x n k h => by cases h) (fun r x n k h hk => ?_) (fun c r hc hm x n k h => by rw [dq_none_of_mark hc hm] at h; cases h) (fun c r y m hc hm ih x n k h hk => ?_)
  · rw [dq_end] at h; cases h
    obtain ⟨k, rfl⟩ : ∃ j, k = j + 1 := ⟨k - 1, by omega⟩
    rw [List.take_succ_cons, dq_end]
  · rw [dq_some_of_mark hc hm] at h
    have hp := mark_pos hm
    cases hd : dq ((c :: r).drop m) with
    | none => rw [hd] at h; cases h
    | some p =>
      obtain ⟨z, j⟩ := p
      rw [hd] at h
      have hx : (y :: z, m + j) = (x, n) := by simpa using h
      cases hx
      have hm' := mark_take k hm (by omega)
      obtain ⟨q, hq⟩ : ∃ q, (c :: r).take k = c :: q := by
        obtain ⟨k, rfl⟩ : ∃ j, k = j + 1 := ⟨k - 1, by omega⟩
        exact ⟨_, List.take_succ_cons⟩
      rw [hq] at hm' ⊢
      rw [dq_some_of_mark hc hm', ← hq, List.drop_take, ih z j (k - m) hd (by omega)]
      rfl

/-! ### what is quoted is read again -/
theorem hexd_fin : ∀ n : Fin 16, digit (hexd (UInt8.ofNat n.val)) = UInt8.ofNat n.val := by decide +kernel
theorem mark_esc_fin : ∀ n : Fin 256, mark (esc (UInt8.ofNat n.val)) = some (UInt8.ofNat n.val, (esc (UInt8.ofNat n.val)).length) := by decide +kernel
theorem all_u8 {P : UInt8 → Prop} (h : ∀ n : Fin 256, P (UInt8.ofNat n.val)) (c : UInt8) : P c := by
  have := h ⟨c.toNat, c.toNat_lt⟩
  simpa using this
theorem mark_esc (c : UInt8) : mark (esc c) = some (c, (esc c).length) := all_u8 (P := fun c => mark (esc c) = some (c, (esc c).length)) mark_esc_fin c
theorem esc_head_fin : ∀ n : Fin 256, (esc (UInt8.ofNat n.val)).head? ≠ some 34 ∧ (esc (UInt8.ofNat n.val)).length ≤ 4 ∧ 1 ≤ (esc (UInt8.ofNat n.val)).length ∧ (esc (UInt8.ofNat n.val)).all (fun x => decide (32 ≤ x ∧ x ≤ 126)) = true := by decide +kernel
theorem esc_head (c : UInt8) : (esc c).head? ≠ some 34 ∧ (esc c).length ≤ 4 ∧ 1 ≤ (esc c).length ∧ (esc c).all (fun x => decide (32 ≤ x ∧ x ≤ 126)) = true :=
  all_u8 (P := fun c => (esc c).head? ≠ some 34 ∧ (esc c).length ≤ 4 ∧ 1 ≤ (esc c).length ∧ (esc c).all (fun x => decide (32 ≤ x ∧ x ≤ 126)) = true) esc_head_fin c
theorem dq_esc (t : B) : ∀ s : B, dq (s.flatMap esc ++ 34 :: t) = some (s, (s.flatMap esc).length + 1)
  | [] => by simp [dq_end]
  | c :: s => by
    have h1 := mark_esc c
    obtain ⟨h2, h3, h4, _⟩ := esc_head c
    have ih := dq_esc t s
    have h5 := mark_app (s.flatMap esc ++ 34 :: t) h1
    have e : (c :: s).flatMap esc ++ 34 :: t = esc c ++ (s.flatMap esc ++ 34 :: t) := by simp [List.flatMap_cons]
    rw [e]
    cases he : esc c with
    | nil => rw [he] at h4; simp at h4
    | cons d r =>
      rw [he] at h5 h2
      rw [List.cons_append] at h5 ⊢
      rw [dq_some_of_mark (by simpa using h2) h5, ← List.cons_append, List.drop_left, ih]
      simp only [Option.map_some, List.flatMap_cons, he, List.length_append]
      rw [Nat.add_assoc]
theorem bare_not_quote {r : B} : bare (34 :: r) = false := by simp [bare, isBare]
theorem unquote_quote (s : B) : unquote (quote s) = some s := by
  unfold quote
  split
  · rename_i h; unfold unquote; rw [if_pos h]
  · have h := dq_esc [] s
    unfold unquote
    rw [bare_not_quote]
    simp only [Bool.false_eq_true, if_false, if_true, h, List.length_append, List.length_cons, List.length_nil]
theorem quote_inj {s t : B} (h : quote s = quote t) : s = t := by
  have h1 := unquote_quote s
  rw [h, unquote_quote] at h1
  exact (Option.some.inj h1).symm
theorem flat_len (s : B) : (s.flatMap esc).length ≤ 4 * s.length ∧ s.length ≤ (s.flatMap esc).length := by
  induction s with
  | nil => simp
  | cons c s ih =>
    obtain ⟨_, h3, h4, _⟩ := esc_head c
    simp only [List.flatMap_cons, List.length_append, List.length_cons] at *
    omega
theorem quote_len (s : B) : (quote s).length ≤ 4 * s.length + 2 := by
  have := flat_len s
  unfold quote; split
  · omega
  · simp only [List.length_cons, List.length_append, List.length_nil]; omega
theorem quote_ge (s : B) : s.length ≤ (quote s).length := by
  have := flat_len s
  unfold quote; split
  · omega
  · simp only [List.length_cons, List.length_append, List.length_nil]; omega
theorem bare_chars (c : UInt8) (h : isBare c = true) : 32 ≤ c ∧ c ≤ 126 ∧ c ≠ 34 ∧ c ≠ 32 := by
  have : ∀ n : Fin 256, isBare (UInt8.ofNat n.val) = true → 32 ≤ UInt8.ofNat n.val ∧ UInt8.ofNat n.val ≤ 126 ∧ UInt8.ofNat n.val ≠ 34 ∧ UInt8.ofNat n.val ≠ 32 := by decide +kernel
  exact all_u8 (P := fun c => isBare c = true → 32 ≤ c ∧ c ≤ 126 ∧ c ≠ 34 ∧ c ≠ 32) this c h
theorem quote_chars (s : B) : ∀ x ∈ quote s, 32 ≤ x ∧ x ≤ 126 := by
  unfold quote
  split
  · rename_i h
    intro x hx
    simp only [bare, Bool.and_eq_true, List.all_eq_true] at h
    have := bare_chars x (h.1 x hx)
    exact ⟨this.1, this.2.1⟩
  · intro x hx
    simp only [List.mem_cons, List.mem_append, List.mem_flatMap, List.not_mem_nil, or_false] at hx
    rcases hx with rfl | ⟨c, _, hc⟩ | rfl
    · decide
    · have := (esc_head c).2.2.2
      rw [List.all_eq_true] at this
      simpa using this x hc
    · decide
theorem quote_bare (s : B) : bare s = decide (quote s = s ∧ quote s ≠ []) := by
  unfold quote
  by_cases h : bare s = true
  · rw [if_pos h, h]
    have : s ≠ [] := by
      rintro rfl; simp [bare] at h
    simp [this]
  · rw [if_neg h]
    have e : bare s = false := by simpa using h
    rw [e]
    symm
    simp only [decide_eq_false_iff_not, not_and]
    intro h1
    have h2 := congrArg List.length h1
    have := flat_len s
    simp only [List.length_cons, List.length_append, List.length_nil] at h2
    omega
/-- A quoted word that is cut is none. -/
theorem unquote_cut (s : B) (h : bare s = false) (i : Nat) (hi : i < (quote s).length) : unquote ((quote s).take i) = none := by
  have e : quote s = 34 :: (s.flatMap esc ++ [34]) := by unfold quote; rw [h]; rfl
  rw [e] at hi ⊢
  simp only [List.length_cons, List.length_append, List.length_nil] at hi
  cases i with
  | zero => simp [unquote, bare]
  | succ i =>
    rw [List.take_succ_cons]
    unfold unquote
    rw [bare_not_quote]
    simp only [Bool.false_eq_true, if_false, if_true]
    cases hd : dq ((s.flatMap esc ++ [34]).take i) with
    | none => rfl
    | some p =>
      obtain ⟨x, n⟩ := p
      have h1 := dq_app ((s.flatMap esc ++ [34]).drop i) _ x n hd
      rw [List.take_append_drop, dq_esc [] s] at h1
      simp only [Option.some.injEq, Prod.mk.injEq] at h1
      simp only [List.length_take, List.length_append, List.length_cons, List.length_nil]
      rw [if_neg (by omega)]
/-- .. with something behind it, too. -/
theorem unquote_more (s t : B) (h : bare s = false) (ht : t ≠ []) : unquote (quote s ++ t) = none := by
  have e : quote s = 34 :: (s.flatMap esc ++ [34]) := by unfold quote; rw [h]; rfl
  rw [e, List.cons_append]
  unfold unquote
  rw [bare_not_quote]
  have h1 := dq_esc t s
  have : 1 ≤ t.length := by cases t; exact absurd rfl ht; simp
  simp only [Bool.false_eq_true, if_false, if_true, List.append_assoc, List.cons_append, List.nil_append, h1, List.length_append, List.length_cons]
  rw [if_neg (by omega)]
end Cl
end Go.Proofs.YtjloonijnbfhhaaDoor
