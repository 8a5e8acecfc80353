/- The plain laws of calls as lines: what is printed is read again, and what is read has one printed form. No program in sight. -/
import Derived.Test.YtjloonijnbfhhaaDoorCallsRows
namespace Go.Proofs.YtjloonijnbfhhaaDoor
namespace Cl
open Go.Lib

structure PCall where
  kind : Int
  path : B
  other : B
  data : B
  off : Int
  size : Int
  deriving DecidableEq

def zero (k : Int) : PCall := ⟨k, [], [], [], 0, 0⟩
/-- The place's word, or number. -/
def text (c : PCall) : Nat → B
  | 0 => quote c.path
  | 1 => quote c.other
  | 2 => quote c.data
  | 3 => itoa c.off
  | 4 => itoa c.size
  | _ => []
def put (c : PCall) (t : B) : Nat → Option PCall
  | 0 => (unquote t).map fun x => { c with path := x }
  | 1 => (unquote t).map fun x => { c with other := x }
  | 2 => (unquote t).map fun x => { c with data := x }
  | 3 => (num t).map fun x => { c with off := x }
  | 4 => (num t).map fun x => { c with size := x }
  | _ => none
/-- d with c's field. -/
def copy (c d : PCall) : Nat → PCall
  | 0 => { d with path := c.path }
  | 1 => { d with other := c.other }
  | 2 => { d with data := c.data }
  | 3 => { d with off := c.off }
  | 4 => { d with size := c.size }
  | _ => d
def fill (d : PCall) : List Nat → List B → Option PCall
  | [], [] => some d
  | p :: ps, t :: ts => (put d t p).bind fun e => fill e ps ts
  | _, _ => none
def Fits (c : PCall) : Prop := inRange c.off ∧ inRange c.size
def rowAt (k : Int) : Option (B × List Nat) := if 1 ≤ k then rowsT[(k - 1).toNat]? else none
def print (c : PCall) : Option B := (rowAt c.kind).map fun r => r.1 ++ r.2.flatMap fun p => 32 :: text c p
def own (c : PCall) : PCall := match rowAt c.kind with
  | some r => r.2.foldl (copy c) (zero c.kind)
  | none => zero c.kind
/-- The command's kind. -/
def kindOf (w : B) : Option Nat := rowsT.findIdx? fun r => r.1 == w
def parseToks : List B → Option PCall
  | [] => none
  | w :: ts => match kindOf w with
    | none => none
    | some k => match rowsT[k]? with
      | none => none
      | some r => fill (zero ((k : Int) + 1)) r.2 ts
def parseR (line : B) : Option PCall := (toks tokR line).bind parseToks
def parse (line : B) : Option PCall := (toks tokP line).bind parseToks

/-! ### the table -/
theorem rows_fin : ∀ k : Fin 15, ∃ r, rowsT[k.val]? = some r ∧ kindOf r.1 = some k.val ∧ bare r.1 = true ∧ r.2.Nodup ∧ (∀ p ∈ r.2, p < 5) := by decide +kernel
theorem rows_at {k : Nat} {r : B × List Nat} (h : rowsT[k]? = some r) : kindOf r.1 = some k ∧ bare r.1 = true ∧ r.2.Nodup ∧ (∀ p ∈ r.2, p < 5) := by
  have hk : k < 15 := (List.getElem?_eq_some_iff.1 h).1
  obtain ⟨r', h1, h2⟩ := rows_fin ⟨k, hk⟩
  rw [h] at h1
  cases h1
  exact h2
theorem rows_small_fin : ∀ k : Fin 15, ∃ r, rowsT[k.val]? = some r ∧ r.1.length ≤ 10 ∧ r.2.length ≤ 3 := by decide +kernel
theorem rows_small {k : Nat} {cmd : B} {ps : List Nat} (h : rowsT[k]? = some (cmd, ps)) : cmd.length ≤ 10 ∧ ps.length ≤ 3 := by
  have hk : k < 15 := (List.getElem?_eq_some_iff.1 h).1
  obtain ⟨r', h1, h2⟩ := rows_small_fin ⟨k, hk⟩
  rw [h] at h1
  cases h1
  exact h2
theorem kindOf_at {w : B} {k : Nat} (h : kindOf w = some k) : ∃ ps, rowsT[k]? = some (w, ps) := by
  obtain ⟨hk, hp, _⟩ := List.findIdx?_eq_some_iff_getElem.1 h
  refine ⟨rowsT[k].2, ?_⟩
  rw [List.getElem?_eq_getElem hk]
  have : rowsT[k].1 = w := by simpa using hp
  rw [← this]
theorem rowAt_nat (k : Nat) : rowAt ((k : Int) + 1) = rowsT[k]? := by
  unfold rowAt
  rw [if_pos (by omega), show (((k : Int) + 1) - 1).toNat = k by omega]
theorem rowAt_some {k : Int} {r : B × List Nat} (h : rowAt k = some r) : ∃ n : Nat, k = (n : Int) + 1 ∧ rowsT[n]? = some r := by
  unfold rowAt at h
  split at h
  · exact ⟨(k - 1).toNat, by omega, h⟩
  · cases h
theorem rowAt_none {k : Int} (h : ¬ (1 ≤ k ∧ k ≤ 15)) : rowAt k = none := by
  unfold rowAt
  split
  · rw [List.getElem?_eq_none]
    show 15 ≤ _
    omega
  · rfl
theorem rowAt_is {k : Int} (h : 1 ≤ k ∧ k ≤ 15) : ∃ r, rowAt k = some r := by
  obtain ⟨r, hr, _⟩ := rows_fin ⟨(k - 1).toNat, by omega⟩
  exact ⟨r, by unfold rowAt; rw [if_pos h.1]; exact hr⟩

/-! ### fields -/
theorem num_head {r : B} : num (34 :: r) = none := by
  rw [num_cons, if_neg (by decide)]
  have : badT false (34 :: r) = true := by simp [badT, isDig]
  simp [numT, this]
theorem put_text (c d : PCall) (p : Nat) (hp : p < 5) (hr : Fits c) : put d (text c p) p = some (copy c d p) := by
  obtain rfl | rfl | rfl | rfl | rfl : p = 0 ∨ p = 1 ∨ p = 2 ∨ p = 3 ∨ p = 4 := by omega
  all_goals simp only [put, text, copy, unquote_quote, num_itoa _ hr.1, num_itoa _ hr.2, Option.map_some]
theorem copy_kind (c d : PCall) (p : Nat) : (copy c d p).kind = d.kind := by
  unfold copy
  split <;> rfl
theorem fill_text (c : PCall) (hr : Fits c) : ∀ (ps : List Nat), (∀ p ∈ ps, p < 5) → ∀ d, fill d ps (ps.map (text c)) = some (ps.foldl (copy c) d)
  | [], _, d => rfl
  | p :: ps, h, d => by
    simp only [List.map_cons, fill, put_text c d p (h p (by simp)) hr, Option.bind_some, List.foldl_cons]
    exact fill_text c hr ps (fun q hq => h q (by simp [hq])) _
theorem copy_copy (c e d : PCall) (p : Nat) (h : copy c d p = copy e d p) : text c p = text e p := by
  revert h
  unfold copy text
  split <;> intro h <;> first | rfl | (injection h; simp_all)
theorem put_is {d e : PCall} {t : B} {p : Nat} (h : put d t p = some e) : p < 5 ∧ e = copy e d p ∧ e.kind = d.kind ∧ (Fits d → Fits e) ∧ (text e p).length ≤ 4 * t.length ∧ (∀ q x, q ≠ p → copy e x q = copy d x q) := by
  have hq : ∀ t x : B, unquote t = some x → (quote x).length ≤ 4 * t.length := by
    intro t x hx
    unfold unquote at hx
    split at hx
    · cases hx
      rename_i hb
      rw [quote, if_pos hb]
      omega
    · split at hx
      · cases hx
      · split at hx
        · split at hx
          · rename_i y n hd
            split at hx
            · cases hx
              have := dq_len _ _ _ hd
              have := quote_len x
              simp only [List.length_cons]
              omega
            · cases hx
          · cases hx
        · cases hx
  match p, h with
  | 0, h | 1, h | 2, h =>
    simp only [put, Option.map_eq_some_iff] at h
    obtain ⟨x, hx, rfl⟩ := h
    refine ⟨by decide, rfl, rfl, id, hq _ _ hx, fun q y hn => ?_⟩
    unfold copy
    split <;> first | rfl | exact absurd rfl hn
  | 3, h | 4, h =>
    simp only [put, Option.map_eq_some_iff] at h
    obtain ⟨x, hx, rfl⟩ := h
    obtain ⟨h1, h2⟩ := itoa_num hx
    refine ⟨by decide, rfl, rfl, fun hf => ?_, ?_, fun q y hn => ?_⟩
    · first | exact ⟨h2, hf.2⟩ | exact ⟨hf.1, h2⟩
    · simp only [text, h1]; omega
    · unfold copy
      split <;> first | rfl | exact absurd rfl hn
  | n + 5, h => simp [put] at h
theorem fill_is : ∀ (ps : List Nat) (ts : List B) (d c : PCall), ps.Nodup → Fits d → fill d ps ts = some c →
    c = ps.foldl (copy c) d ∧ c.kind = d.kind ∧ Fits c ∧ ps.length = ts.length ∧ (∀ q x, q ∉ ps → copy c x q = copy d x q) ∧ (ps.flatMap fun p => 32 :: text c p).length ≤ 4 * (ts.map (fun t => t.length + 1)).sum
  | [], [], d, c, _, hd, h => by cases h; exact ⟨rfl, rfl, hd, rfl, fun _ _ _ => rfl, by simp⟩
  | [], _ :: _, d, c, _, _, h => by simp [fill] at h
  | _ :: _, [], d, c, _, _, h => by simp [fill] at h
  | p :: ps, t :: ts, d, c, hn, hd, h => by
    simp only [fill, Option.bind_eq_some_iff] at h
    obtain ⟨e, he, hc⟩ := h
    obtain ⟨h5, h1, h2, h3, h4, h6⟩ := put_is he
    obtain ⟨hnp, hn'⟩ := List.nodup_cons.1 hn
    obtain ⟨i1, i2, i3, i4, i5, i6⟩ := fill_is ps ts e c hn' (h3 hd) hc
    have hce : copy c d p = copy e d p := i5 p d hnp
    refine ⟨?_, i2.trans h2, i3, by simp [i4], fun q x hq => ?_, ?_⟩
    · rw [List.foldl_cons, hce, ← h1]; exact i1
    · rw [List.mem_cons, not_or] at hq
      rw [i5 q x hq.2, h6 q x hq.1]
    · have : text c p = text e p := copy_copy c e d p hce
      simp only [List.flatMap_cons, List.length_append, List.length_cons, List.map_cons, List.sum_cons, this]
      omega
theorem zero_fits (k : Int) : Fits (zero k) := ⟨⟨by show (-9223372036854775808 : Int) ≤ 0; decide, by show (0 : Int) ≤ 9223372036854775807; decide⟩, ⟨by show (-9223372036854775808 : Int) ≤ 0; decide, by show (0 : Int) ≤ 9223372036854775807; decide⟩⟩

/-! ### reading -/
theorem good_quote (s : B) : Good (quote s) := by
  unfold quote
  by_cases hb : bare s = true
  · rw [if_pos hb]
    have hb' : (s.all isBare && !s.isEmpty) = true := hb
    rw [Bool.and_eq_true] at hb'
    have hall := List.all_eq_true.1 hb'.1
    refine ⟨by rintro rfl; simp at hb', fun r hr => ?_, fun _ c hc => (bare_chars c (hall c hc)).2.2.2⟩
    exact absurd rfl (bare_chars 34 (hall 34 (by rw [hr]; simp))).2.2.1
  · rw [if_neg hb]
    refine ⟨by simp, fun r hr => ?_, fun h => absurd rfl h⟩
    injection hr with _ hr
    subst hr
    exact ⟨s, by rw [dq_esc [] s]; simp⟩
theorem good_bare {s : B} (hb : bare s = true) : Good s := by
  have := good_quote s
  rwa [quote, if_pos hb] at this
theorem dec_bare (u : Nat) : ∀ c ∈ decDigits u, isDig c = true := (dec_canon u).1.dig
theorem dig_bare {c : UInt8} (h : isDig c = true) : isBare c = true := by
  have : 48 ≤ c ∧ c ≤ 57 := by simpa [isDig] using h
  simp [isBare, this.1, this.2]
theorem bare_itoa (n : Int) : bare (itoa n) = true := by
  unfold itoa bare
  split
  · simp only [List.all_cons, List.isEmpty_cons, Bool.not_false, Bool.and_true, Bool.and_eq_true]
    exact ⟨by decide, List.all_eq_true.2 fun c hc => dig_bare (dec_bare _ c hc)⟩
  · rw [Bool.and_eq_true]
    refine ⟨List.all_eq_true.2 fun c hc => dig_bare (dec_bare _ c hc), ?_⟩
    have := (dec_canon n.toNat).1.ne
    simp [this]
theorem good_text (c : PCall) (p : Nat) (hp : p < 5) : Good (text c p) := by
  obtain rfl | rfl | rfl | rfl | rfl : p = 0 ∨ p = 1 ∨ p = 2 ∨ p = 3 ∨ p = 4 := by omega
  · exact good_quote _
  · exact good_quote _
  · exact good_quote _
  · exact good_bare (bare_itoa _)
  · exact good_bare (bare_itoa _)
/-- Words with blanks between them, any number of blanks. -/
theorem toks_words : ∀ (ts : List B) (t : B), Good t → (∀ x ∈ ts, Good x) → toks tokR (t ++ ts.flatMap fun x => 32 :: x) = some (t :: ts)
  | [], t, h, _ => by simpa using toks_good h
  | x :: ts, t, h, hs => by
    rw [List.flatMap_cons, List.cons_append, toks_good_app h, toks_words ts x (hs x (by simp)) (fun y hy => hs y (by simp [hy]))]
    rfl
theorem RP {line : B} {l : List B} (h : toks tokR line = some l) : toks tokP line = some l := (toks_RP line).1 l h
theorem fill_junk : ∀ (ps : List Nat) (ts : List B) (d : PCall), (∃ t ∈ ts, Junk t) → fill d ps ts = none
  | [], [], d, h => by obtain ⟨t, ht, _⟩ := h; cases ht
  | [], _ :: _, d, h => rfl
  | _ :: _, [], d, h => rfl
  | p :: ps, t :: ts, d, h => by
    simp only [fill]
    cases hp : put d t p with
    | none => rfl
    | some e =>
      simp only [Option.bind_some]
      obtain ⟨x, hx, hj⟩ := h
      rcases List.mem_cons.1 hx with rfl | hx
      · exfalso
        obtain ⟨h1, h2⟩ := hj
        cases x with
        | nil => simp at h1
        | cons a r =>
          have : a = 34 := by simpa using h1
          subst this
          match p, hp with
          | 0, hp | 1, hp | 2, hp => simp [put, h2] at hp
          | 3, hp | 4, hp => simp [put, num_head] at hp
          | n + 5, hp => simp [put] at hp
      · exact fill_junk ps ts e ⟨x, hx, hj⟩
theorem toks_junk {l : List B} (h : ∃ t ∈ l, Junk t) : parseToks l = none := by
  cases l with
  | nil => rfl
  | cons w ts =>
    simp only [parseToks]
    cases hk : kindOf w with
    | none => rfl
    | some k =>
      obtain ⟨ps, hps⟩ := kindOf_at hk
      simp only [hps]
      obtain ⟨t, ht, hj⟩ := h
      rcases List.mem_cons.1 ht with rfl | ht
      · have hb := (rows_at hps).2.1
        have := hj.2
        unfold unquote at this
        simp only at hb
        rw [if_pos hb] at this
        cases this
      · exact fill_junk _ _ _ ⟨t, ht, hj⟩
theorem parse_R (line : B) : parse line = parseR line := by
  unfold parse parseR
  cases h : toks tokR line with
  | some l => rw [RP h]
  | none =>
    cases h2 : toks tokP line with
    | none => rfl
    | some l => exact toks_junk ((toks_RP line).2 l h h2)

/-! ### the laws -/
theorem parse_words (c : PCall) (hr : Fits c) {r : B × List Nat} (h : rowAt c.kind = some r) (line : B) (ht : toks tokR line = some (r.1 :: r.2.map (text c))) : parse line = some (own c) := by
  obtain ⟨n, hk, hn⟩ := rowAt_some h
  obtain ⟨h1, h2, h3, h4⟩ := rows_at hn
  rw [parse_R, parseR, ht, Option.bind_some]
  simp only [parseToks, h1, hn, own, h]
  rw [fill_text c hr r.2 h4, hk]
theorem print_toks {c : PCall} {r : B × List Nat} (h : rowAt c.kind = some r) : toks tokR (r.1 ++ r.2.flatMap fun p => 32 :: text c p) = some (r.1 :: r.2.map (text c)) := by
  obtain ⟨n, hk, hn⟩ := rowAt_some h
  obtain ⟨h1, h2, h3, h4⟩ := rows_at hn
  have := toks_words (r.2.map (text c)) r.1 (good_bare h2) (by
    intro x hx
    obtain ⟨p, hp, rfl⟩ := List.mem_map.1 hx
    exact good_text c p (h4 p hp))
  rwa [List.flatMap_map] at this
theorem parse_print {c : PCall} (hr : Fits c) {s : B} (h : print c = some s) : parse s = some (own c) := by
  unfold print at h
  rw [Option.map_eq_some_iff] at h
  obtain ⟨r, hr', rfl⟩ := h
  exact parse_words c hr hr' _ (print_toks hr')
theorem parse_is {line : B} {c : PCall} (h : parse line = some c) : 1 ≤ c.kind ∧ c.kind ≤ 15 ∧ Fits c ∧ own c = c ∧ (∀ s, print c = some s → s.length ≤ 4 * line.length + 2) := by
  rw [parse_R, parseR, Option.bind_eq_some_iff] at h
  obtain ⟨l, hl, hp⟩ := h
  cases l with
  | nil => cases hp
  | cons w ts =>
    simp only [parseToks] at hp
    cases hk : kindOf w with
    | none => rw [hk] at hp; cases hp
    | some k =>
      obtain ⟨ps, hps⟩ := kindOf_at hk
      rw [hk] at hp
      simp only [hps] at hp
      obtain ⟨h1, h2, h3, h4⟩ := rows_at hps
      obtain ⟨i1, i2, i3, i4, i5, i6⟩ := fill_is ps ts _ c h3 (zero_fits _) hp
      have hkk : c.kind = (k : Int) + 1 := i2
      have hk15 : k < 15 := (List.getElem?_eq_some_iff.1 hps).1
      have hrow : rowAt c.kind = some (w, ps) := by rw [hkk, rowAt_nat, hps]
      refine ⟨by omega, by omega, i3, ?_, fun s hs => ?_⟩
      · unfold own
        rw [hrow]
        simp only
        rw [hkk]
        exact i1.symm
      · unfold print at hs
        rw [hrow, Option.map_some] at hs
        cases hs
        have := (toks_are_good line _ hl).2
        simp only [List.map_cons, List.sum_cons] at this
        simp only [List.length_append]
        omega
theorem own_kind (c : PCall) : (own c).kind = c.kind := by
  unfold own
  split
  · rename_i r hr
    have : ∀ (ps : List Nat) (d : PCall), (ps.foldl (copy c) d).kind = d.kind := by
      intro ps
      induction ps with
      | nil => intro d; rfl
      | cons p ps ih => intro d; rw [List.foldl_cons, ih, copy_kind]
    exact this _ _
  · rfl
/-- Unlike calls are printed unlike, and like ones alike. -/
theorem text_own (c : PCall) {r : B × List Nat} (h : rowAt c.kind = some r) : ∀ p ∈ r.2, text (own c) p = text c p := by
  have key : ∀ (ps : List Nat) (d : PCall), (∀ p, p ∈ ps → text (ps.foldl (copy c) d) p = text c p) ∧ (∀ p, text d p = text c p → text (ps.foldl (copy c) d) p = text c p) := by
    intro ps
    have step : ∀ (d : PCall) (p q : Nat), text d p = text c p → text (copy c d q) p = text c p := by
      intro d p q h
      unfold copy
      split <;> first | exact h | (unfold text at *; split <;> first | rfl | simpa using h)
    have same : ∀ (d : PCall) (p : Nat), text (copy c d p) p = text c p := by
      intro d p
      unfold copy
      split <;> first | rfl | (unfold text; split <;> simp_all)
    induction ps with
    | nil => exact fun d => ⟨(fun p hp => by cases hp), fun p h => h⟩
    | cons q ps ih =>
      intro d
      rw [List.foldl_cons]
      refine ⟨fun p hp => ?_, fun p hp => (ih _).2 p (step d p q hp)⟩
      by_cases e : p ∈ ps
      · exact (ih _).1 p e
      · have : p = q := by simpa [e] using hp
        subst this
        exact (ih _).2 p (same d p)
  intro p hp
  unfold own
  rw [h]
  exact (key _ _).1 p hp
theorem print_own (c : PCall) : print (own c) = print c := by
  unfold print
  rw [own_kind]
  cases h : rowAt c.kind with
  | none => rfl
  | some r =>
    simp only [Option.map_some]
    have : (r.2.flatMap fun p => 32 :: text (own c) p) = r.2.flatMap fun p => 32 :: text c p := by
      simp only [List.flatMap]
      rw [List.map_congr_left (g := fun p => 32 :: text c p) (fun p hp => by rw [text_own c h p hp])]
    rw [this]
theorem print_eq {c d : PCall} (hc : Fits c) (hd : Fits d) {s : B} (h1 : print c = some s) : print d = some s ↔ own c = own d := by
  constructor
  · intro h2
    have a := parse_print hc h1
    have b := parse_print hd h2
    rw [a] at b
    exact Option.some.inj b
  · intro h
    rw [← print_own d, ← h, print_own, h1]
theorem print_one {line : B} {c : PCall} (h : parse line = some c) : ∃ s, print c = some s ∧ parse s = some c := by
  obtain ⟨h1, h2, h3, h4, _⟩ := parse_is h
  obtain ⟨r, hr⟩ := rowAt_is ⟨h1, h2⟩
  have : print c = some (r.1 ++ r.2.flatMap fun p => 32 :: text c p) := by unfold print; rw [hr]; rfl
  refine ⟨_, this, ?_⟩
  rw [parse_print h3 this, h4]
/-- One word more is one too many. -/
theorem parse_two {line : B} {c : PCall} (h : parse line = some c) : parse (line ++ [32, 49]) = none := by
  have h' := h
  rw [parse_R, parseR, Option.bind_eq_some_iff] at h'
  obtain ⟨l, hl, hp⟩ := h'
  have hm := toks_more [49] line l hl
  have h1 : toks tokR [49] = some [[49]] := by decide +kernel
  rw [h1, Option.map_some] at hm
  rw [parse_R, parseR, hm, Option.bind_some]
  cases l with
  | nil => cases hp
  | cons w ts =>
    simp only [parseToks] at hp
    simp only [List.cons_append, parseToks]
    cases hk : kindOf w with
    | none => rfl
    | some k =>
      obtain ⟨ps, hps⟩ := kindOf_at hk
      rw [hk] at hp
      simp only [hps] at hp ⊢
      have h4 := (fill_is ps ts _ c (rows_at hps).2.2.1 (zero_fits _) hp).2.2.2.1
      cases hf : fill (zero ((k : Int) + 1)) ps (ts ++ [[49]]) with
      | none => rfl
      | some e =>
        have := (fill_is ps _ _ e (rows_at hps).2.2.1 (zero_fits _) hf).2.2.2.1
        simp at this
        omega
end Cl
end Go.Proofs.YtjloonijnbfhhaaDoor
