/- The plain law of a list's bytes, and that all of a right list's numbers fit. No program in sight. -/
import Derived.Test.YtnmgdlmicgbapaaDoorPLaw
import Derived.Test.YtnmgdlmicgbapaaDoorPSum
namespace Go.Proofs.YtnmgdlmicgbapaaDoor.Pk

/-- A number in so many bytes, the lowest first. -/
def low (w n : Nat) : B := (List.range w).map fun k => UInt8.ofNat (n / 256 ^ k % 256)
theorem low_len (w n : Nat) : (low w n).length = w := by simp [low]
theorem low_succ (w n : Nat) : low (w + 1) n = low w n ++ [UInt8.ofNat (n / 256 ^ w % 256)] := by simp [low, List.range_succ]
def magic : B := [66, 79, 76, 69, 80, 65, 75, 49]
/-- An item's bytes. -/
def itemB (x : PItem) : B := low 1 x.kind.toNat ++ low 2 x.path.length ++ x.path ++ low 4 (x.same + 1).toNat ++ low 4 x.size.toNat ++ low 4 x.pieces.length ++ (x.pieces.flatMap fun p => low 4 p.toNat) ++ low 4 x.data.length ++ x.data
def body (l : List PItem) : B := magic ++ low 4 l.length ++ l.flatMap itemB
def enc (l : List PItem) : B := body l ++ low 4 (crc (body l))
/-- Encode's answer. -/
def encode (lt : B → B → Bool) (l : List PItem) : Option B := if right lt l then some (enc l) else none
theorem flat4_len (ps : List Int) : (ps.flatMap fun p => low 4 p.toNat).length = 4 * ps.length := by
  induction ps with
  | nil => rfl
  | cons p ps ih => rw [List.flatMap_cons, List.length_append, ih, low_len, List.length_cons]; omega
theorem itemB_len (x : PItem) : (itemB x).length = 19 + x.path.length + 4 * x.pieces.length + x.data.length := by
  unfold itemB
  simp only [List.length_append, low_len, flat4_len]
  omega

/-- All of an item's numbers fit. -/
structure Fits (x : PItem) : Prop where
  kind : 1 ≤ x.kind ∧ x.kind ≤ 3
  path : x.path.length < 65536
  same : -1 ≤ x.same ∧ x.same < 4294967295
  size : 0 ≤ x.size ∧ x.size ≤ 8459264
  pieces : ∀ p ∈ x.pieces, 0 ≤ p ∧ p < 16523
  data : x.data.length ≤ 8500000
  count : x.pieces.length ≤ 16523

theorem path_len (p : B) : p.length + 1 = Lib.lens (cut p) + (cut p).length := by
  have h := join_cut p
  cases hc : cut p with
  | nil => exact absurd hc (cut_ne p)
  | cons x r =>
    rw [hc, Lib.join_cons] at h
    have := congrArg List.length h
    rw [List.length_append, Lib.joinTail_length] at this
    simp only [List.length_singleton, Nat.one_mul] at this
    simp only [Lib.lens, List.map_cons, List.sum_cons, List.length_cons]
    simp only [Lib.lens] at this
    omega
theorem lens_le (l : List B) (h : ∀ x ∈ l, x.length ≤ 27) : Lib.lens l ≤ 27 * l.length := by
  induction l with
  | nil => simp [Lib.lens]
  | cons x l ih =>
    have h1 := h x (by simp)
    have h2 := ih (fun y hy => h y (by simp [hy]))
    simp only [Lib.lens, List.map_cons, List.sum_cons, List.length_cons] at h2 ⊢
    omega
theorem follows_len {lt : B → B → Bool} {met : List PItem} {a p : B} (h : follows lt met a p = true) : p.length ≤ 1000 := by
  simp only [follows, Bool.and_eq_true, decide_eq_true_eq] at h
  obtain ⟨⟨⟨⟨h1, h2⟩, _⟩, h3⟩, _⟩ := h
  have e : names p = cut p := by unfold names; rw [if_neg h1]
  rw [e] at h2 h3
  have h4 := path_len p
  have h5 := lens_le (cut p) (fun x hx => by
    have := List.all_eq_true.1 h3 x hx
    simp only [goodName, decide_eq_true_eq] at this
    exact this.2.1)
  omega
theorem filePs_fits (size : Int) (hs : size ≤ 8459264) : ∀ (ps : List Int) (last : Int) (data : B), -1 ≤ last → filePs size last data ps = true → (∀ p ∈ ps, 0 ≤ p ∧ p < 16523) ∧ data.length ≤ 512 * ps.length ∧ (ps.length : Int) + last < 16523 + if ps = [] then last + 1 else 0
  | [], last, data, hl, h => by
    have : data = [] := by simpa [filePs] using h
    subst this
    refine ⟨fun p hp => (by cases hp), by simp, ?_⟩
    rw [if_pos rfl]
    simp only [List.length_nil]
    omega
  | p :: ps, last, data, hl, h => by
    rw [filePs] at h
    split at h
    · cases h
    · rename_i hp
      split at h
      · cases h
      · rename_i hd
        split at h
        · cases h
        · obtain ⟨h1, h2, h3⟩ := filePs_fits size hs ps p _ (by omega) h
          have hp1 : 0 ≤ p ∧ p < 16523 := by omega
          refine ⟨?_, ?_, ?_⟩
          · intro q hq
            rcases List.mem_cons.1 hq with rfl | hq
            · exact hp1
            · exact h1 q hq
          · rw [List.length_drop] at h2
            simp only [List.length_cons]
            omega
          · rw [if_neg (by simp)]
            simp only [List.length_cons]
            split at h3
            · rename_i hz; subst hz; simp only [List.length_nil]; omega
            · omega
theorem isEmpty_fits {x : PItem} (h : isEmpty x = true) : x.size = 0 ∧ x.data = [] ∧ x.pieces = [] := by
  simpa [isEmpty, and_assoc] using h
theorem stands_fits {lt : B → B → Bool} {met : List PItem} {x : PItem} (h : stands lt met x = true) (hm : met.length < 4294967295) : Fits x := by
  simp only [stands, Bool.and_eq_true, decide_eq_true_eq] at h
  obtain ⟨⟨h1, hk⟩, h2⟩ := h
  have hp : x.path.length < 65536 := by
    split at h1
    · rw [of_decide_eq_true h1]; decide
    · have := follows_len h1; omega
  have hempty : ∀ (hs : -1 ≤ x.same ∧ x.same < 4294967295), isEmpty x = true → Fits x := by
    intro hs he
    obtain ⟨e1, e2, e3⟩ := isEmpty_fits he
    exact ⟨hk, hp, hs, by omega, fun p hq => (by rw [e3] at hq; cases hq), by rw [e2]; simp, by rw [e3]; simp⟩
  split at h2
  · rename_i hs
    have hs' : -1 ≤ x.same ∧ x.same < 4294967295 := by omega
    unfold may at h2
    split at h2
    · simp only [file, Bool.and_eq_true, decide_eq_true_eq] at h2
      obtain ⟨f1, f2, f3⟩ := filePs_fits x.size h2.1.2 x.pieces (-1) x.data (by omega) h2.2
      have f4 : (x.pieces.length : Int) < 16525 := by split at f3 <;> omega
      have f5 : x.pieces.length ≤ 16523 := by
        split at f3
        · rename_i hz; rw [hz]; simp
        · omega
      exact ⟨hk, hp, hs', h2.1, f1, by omega, f5⟩
    · split at h2
      · exact hempty hs' h2
      · simp only [link, Bool.and_eq_true, decide_eq_true_eq, text] at h2
        obtain ⟨⟨⟨_, g1, _⟩, g2⟩, g3⟩ := h2
        have : x.pieces = [] := by simpa using g3
        exact ⟨hk, hp, hs', by omega, fun p hq => (by rw [this] at hq; cases hq), by omega, by rw [this]; simp⟩
  · simp only [sameOk, Bool.and_eq_true, decide_eq_true_eq] at h2
    obtain ⟨⟨⟨g1, _⟩, g2⟩, g3⟩ := h2
    refine hempty ⟨by omega, ?_⟩ g3
    split at g2
    · rename_i y hy
      have := (List.getElem?_eq_some_iff.1 hy).1
      omega
    · cases g2
theorem rightFrom_fits {lt : B → B → Bool} : ∀ (r met : List PItem), met.length + r.length < 4294967295 → rightFrom lt met r = true → ∀ x ∈ r, Fits x
  | [], _, _, _, x, hx => by cases hx
  | y :: r, met, hl, h, x, hx => by
    rw [rightFrom, Bool.and_eq_true] at h
    simp only [List.length_cons] at hl
    rcases List.mem_cons.1 hx with rfl | hx
    · exact stands_fits h.1 (by omega)
    · exact rightFrom_fits r (met ++ [y]) (by simp; omega) h.2 x hx
theorem right_fits {lt : B → B → Bool} {l : List PItem} (hl : l.length < 4294967295) (h : right lt l = true) : ∀ x ∈ l, Fits x := by
  simp only [right, Bool.and_eq_true] at h
  exact rightFrom_fits l [] (by simpa using hl) h.2
end Go.Proofs.YtnmgdlmicgbapaaDoor.Pk
