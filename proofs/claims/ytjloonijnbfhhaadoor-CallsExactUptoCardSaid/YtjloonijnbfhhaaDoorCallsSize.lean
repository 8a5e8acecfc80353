/- The plain law of sizes: what a line says is no longer than the line. No program in sight. -/
import Derived.Test.YtjloonijnbfhhaaDoorCallsCall
import Derived.Test.YtjloonijnbfhhaaDoorCallsTok
namespace Go.Proofs.YtjloonijnbfhhaaDoor
namespace Cl
theorem unquote_len {t x : B} (h : unquote t = some x) : x.length ≤ t.length := by
  unfold unquote at h
  split at h
  · cases h; exact Nat.le_refl _
  · split at h
    · cases h
    · split at h
      · split at h
        · rename_i y n hd
          split at h
          · cases h
            have := dq_len _ _ _ hd
            simp only [List.length_cons]; omega
          · cases h
        · cases h
      · cases h
def Small (m : Nat) (c : PCall) : Prop := c.path.length ≤ m ∧ c.other.length ≤ m ∧ c.data.length ≤ m
theorem put_small {d e : PCall} {t : B} {p m : Nat} (h : put d t p = some e) (hd : Small m d) (ht : t.length ≤ m) : Small m e := by
  obtain ⟨h1, h2, h3⟩ := hd
  match p, h with
  | 0, h | 1, h | 2, h =>
    simp only [put, Option.map_eq_some_iff] at h
    obtain ⟨x, hx, rfl⟩ := h
    have := unquote_len hx
    exact ⟨by first | exact h1 | (show x.length ≤ m; omega), by first | exact h2 | (show x.length ≤ m; omega), by first | exact h3 | (show x.length ≤ m; omega)⟩
  | 3, h | 4, h =>
    simp only [put, Option.map_eq_some_iff] at h
    obtain ⟨x, hx, rfl⟩ := h
    exact ⟨h1, h2, h3⟩
  | n + 5, h => simp [put] at h
theorem fill_small {m : Nat} : ∀ (ps : List Nat) (ts : List B) (d c : PCall), fill d ps ts = some c → Small m d → (∀ t ∈ ts, t.length ≤ m) → Small m c
  | [], [], d, c, h, hd, _ => by cases h; exact hd
  | [], _ :: _, d, c, h, _, _ => by simp [fill] at h
  | _ :: _, [], d, c, h, _, _ => by simp [fill] at h
  | p :: ps, t :: ts, d, c, h, hd, ht => by
    simp only [fill, Option.bind_eq_some_iff] at h
    obtain ⟨e, he, hc⟩ := h
    exact fill_small ps ts e c hc (put_small he hd (ht t (by simp))) (fun u hu => ht u (by simp [hu]))
theorem parse_small {line : B} {c : PCall} (h : parse line = some c) : Small line.length c := by
  unfold parse at h
  rw [Option.bind_eq_some_iff] at h
  obtain ⟨l, hl, hp⟩ := h
  cases l with
  | nil => cases hp
  | cons w ts =>
    simp only [parseToks] at hp
    cases hk : kindOf w with
    | none => rw [hk] at hp; cases hp
    | some k =>
      obtain ⟨ps, hps⟩ := kindOf_at hk
      rw [hk] at hp
      simp only [hps] at hp
      exact fill_small ps ts _ c hp ⟨Nat.zero_le _, Nat.zero_le _, Nat.zero_le _⟩ (fun t ht => toks_size line _ hl t (by simp [ht]))
end Cl
end Go.Proofs.YtjloonijnbfhhaaDoor
