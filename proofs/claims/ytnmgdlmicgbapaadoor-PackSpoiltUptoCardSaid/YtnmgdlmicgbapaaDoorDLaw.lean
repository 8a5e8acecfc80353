/- The plain law of reading a list's bytes: what both sides read off, piece by piece. No program in sight. -/
import Derived.Test.YtnmgdlmicgbapaaDoorPEnc
namespace Go.Proofs.YtnmgdlmicgbapaaDoor.Pk

/-- The number that bytes make, the lowest first. -/
def val : B → Nat
  | [] => 0
  | c :: r => c.toNat + 256 * val r
theorem val_lt : ∀ b : B, val b < 256 ^ b.length
  | [] => by simp [val]
  | c :: r => by
    have h1 := val_lt r
    have h2 := c.toNat_lt
    rw [val, List.length_cons, Nat.pow_succ]
    omega
theorem val_append : ∀ a b : B, val (a ++ b) = val a + 256 ^ a.length * val b
  | [], b => by simp [val]
  | c :: r, b => by
    rw [List.cons_append, val, val, val_append r b, List.length_cons, Nat.pow_succ, Nat.mul_add, ← Nat.mul_assoc, Nat.mul_comm 256 (256 ^ r.length)]
    omega
theorem val_snoc (a : B) (c : UInt8) : val (a ++ [c]) = val a + 256 ^ a.length * c.toNat := by
  rw [val_append]; simp [val]
theorem low_cons (w n : Nat) : low (w + 1) n = UInt8.ofNat (n % 256) :: low w (n / 256) := by
  unfold low
  rw [List.range_succ_eq_map, List.map_cons, List.map_map]
  congr 1
  · simp
  · apply List.map_congr_left
    intro k _
    simp only [Function.comp]
    rw [Nat.div_div_eq_div_mul, Nat.pow_succ, Nat.mul_comm]
theorem val_low : ∀ (w n : Nat), n < 256 ^ w → val (low w n) = n
  | 0, n, h => by simp at h; subst h; rfl
  | w + 1, n, h => by
    rw [low_cons, val, val_low w (n / 256) (by rw [Nat.pow_succ] at h; omega), UInt8.toNat_ofNat']
    omega
/-- So many bytes off the front. -/
def takeB (n : Nat) (b : B) : Option (B × B) := if n ≤ b.length then some (b.take n, b.drop n) else none
def numB (w : Nat) (b : B) : Option (Nat × B) := if w ≤ b.length then some (val (b.take w), b.drop w) else none
def nums : Nat → B → Option (List Int × B)
  | 0, b => some ([], b)
  | n + 1, b => (numB 4 b).bind fun (v, r) => (nums n r).bind fun (l, r2) => some ((v : Int) :: l, r2)
def item (b : B) : Option (PItem × B) :=
  (numB 1 b).bind fun (k, b) => (numB 2 b).bind fun (n, b) => (takeB n b).bind fun (p, b) => (numB 4 b).bind fun (s, b) => (numB 4 b).bind fun (z, b) =>
    (numB 4 b).bind fun (m, b) => (nums m b).bind fun (ps, b) => (numB 4 b).bind fun (dl, b) => (takeB dl b).bind fun (d, b) => some (⟨p, k, z, d, ps, (s : Int) - 1⟩, b)
def items : Nat → B → Option (List PItem × B)
  | 0, b => some ([], b)
  | n + 1, b => (item b).bind fun (x, r) => (items n r).bind fun (l, r2) => some (x :: l, r2)
/-- What is read off, whatever the first eight bytes are. -/
def readB (b : B) : Option (List PItem) := (takeB 8 b).bind fun (_, b) => (numB 4 b).bind fun (n, b) => (items n b).bind fun (l, _) => some l
/-- The answer: the list, if its bytes are these. -/
def decode (lt : B → B → Bool) (b : B) : Option (List PItem) := (readB b).bind fun l => if right lt l = true ∧ enc l = b then some l else none
theorem takeB_append (a b : B) : takeB a.length (a ++ b) = some (a, b) := by
  unfold takeB
  rw [if_pos (by simp)]
  simp
theorem numB_low (w n : Nat) (b : B) (h : n < 256 ^ w) : numB w (low w n ++ b) = some (n, b) := by
  unfold numB
  have hl := low_len w n
  rw [if_pos (by rw [List.length_append, hl]; omega), List.take_left' hl, List.drop_left' hl, val_low w n h]
theorem nums_flat : ∀ (ps : List Int) (b : B), (∀ p ∈ ps, 0 ≤ p ∧ p < 16523) → nums ps.length ((ps.flatMap fun p => low 4 p.toNat) ++ b) = some (ps, b)
  | [], b, _ => rfl
  | p :: ps, b, h => by
    have hp := h p (by simp)
    rw [List.flatMap_cons, List.length_cons, List.append_assoc, nums, numB_low 4 p.toNat _ (by omega)]
    simp only [Option.bind_some]
    rw [nums_flat ps b (fun q hq => h q (by simp [hq]))]
    simp only [Option.bind_some]
    rw [show ((p.toNat : Nat) : Int) = p by omega]
/-- What is written is read. -/
theorem item_itemB (x : PItem) (b : B) (h : Fits x) : item (itemB x ++ b) = some (x, b) := by
  have h1 := h.kind; have h2 := h.path; have h3 := h.same; have h4 := h.size; have h5 := h.data; have h6 := h.count
  unfold item itemB
  simp only [List.append_assoc]
  rw [numB_low 1 _ _ (by omega)]; simp only [Option.bind_some]
  rw [numB_low 2 _ _ (by omega)]; simp only [Option.bind_some]
  rw [takeB_append]; simp only [Option.bind_some]
  rw [numB_low 4 _ _ (by omega)]; simp only [Option.bind_some]
  rw [numB_low 4 _ _ (by omega)]; simp only [Option.bind_some]
  rw [numB_low 4 _ _ (by omega)]; simp only [Option.bind_some]
  rw [nums_flat x.pieces _ h.pieces]; simp only [Option.bind_some]
  rw [numB_low 4 _ _ (by omega)]; simp only [Option.bind_some]
  rw [takeB_append]; simp only [Option.bind_some]
  congr 2
  cases x
  simp only [PItem.mk.injEq]
  simp only at h1 h3 h4
  exact ⟨trivial, by omega, by omega, trivial, trivial, by omega⟩
theorem items_flat : ∀ (l : List PItem) (b : B), (∀ x ∈ l, Fits x) → items l.length (l.flatMap itemB ++ b) = some (l, b)
  | [], b, _ => rfl
  | x :: l, b, h => by
    rw [List.flatMap_cons, List.length_cons, List.append_assoc, items, item_itemB x _ (h x (by simp))]
    simp only [Option.bind_some]
    rw [items_flat l b (fun y hy => h y (by simp [hy]))]
    rfl
/-- The bytes of a list are read as the list, whatever lies behind them. -/
theorem readB_enc (l : List PItem) (b : B) (h : ∀ x ∈ l, Fits x) (hl : l.length < 4294967296) : readB (enc l ++ b) = some l := by
  unfold readB enc body
  simp only [List.append_assoc]
  have e8 : magic.length = 8 := rfl
  have h1 := takeB_append magic (low 4 l.length ++ (l.flatMap itemB ++ (low 4 (crc (magic ++ (low 4 l.length ++ l.flatMap itemB))) ++ b)))
  rw [e8] at h1
  rw [h1]; simp only [Option.bind_some]
  rw [numB_low 4 _ _ (by omega)]; simp only [Option.bind_some]
  rw [items_flat l _ h]
  rfl
end Go.Proofs.YtnmgdlmicgbapaaDoor.Pk
