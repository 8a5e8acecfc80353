/- The plain law of chapter 24: names of paths, their order, what a right list is, as the program asks it and as the document says it. No program in sight. -/
import Derived.Lib.SplitLaws
import Derived.Lib.Join
import Derived.Laws.BitsAllLaws
import Derived.WalkKit
import Derived.Maps.AppendAt
import Derived.Laws.AppendOwnNone
import Derived.Lib.Hide
import Derived.BigQuiet
import Derived.Deep.QuietTactic
namespace Go.Proofs.YtegplehbcdeeoaaGreatDoor.Pk
abbrev B := List UInt8

/-- Cut at each slash. -/
def cut : B → List B
  | [] => [[]]
  | c :: r => if c = 47 then [] :: cut r else match cut r with
    | x :: xs => (c :: x) :: xs
    | [] => [[c]]
theorem cut_ne : ∀ l : B, cut l ≠ []
  | [] => by simp [cut]
  | c :: r => by
    unfold cut
    split
    · simp
    · split <;> simp
theorem cut_slash (r : B) : cut (47 :: r) = [] :: cut r := by rw [cut]; simp
theorem cut_other {c : UInt8} (h : c ≠ 47) (r : B) : ∃ x xs, cut r = x :: xs ∧ cut (c :: r) = (c :: x) :: xs := by
  cases hc : cut r with
  | nil => exact absurd hc (cut_ne r)
  | cons x xs => exact ⟨x, xs, rfl, by rw [cut, if_neg h, hc]⟩
theorem cut_none : ∀ b : B, (∀ c ∈ b, c ≠ 47) → cut b = [b]
  | [], _ => rfl
  | c :: r, h => by
    obtain ⟨x, xs, h1, h2⟩ := cut_other (h c (by simp)) r
    rw [cut_none r (fun d hd => h d (by simp [hd]))] at h1
    cases h1
    exact h2
theorem cut_append : ∀ a b : B, cut (a ++ 47 :: b) = cut a ++ cut b
  | [], b => by rw [List.nil_append, cut_slash]; rfl
  | c :: r, b => by
    by_cases h : c = 47
    · subst h; rw [List.cons_append, cut_slash, cut_slash, cut_append r b]; rfl
    · obtain ⟨x, xs, h1, h2⟩ := cut_other h r
      obtain ⟨y, ys, h3, h4⟩ := cut_other h (r ++ 47 :: b)
      rw [cut_append r b, h1] at h3
      cases h3
      rw [List.cons_append, h4, h2]; rfl
theorem join_cons2 (x : B) (r : List B) (h : r ≠ []) : Lib.join (x :: r) [47] = x ++ 47 :: Lib.join r [47] := by
  cases r with
  | nil => exact absurd rfl h
  | cons y r => rw [Lib.join_cons, Lib.join_cons]; simp [Lib.joinTail]
theorem join_cut : ∀ a : B, Lib.join (cut a) [47] = a
  | [] => Lib.join_one [] [47]
  | c :: r => by
    have ih := join_cut r
    by_cases h : c = 47
    · subst h; rw [cut_slash, join_cons2 _ _ (cut_ne r), ih]; rfl
    · obtain ⟨x, xs, h1, h2⟩ := cut_other h r
      rw [h1] at ih
      rw [h2]
      cases xs with
      | nil => rw [Lib.join_one] at ih ⊢; rw [ih]
      | cons y ys => rw [join_cons2 _ _ (by simp)] at ih ⊢; rw [List.cons_append, ih]
/-- The first piece, up to a slash. -/
theorem cut_first (p : B) (i : Nat) (h : p[i]? = some 47) (hn : ∀ j, j < i → p[j]? ≠ some 47) : cut p = p.take i :: cut (p.drop (i + 1)) := by
  have hi := (List.getElem?_eq_some_iff.1 h).1
  have e : p = p.take i ++ 47 :: p.drop (i + 1) := by
    have h2 : p[i] = 47 := (List.getElem?_eq_some_iff.1 h).2
    rw [← h2, ← List.drop_eq_getElem_cons hi, List.take_append_drop]
  have h3 : cut (p.take i) = [p.take i] := by
    refine cut_none _ fun c hc hc2 => ?_
    obtain ⟨j, hj, hjc⟩ := List.mem_iff_getElem.1 hc
    rw [List.length_take] at hj
    refine hn j (by omega) ?_
    rw [← hc2, ← hjc, List.getElem_take]
    exact List.getElem?_eq_getElem (by omega)
  have h4 := cut_append (p.take i) (p.drop (i + 1))
  rw [← e, h3] at h4
  exact h4
theorem cut_whole (p : B) (hn : ∀ j, j < p.length → p[j]? ≠ some 47) : cut p = [p] := by
  refine cut_none _ fun c hc hc2 => ?_
  obtain ⟨j, hj, hjc⟩ := List.mem_iff_getElem.1 hc
  exact hn j hj (by rw [← hc2, ← hjc]; exact List.getElem?_eq_getElem hj)
theorem cut_count : ∀ p : B, (cut p).length = p.count 47 + 1
  | [] => rfl
  | c :: r => by
    by_cases h : c = 47
    · subst h; rw [cut_slash, List.length_cons, cut_count r, List.count_cons_self]
    · obtain ⟨x, xs, h1, h2⟩ := cut_other h r
      have := cut_count r
      rw [h1] at this
      rw [h2, List.count_cons_of_ne (by simpa using h)]
      simpa using this
theorem cut_mem_len : ∀ (p : B), ∀ x ∈ cut p, x.length ≤ p.length
  | [], x, hx => by simp [cut] at hx; simp [hx]
  | c :: r, x, hx => by
    by_cases h : c = 47
    · subst h
      rw [cut_slash] at hx
      rcases List.mem_cons.1 hx with rfl | hx
      · simp
      · have := cut_mem_len r x hx; simp only [List.length_cons]; omega
    · obtain ⟨y, ys, h1, h2⟩ := cut_other h r
      rw [h2] at hx
      rcases List.mem_cons.1 hx with rfl | hx
      · have := cut_mem_len r y (by rw [h1]; simp); simp only [List.length_cons]; omega
      · have := cut_mem_len r x (by rw [h1]; simp [hx]); simp only [List.length_cons]; omega
/-- A piece has no slash. -/
theorem cut_mem : ∀ (p : B), ∀ x ∈ cut p, ∀ c ∈ x, c ≠ 47
  | [], x, hx => by simp [cut] at hx; simp [hx]
  | d :: r, x, hx => by
    by_cases h : d = 47
    · subst h
      rw [cut_slash] at hx
      rcases List.mem_cons.1 hx with rfl | hx
      · intro c hc; cases hc
      · exact cut_mem r x hx
    · obtain ⟨y, ys, h1, h2⟩ := cut_other h r
      rw [h2] at hx
      rcases List.mem_cons.1 hx with rfl | hx
      · intro c hc
        rcases List.mem_cons.1 hc with rfl | hc
        · exact h
        · exact cut_mem r y (by rw [h1]; simp) c hc
      · exact cut_mem r x (by rw [h1]; simp [hx])
/-- The library's cut at each slash. -/
theorem split_cut : ∀ (n : Nat) (s : B), s.length ≤ n → Lib.splitK [47] 0 (Lib.count s [47]) s = cut s := by
  intro n
  induction n with
  | zero =>
    intro s hs
    have : s = [] := List.length_eq_zero_iff.1 (by omega)
    subst this
    rfl
  | succ n ih =>
    intro s hs
    by_cases hm : Lib.index s [47] = -1
    · have hnone : ∀ c ∈ s, c ≠ 47 := by
        intro c hc hc2
        subst hc2
        have h1 := Lib.count_one 47 s
        rw [Lib.count_miss hm] at h1
        have := List.count_pos_iff.2 hc
        omega
      rw [Lib.count_miss hm, cut_none s hnone]; rfl
    · have hge := Lib.index_ge s [47]
      obtain ⟨i, hi⟩ : ∃ i : Nat, Lib.index s [47] = i := ⟨(Lib.index s [47]).toNat, by omega⟩
      have hc := Lib.count_hit (by simp) hi
      have key : ∀ (s : B) (i : Nat), Lib.index s [47] = i → s[i]? = some 47 ∧ ∀ j, j < i → s[j]? ≠ some 47 := by
        intro s
        induction s with
        | nil => intro i h; simp [Lib.index] at h
        | cons b l ih2 =>
          intro i h
          unfold Lib.index at h
          by_cases hb : b = 47
          · subst hb
            simp at h
            have : i = 0 := by omega
            subst this
            exact ⟨rfl, fun j hj => by omega⟩
          · have hp : ([47] : List UInt8).isPrefixOf (b :: l) = false := by simp [List.isPrefixOf, Ne.symm hb]
            rw [hp] at h
            simp only [Bool.false_eq_true, if_false] at h
            split at h
            · omega
            · rename_i hq
              have hge := Lib.index_ge l [47]
              have hq' : Lib.index l [47] ≠ -1 := fun e => hq (by rw [e]; rfl)
              obtain ⟨j, hj⟩ : ∃ j : Nat, Lib.index l [47] = j := ⟨(Lib.index l [47]).toNat, by omega⟩
              have hij : i = j + 1 := by omega
              subst hij
              obtain ⟨h1, h2⟩ := ih2 j hj
              refine ⟨by simpa using h1, fun k hk => ?_⟩
              cases k with
              | zero => simpa using hb
              | succ k => have := h2 k (by omega); simpa using this
      obtain ⟨k1, k2⟩ := key s i hi
      have hlt := (List.getElem?_eq_some_iff.1 k1).1
      rw [cut_first s i k1 k2, ← ih (s.drop (i + 1)) (by rw [List.length_drop]; omega)]
      rw [hc]
      simp only [List.length_singleton]
      rw [show 1 + Lib.count (List.drop (i + 1) s) [47] = Lib.count (List.drop (i + 1) s) [47] + 1 by omega, Lib.splitK, hi]
      have : ((i : Int) == -1) = false := by rw [beq_eq_false_iff_ne]; omega
      rw [this]
      simp
/-- A path's names; none of the empty one. -/
def names (p : B) : List B := if p = [] then [] else cut p
/-- The path above. -/
def above (p : B) : B := Lib.join (names p).dropLast [47]
theorem above_at (p : B) (i : Nat) (h : p[i]? = some 47) (hn : ∀ j, i < j → p[j]? ≠ some 47) : above p = p.take i := by
  have hi := (List.getElem?_eq_some_iff.1 h).1
  have h2 : p[i] = 47 := (List.getElem?_eq_some_iff.1 h).2
  have e : p = p.take i ++ 47 :: p.drop (i + 1) := by rw [← h2, ← List.drop_eq_getElem_cons hi, List.take_append_drop]
  have hp : p ≠ [] := by rintro rfl; simp at hi
  have h3 : cut (p.drop (i + 1)) = [p.drop (i + 1)] := by
    refine cut_whole _ fun j hj hj2 => hn (i + 1 + j) (by omega) ?_
    rwa [List.getElem?_drop] at hj2
  have h4 := cut_append (p.take i) (p.drop (i + 1))
  rw [← e, h3] at h4
  unfold above names
  rw [if_neg hp, h4, List.dropLast_concat, join_cut]
theorem above_none (p : B) (hn : ∀ j, j < p.length → p[j]? ≠ some 47) : above p = [] := by
  unfold above names
  split
  · rfl
  · rw [cut_whole p hn]; rfl

/-! ### the order of paths -/
/-- Rows of names: the first ahead of the second. -/
def less (lt : B → B → Bool) : List B → List B → Bool
  | [], [] => false
  | [], _ :: _ => true
  | _ :: _, [] => false
  | x :: a, y :: b => if x = y then less lt a b else lt x y

/-! ### what may be -/
structure PItem where
  path : B
  kind : Int
  size : Int
  data : B
  pieces : List Int
  same : Int
  deriving DecidableEq
def allZero (l : B) : Bool := l.all (· == 0)
/-- The pieces of a file, from one on. -/
def filePs (size : Int) : Int → B → List Int → Bool
  | _, data, [] => data.isEmpty
  | last, data, p :: ps => if p ≤ last ∨ size ≤ 512 * p then false else
      if data.length < (min 512 (size - 512 * p)).toNat then false else
      if allZero (data.take (min 512 (size - 512 * p)).toNat) then false else filePs size p (data.drop (min 512 (size - 512 * p)).toNat) ps
def file (x : PItem) : Bool := decide (0 ≤ x.size ∧ x.size ≤ 8459264) && filePs x.size (-1) x.data x.pieces
def isEmpty (x : PItem) : Bool := decide (x.size = 0) && x.data.isEmpty && x.pieces.isEmpty
/-- Is a piece a component? -/
def isC (p : B) : Bool := decide (p ≠ [] ∧ p ≠ [46])
def comps (l : B) : List B := (cut l).filter isC
def text (l : B) : Bool := decide (l ≠ [] ∧ l.length ≤ 1024 ∧ (∀ c ∈ l, c ≠ 0) ∧ (∀ p ∈ cut l, p.length ≤ 27) ∧ (comps l).length ≤ 32)
def link (x : PItem) : Bool := text x.data && decide (x.size = x.data.length) && x.pieces.isEmpty
def goodName (s : B) : Bool := decide (1 ≤ s.length ∧ s.length ≤ 27 ∧ s ≠ [46] ∧ s ≠ [46, 46] ∧ ∀ c ∈ s, c ≠ 0 ∧ c ≠ 47)
/-- By its kind: may an item of its own be? -/
def may (x : PItem) : Bool := if x.kind = 1 then file x else if x.kind = 2 then isEmpty x else link x
/-- Does a path stand well behind another, with the directories that were met? -/
def follows (lt : B → B → Bool) (met : List PItem) (ahead p : B) : Bool :=
  decide (p ≠ [] ∧ (names p).length ≤ 32) && less lt (names ahead) (names p) && (names p).all goodName && met.any fun y => decide (y.path = above p ∧ y.kind = 2)
/-- The earlier item. -/
def sameOk (met : List PItem) (x : PItem) : Bool := decide (0 ≤ x.same ∧ x.kind ≠ 2) && (match met[x.same.toNat]? with | some y => decide (y.kind = x.kind ∧ y.same = -1) | none => false) && isEmpty x
/-- May an item stand behind those that were met? -/
def stands (lt : B → B → Bool) (met : List PItem) (x : PItem) : Bool :=
  (match met.getLast? with | none => decide (x.path = []) | some y => follows lt met y.path x.path) && decide (1 ≤ x.kind ∧ x.kind ≤ 3) && (if x.same = -1 then may x else sameOk met x)
/-- Is the rest right behind what was met? -/
def rightFrom (lt : B → B → Bool) : List PItem → List PItem → Bool
  | _, [] => true
  | met, x :: r => stands lt met x && rightFrom lt (met ++ [x]) r
def right (lt : B → B → Bool) (l : List PItem) : Bool := !l.isEmpty && rightFrom lt [] l
end Go.Proofs.YtegplehbcdeeoaaGreatDoor.Pk
/- The plain law of the sum: four places by a table are four places one by one. No program in sight. -/
namespace Go.Proofs.YtegplehbcdeeoaaGreatDoor.Pk

/-- One place of the sum's word. -/
def sh (n : Nat) : Nat := if n % 2 = 1 then n / 2 ^^^ 3988292384 else n / 2
theorem sh_xor (a b : Nat) : sh (a ^^^ b) = sh a ^^^ sh b := by
  have h1 : (a ^^^ b) / 2 = a / 2 ^^^ b / 2 := Nat.xor_div_two
  have h2 : (a ^^^ b) % 2 = (a % 2) ^^^ (b % 2) := by simpa using Nat.xor_mod_two_pow (a := a) (b := b) (n := 1)
  unfold sh
  rw [h1, h2]
  rcases Nat.mod_two_eq_zero_or_one a with ha | ha <;> rcases Nat.mod_two_eq_zero_or_one b with hb | hb <;> rw [ha, hb]
  · rfl
  · show a / 2 ^^^ b / 2 ^^^ 3988292384 = _
    rw [Nat.xor_assoc]; rfl
  · show a / 2 ^^^ b / 2 ^^^ 3988292384 = (a / 2 ^^^ 3988292384) ^^^ b / 2
    rw [Nat.xor_assoc, Nat.xor_assoc, Nat.xor_comm (b / 2)]
  · show a / 2 ^^^ b / 2 = (a / 2 ^^^ 3988292384) ^^^ (b / 2 ^^^ 3988292384)
    rw [Nat.xor_assoc, Nat.xor_comm 3988292384, Nat.xor_assoc, Nat.xor_self, Nat.xor_zero]
theorem sh_lt {n : Nat} (h : n < 4294967296) : sh n < 4294967296 := by
  unfold sh
  split
  · exact Nat.xor_lt_two_pow (n := 32) (by omega) (by decide)
  · omega
theorem sh_even (q : Nat) : sh (2 * q) = q := by unfold sh; rw [if_neg (by omega)]; omega
def sh4 (n : Nat) : Nat := sh (sh (sh (sh n)))
theorem sh4_xor (a b : Nat) : sh4 (a ^^^ b) = sh4 a ^^^ sh4 b := by unfold sh4; rw [sh_xor, sh_xor, sh_xor, sh_xor]
theorem sh4_lt {n : Nat} (h : n < 4294967296) : sh4 n < 4294967296 := sh_lt (sh_lt (sh_lt (sh_lt h)))
/-- What four places do, by the lowest four bits. -/
def half : List Nat := [0x00000000, 0x1db71064, 0x3b6e20c8, 0x26d930ac, 0x76dc4190, 0x6b6b51f4, 0x4db26158, 0x5005713c, 0xedb88320, 0xf00f9344, 0xd6d6a3e8, 0xcb61b38c, 0x9b64c2b0, 0x86d3d2d4, 0xa00ae278, 0xbdbdf21c]
theorem half_at : ∀ r : Fin 16, sh4 r.val = half.getD r.val 0 := by decide
theorem split16 (q r : Nat) (h : r < 16) : 16 * q + r = (16 * q) ^^^ r := by
  apply Nat.eq_of_testBit_eq
  intro j
  have e1 := Nat.testBit_two_pow_mul_add (i := 4) q (b := r) (by simpa using h) j
  have e2 := Nat.testBit_two_pow_mul (i := 4) (a := q) (j := j)
  simp only [show (2 : Nat) ^ 4 = 16 from rfl] at e1 e2
  rw [Nat.testBit_xor, e1, e2]
  by_cases hj : j < 4
  · have : ¬ (4 ≤ j) := by omega
    simp [hj, this]
  · have h3 : r.testBit j = false := by
      refine Nat.testBit_lt_two_pow (Nat.lt_of_lt_of_le h ?_)
      have := Nat.pow_le_pow_right (n := 2) (by omega) (show 4 ≤ j by omega)
      simpa using this
    have : 4 ≤ j := by omega
    simp [hj, this, h3]
/-- Four places at once. -/
theorem sh4_half (v : Nat) : sh4 v = half.getD (v % 16) 0 ^^^ v / 16 := by
  have e : v = (16 * (v / 16)) ^^^ (v % 16) := by rw [← split16 _ _ (Nat.mod_lt _ (by omega))]; omega
  have h1 : sh4 (16 * (v / 16)) = v / 16 := by
    unfold sh4
    rw [show 16 * (v / 16) = 2 * (2 * (2 * (2 * (v / 16)))) by omega, sh_even, sh_even, sh_even, sh_even]
  have h2 := half_at ⟨v % 16, Nat.mod_lt _ (by omega)⟩
  simp only at h2
  calc sh4 v = sh4 ((16 * (v / 16)) ^^^ (v % 16)) := by rw [← e]
    _ = _ := by rw [sh4_xor, h1, h2, Nat.xor_comm]
/-- A byte, taken into a word. -/
def stepB (v : Nat) (b : UInt8) : Nat := sh4 (sh4 (v ^^^ b.toNat))
theorem stepB_lt {v : Nat} (b : UInt8) (h : v < 4294967296) : stepB v b < 4294967296 :=
  sh4_lt (sh4_lt (Nat.xor_lt_two_pow (n := 32) h (by have := b.toNat_lt; omega)))
def sumFrom (v : Nat) (l : List UInt8) : Nat := l.foldl stepB v
theorem sumFrom_lt {v : Nat} (l : List UInt8) (h : v < 4294967296) : sumFrom v l < 4294967296 := by
  induction l generalizing v with
  | nil => exact h
  | cons b l ih => exact ih (stepB_lt b h)
theorem sumFrom_snoc (v : Nat) (l : List UInt8) (b : UInt8) : sumFrom v (l ++ [b]) = stepB (sumFrom v l) b := by simp [sumFrom]
/-- CRC-32. -/
def crc (l : List UInt8) : Nat := 4294967295 ^^^ sumFrom 4294967295 l
theorem crc_lt (l : List UInt8) : crc l < 4294967296 := Nat.xor_lt_two_pow (n := 32) (by decide) (sumFrom_lt l (by decide))
end Go.Proofs.YtegplehbcdeeoaaGreatDoor.Pk
/- The plain law of a list's bytes, and that all of a right list's numbers fit. No program in sight. -/
namespace Go.Proofs.YtegplehbcdeeoaaGreatDoor.Pk

/-- A number in so many bytes, the lowest first. -/
def low (w n : Nat) : B := (List.range w).map fun k => UInt8.ofNat (n / 256 ^ k % 256)
theorem low_len (w n : Nat) : (low w n).length = w := by simp [low]
theorem low_succ (w n : Nat) : low (w + 1) n = low w n ++ [UInt8.ofNat (n / 256 ^ w % 256)] := by simp [low, List.range_succ]
def magic : B := [66, 79, 76, 69, 80, 65, 75, 49]
/-- An item's bytes. -/
def itemB (x : PItem) : B := low 1 x.kind.toNat ++ low 2 x.path.length ++ x.path ++ low 4 (x.same + 1).toNat ++ low 4 x.size.toNat ++ low 4 x.pieces.length ++ (x.pieces.flatMap fun p => low 4 p.toNat) ++ low 4 x.data.length ++ x.data
def body (l : List PItem) : B := magic ++ low 4 l.length ++ l.flatMap itemB
def enc (l : List PItem) : B := body l ++ low 4 (crc (body l))
/-- Encode's answer. -/
def encode (lt : B → B → Bool) (l : List PItem) : Option B := if right lt l then some (enc l) else none
theorem flat4_len (ps : List Int) : (ps.flatMap fun p => low 4 p.toNat).length = 4 * ps.length := by
  induction ps with
  | nil => rfl
  | cons p ps ih => rw [List.flatMap_cons, List.length_append, ih, low_len, List.length_cons]; omega
theorem itemB_len (x : PItem) : (itemB x).length = 19 + x.path.length + 4 * x.pieces.length + x.data.length := by
  unfold itemB
  simp only [List.length_append, low_len, flat4_len]
  omega

/-- All of an item's numbers fit. -/
structure Fits (x : PItem) : Prop where
  kind : 1 ≤ x.kind ∧ x.kind ≤ 3
  path : x.path.length < 65536
  same : -1 ≤ x.same ∧ x.same < 4294967295
  size : 0 ≤ x.size ∧ x.size ≤ 8459264
  pieces : ∀ p ∈ x.pieces, 0 ≤ p ∧ p < 16523
  data : x.data.length ≤ 8500000
  count : x.pieces.length ≤ 16523

theorem path_len (p : B) : p.length + 1 = Lib.lens (cut p) + (cut p).length := by
  have h := join_cut p
  cases hc : cut p with
  | nil => exact absurd hc (cut_ne p)
  | cons x r =>
    rw [hc, Lib.join_cons] at h
    have := congrArg List.length h
    rw [List.length_append, Lib.joinTail_length] at this
    simp only [List.length_singleton, Nat.one_mul] at this
    simp only [Lib.lens, List.map_cons, List.sum_cons, List.length_cons]
    simp only [Lib.lens] at this
    omega
theorem lens_le (l : List B) (h : ∀ x ∈ l, x.length ≤ 27) : Lib.lens l ≤ 27 * l.length := by
  induction l with
  | nil => simp [Lib.lens]
  | cons x l ih =>
    have h1 := h x (by simp)
    have h2 := ih (fun y hy => h y (by simp [hy]))
    simp only [Lib.lens, List.map_cons, List.sum_cons, List.length_cons] at h2 ⊢
    omega
theorem follows_len {lt : B → B → Bool} {met : List PItem} {a p : B} (h : follows lt met a p = true) : p.length ≤ 1000 := by
  simp only [follows, Bool.and_eq_true, decide_eq_true_eq] at h
  obtain ⟨⟨⟨⟨h1, h2⟩, _⟩, h3⟩, _⟩ := h
  have e : names p = cut p := by unfold names; rw [if_neg h1]
  rw [e] at h2 h3
  have h4 := path_len p
  have h5 := lens_le (cut p) (fun x hx => by
    have := List.all_eq_true.1 h3 x hx
    simp only [goodName, decide_eq_true_eq] at this
    exact this.2.1)
  omega
theorem filePs_fits (size : Int) (hs : size ≤ 8459264) : ∀ (ps : List Int) (last : Int) (data : B), -1 ≤ last → filePs size last data ps = true → (∀ p ∈ ps, 0 ≤ p ∧ p < 16523) ∧ data.length ≤ 512 * ps.length ∧ (ps.length : Int) + last < 16523 + if ps = [] then last + 1 else 0
  | [], last, data, hl, h => by
    have : data = [] := by simpa [filePs] using h
    subst this
    refine ⟨fun p hp => (by cases hp), by simp, ?_⟩
    rw [if_pos rfl]
    simp only [List.length_nil]
    omega
  | p :: ps, last, data, hl, h => by
    rw [filePs] at h
    split at h
    · cases h
    · rename_i hp
      split at h
      · cases h
      · rename_i hd
        split at h
        · cases h
        · obtain ⟨h1, h2, h3⟩ := filePs_fits size hs ps p _ (by omega) h
          have hp1 : 0 ≤ p ∧ p < 16523 := by omega
          refine ⟨?_, ?_, ?_⟩
          · intro q hq
            rcases List.mem_cons.1 hq with rfl | hq
            · exact hp1
            · exact h1 q hq
          · rw [List.length_drop] at h2
            simp only [List.length_cons]
            omega
          · rw [if_neg (by simp)]
            simp only [List.length_cons]
            split at h3
            · rename_i hz; subst hz; simp only [List.length_nil]; omega
            · omega
theorem isEmpty_fits {x : PItem} (h : isEmpty x = true) : x.size = 0 ∧ x.data = [] ∧ x.pieces = [] := by
  simpa [isEmpty, and_assoc] using h
theorem stands_fits {lt : B → B → Bool} {met : List PItem} {x : PItem} (h : stands lt met x = true) (hm : met.length < 4294967295) : Fits x := by
  simp only [stands, Bool.and_eq_true, decide_eq_true_eq] at h
  obtain ⟨⟨h1, hk⟩, h2⟩ := h
  have hp : x.path.length < 65536 := by
    split at h1
    · rw [of_decide_eq_true h1]; decide
    · have := follows_len h1; omega
  have hempty : ∀ (hs : -1 ≤ x.same ∧ x.same < 4294967295), isEmpty x = true → Fits x := by
    intro hs he
    obtain ⟨e1, e2, e3⟩ := isEmpty_fits he
    exact ⟨hk, hp, hs, by omega, fun p hq => (by rw [e3] at hq; cases hq), by rw [e2]; simp, by rw [e3]; simp⟩
  split at h2
  · rename_i hs
    have hs' : -1 ≤ x.same ∧ x.same < 4294967295 := by omega
    unfold may at h2
    split at h2
    · simp only [file, Bool.and_eq_true, decide_eq_true_eq] at h2
      obtain ⟨f1, f2, f3⟩ := filePs_fits x.size h2.1.2 x.pieces (-1) x.data (by omega) h2.2
      have f4 : (x.pieces.length : Int) < 16525 := by split at f3 <;> omega
      have f5 : x.pieces.length ≤ 16523 := by
        split at f3
        · rename_i hz; rw [hz]; simp
        · omega
      exact ⟨hk, hp, hs', h2.1, f1, by omega, f5⟩
    · split at h2
      · exact hempty hs' h2
      · simp only [link, Bool.and_eq_true, decide_eq_true_eq, text] at h2
        obtain ⟨⟨⟨_, g1, _⟩, g2⟩, g3⟩ := h2
        have : x.pieces = [] := by simpa using g3
        exact ⟨hk, hp, hs', by omega, fun p hq => (by rw [this] at hq; cases hq), by omega, by rw [this]; simp⟩
  · simp only [sameOk, Bool.and_eq_true, decide_eq_true_eq] at h2
    obtain ⟨⟨⟨g1, _⟩, g2⟩, g3⟩ := h2
    refine hempty ⟨by omega, ?_⟩ g3
    split at g2
    · rename_i y hy
      have := (List.getElem?_eq_some_iff.1 hy).1
      omega
    · cases g2
theorem rightFrom_fits {lt : B → B → Bool} : ∀ (r met : List PItem), met.length + r.length < 4294967295 → rightFrom lt met r = true → ∀ x ∈ r, Fits x
  | [], _, _, _, x, hx => by cases hx
  | y :: r, met, hl, h, x, hx => by
    rw [rightFrom, Bool.and_eq_true] at h
    simp only [List.length_cons] at hl
    rcases List.mem_cons.1 hx with rfl | hx
    · exact stands_fits h.1 (by omega)
    · exact rightFrom_fits r (met ++ [y]) (by simp; omega) h.2 x hx
theorem right_fits {lt : B → B → Bool} {l : List PItem} (hl : l.length < 4294967295) (h : right lt l = true) : ∀ x ∈ l, Fits x := by
  simp only [right, Bool.and_eq_true] at h
  exact rightFrom_fits l [] (by simpa using hl) h.2
end Go.Proofs.YtegplehbcdeeoaaGreatDoor.Pk
/- The plain law of reading a list's bytes: what both sides read off, piece by piece. No program in sight. -/
namespace Go.Proofs.YtegplehbcdeeoaaGreatDoor.Pk

/-- The number that bytes make, the lowest first. -/
def val : B → Nat
  | [] => 0
  | c :: r => c.toNat + 256 * val r
theorem val_lt : ∀ b : B, val b < 256 ^ b.length
  | [] => by simp [val]
  | c :: r => by
    have h1 := val_lt r
    have h2 := c.toNat_lt
    rw [val, List.length_cons, Nat.pow_succ]
    omega
theorem val_append : ∀ a b : B, val (a ++ b) = val a + 256 ^ a.length * val b
  | [], b => by simp [val]
  | c :: r, b => by
    rw [List.cons_append, val, val, val_append r b, List.length_cons, Nat.pow_succ, Nat.mul_add, ← Nat.mul_assoc, Nat.mul_comm 256 (256 ^ r.length)]
    omega
theorem val_snoc (a : B) (c : UInt8) : val (a ++ [c]) = val a + 256 ^ a.length * c.toNat := by
  rw [val_append]; simp [val]
theorem low_cons (w n : Nat) : low (w + 1) n = UInt8.ofNat (n % 256) :: low w (n / 256) := by
  unfold low
  rw [List.range_succ_eq_map, List.map_cons, List.map_map]
  congr 1
  · simp
  · apply List.map_congr_left
    intro k _
    simp only [Function.comp]
    rw [Nat.div_div_eq_div_mul, Nat.pow_succ, Nat.mul_comm]
theorem val_low : ∀ (w n : Nat), n < 256 ^ w → val (low w n) = n
  | 0, n, h => by simp at h; subst h; rfl
  | w + 1, n, h => by
    rw [low_cons, val, val_low w (n / 256) (by rw [Nat.pow_succ] at h; omega), UInt8.toNat_ofNat']
    omega
/-- So many bytes off the front. -/
def takeB (n : Nat) (b : B) : Option (B × B) := if n ≤ b.length then some (b.take n, b.drop n) else none
def numB (w : Nat) (b : B) : Option (Nat × B) := if w ≤ b.length then some (val (b.take w), b.drop w) else none
def nums : Nat → B → Option (List Int × B)
  | 0, b => some ([], b)
  | n + 1, b => (numB 4 b).bind fun (v, r) => (nums n r).bind fun (l, r2) => some ((v : Int) :: l, r2)
def item (b : B) : Option (PItem × B) :=
  (numB 1 b).bind fun (k, b) => (numB 2 b).bind fun (n, b) => (takeB n b).bind fun (p, b) => (numB 4 b).bind fun (s, b) => (numB 4 b).bind fun (z, b) =>
    (numB 4 b).bind fun (m, b) => (nums m b).bind fun (ps, b) => (numB 4 b).bind fun (dl, b) => (takeB dl b).bind fun (d, b) => some (⟨p, k, z, d, ps, (s : Int) - 1⟩, b)
def items : Nat → B → Option (List PItem × B)
  | 0, b => some ([], b)
  | n + 1, b => (item b).bind fun (x, r) => (items n r).bind fun (l, r2) => some (x :: l, r2)
/-- What is read off, whatever the first eight bytes are. -/
def readB (b : B) : Option (List PItem) := (takeB 8 b).bind fun (_, b) => (numB 4 b).bind fun (n, b) => (items n b).bind fun (l, _) => some l
/-- The answer: the list, if its bytes are these. -/
def decode (lt : B → B → Bool) (b : B) : Option (List PItem) := (readB b).bind fun l => if right lt l = true ∧ enc l = b then some l else none
theorem takeB_append (a b : B) : takeB a.length (a ++ b) = some (a, b) := by
  unfold takeB
  rw [if_pos (by simp)]
  simp
theorem numB_low (w n : Nat) (b : B) (h : n < 256 ^ w) : numB w (low w n ++ b) = some (n, b) := by
  unfold numB
  have hl := low_len w n
  rw [if_pos (by rw [List.length_append, hl]; omega), List.take_left' hl, List.drop_left' hl, val_low w n h]
theorem nums_flat : ∀ (ps : List Int) (b : B), (∀ p ∈ ps, 0 ≤ p ∧ p < 16523) → nums ps.length ((ps.flatMap fun p => low 4 p.toNat) ++ b) = some (ps, b)
  | [], b, _ => rfl
  | p :: ps, b, h => by
    have hp := h p (by simp)
    rw [List.flatMap_cons, List.length_cons, List.append_assoc, nums, numB_low 4 p.toNat _ (by omega)]
    simp only [Option.bind_some]
    rw [nums_flat ps b (fun q hq => h q (by simp [hq]))]
    simp only [Option.bind_some]
    rw [show ((p.toNat : Nat) : Int) = p by omega]
/-- What is written is read. -/
theorem item_itemB (x : PItem) (b : B) (h : Fits x) : item (itemB x ++ b) = some (x, b) := by
  have h1 := h.kind; have h2 := h.path; have h3 := h.same; have h4 := h.size; have h5 := h.data; have h6 := h.count
  unfold item itemB
  simp only [List.append_assoc]
  rw [numB_low 1 _ _ (by omega)]; simp only [Option.bind_some]
  rw [numB_low 2 _ _ (by omega)]; simp only [Option.bind_some]
  rw [takeB_append]; simp only [Option.bind_some]
  rw [numB_low 4 _ _ (by omega)]; simp only [Option.bind_some]
  rw [numB_low 4 _ _ (by omega)]; simp only [Option.bind_some]
  rw [numB_low 4 _ _ (by omega)]; simp only [Option.bind_some]
  rw [nums_flat x.pieces _ h.pieces]; simp only [Option.bind_some]
  rw [numB_low 4 _ _ (by omega)]; simp only [Option.bind_some]
  rw [takeB_append]; simp only [Option.bind_some]
  congr 2
  cases x
  simp only [PItem.mk.injEq]
  simp only at h1 h3 h4
  exact ⟨trivial, by omega, by omega, trivial, trivial, by omega⟩
theorem items_flat : ∀ (l : List PItem) (b : B), (∀ x ∈ l, Fits x) → items l.length (l.flatMap itemB ++ b) = some (l, b)
  | [], b, _ => rfl
  | x :: l, b, h => by
    rw [List.flatMap_cons, List.length_cons, List.append_assoc, items, item_itemB x _ (h x (by simp))]
    simp only [Option.bind_some]
    rw [items_flat l b (fun y hy => h y (by simp [hy]))]
    rfl
/-- The bytes of a list are read as the list, whatever lies behind them. -/
theorem readB_enc (l : List PItem) (b : B) (h : ∀ x ∈ l, Fits x) (hl : l.length < 4294967296) : readB (enc l ++ b) = some l := by
  unfold readB enc body
  simp only [List.append_assoc]
  have e8 : magic.length = 8 := rfl
  have h1 := takeB_append magic (low 4 l.length ++ (l.flatMap itemB ++ (low 4 (crc (magic ++ (low 4 l.length ++ l.flatMap itemB))) ++ b)))
  rw [e8] at h1
  rw [h1]; simp only [Option.bind_some]
  rw [numB_low 4 _ _ (by omega)]; simp only [Option.bind_some]
  rw [items_flat l _ h]
  rfl
end Go.Proofs.YtegplehbcdeeoaaGreatDoor.Pk
/- General laws for walks: an append whose source may be nil or empty; cells behind a callee that leaves the old blocks alone. -/
namespace Go.Proofs.YtegplehbcdeeoaaGreatDoor
open Go.RowKit

/-- 'append(out, xs...)', out the call's own, xs a slice wherever it lies, nil too. -/
theorem wpList_append_any {P : Program} (w : World) {ops : Array Oper} {rest : List Oper} {o : Oper} {a : Act} {Q : Exit → Act → World → Prop} (hgd : o.guard = none) (s x : Operand) (t : TypeId)
    (ho : o.op = .call { callee := .builtin .append, args := #[s, x], argTypes := #[t, t] })
    (base : Nat) (e : TypeId) (i : TypeInfo) (z : Value) (size bytes : Nat) (ht : P.underlying t = some (.slice e)) (hi : P.info? e = some i) (hz : i.zero = some z)
    (hsize : i.size = size) (hby : i.bytes = bytes) (hzs : z.cells.size = size) (hsz : 0 < size)
    (v : Value) (n : Nat) (xs : List Value) (hs : a.eval s = v) (hown : w.ownsRow base e size v n xs)
    (ao : Option Addr) (m c : Nat) (news : List Value) (hx : a.eval x = .slice ao m c) (hnil : ao = none → m = 0 ∧ c = 0) (hl : news.length = m * size)
    (hnews : ∀ ad, ao = some ad → ∀ j u, news[j]? = some u → w.cell? (ad.add j) = some u) (h1 : ∀ u ∈ news, u.oneCell' = true)
    (h63 : n + m ≤ maxLen) (hbytes : (n + m) * bytes ≤ 140737488355328) (hbase : base ≤ w.heap.size)
    (h : ∀ v' w', w'.ownsRow base e size v' (n + m) (xs ++ news) → w.grownBy w' v.ownBlock → (v'.ownBlock = v.ownBlock ∨ v'.ownBlock = some w.heap.size) → wpList P ops Q rest (a.put o.dst v') w') :
    wpList P ops Q (o :: rest) a w := by
  cases ao with
  | none =>
    obtain ⟨rfl, rfl⟩ := hnil rfl
    have hn : news = [] := List.eq_nil_of_length_eq_zero (by simpa using hl)
    subst hn
    refine wpList_append_own_none hgd s x t ho base e i size ht hi v n xs hs hown hx ?_
    have := h v w (by simpa using hown) (World.grownBy.refl _ _) (.inl rfl)
    exact this
  | some ad =>
    exact wpList_append_own_at w hgd s x t ho base e i z size bytes ht hi hz hsize hby hzs hsz v n xs hs hown ad m c news hx hl (hnews ad rfl) h1 h63 hbytes hbase (fun v' w' a1 a2 _ a4 => h v' w' a1 a2 a4)

/-- What lay before a call reads as it did behind it. -/
theorem bcell {W w1 : World} (hb : Below W.heap.size W w1) : (∀ b o, b < W.heap.size → w1.cell? ⟨b, o, none⟩ = W.cell? ⟨b, o, none⟩) ∧ (∀ b o, b < W.heap.size → w1.frozen? ⟨b, o, none⟩ = W.frozen? ⟨b, o, none⟩) :=
  ⟨fun b o h => hb.cell (p := ⟨b, o, none⟩) h, fun b o h => hb.frozen (p := ⟨b, o, none⟩) h⟩
theorem below_drewN {B : Nat} {a w : World} (h : Below B a w) (n : Nat) : Below B a (w.drewN n) := ⟨h.os, h.tape, h.output, h.size, h.block⟩
/-- A row of the call's own, of at least one cell: where it lies. -/
theorem own_at {w : World} {base : Nat} {e : TypeId} {size : Nat} {v : Value} {n : Nat} {xs : List Value} (h : w.ownsRow base e size v n xs) (hn : 0 < n) :
    ∃ g cap, v = .slice (some ⟨g, 0, none⟩) n cap ∧ base ≤ g ∧ g < w.heap.size ∧ n ≤ cap ∧ cap ≤ 9223372036854775807 ∧ (∀ j, j < n * size → w.cell? ⟨g, j, none⟩ = xs[j]?) ∧ (∀ j, w.frozen? ⟨g, j, none⟩ = false) := by
  have h' := h
  rcases h.2 with ⟨_, hz⟩ | ⟨g, cap, cur, rfl, hb, hh, hc, hm, hs, ht⟩
  · omega
  · exact ⟨g, cap, rfl, hb, (h.lt g rfl).2, hc, hm, fun j hj => h'.cellAt j hj, fun j => h'.frozenAt j⟩
end Go.Proofs.YtegplehbcdeeoaaGreatDoor
