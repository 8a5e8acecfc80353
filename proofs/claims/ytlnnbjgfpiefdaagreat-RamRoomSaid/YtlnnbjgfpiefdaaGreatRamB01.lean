/- Maps as rising lists of their entries: what a look-up, a store and a deletion do to them; how the model's reading of a map is such a list. -/
import Derived.Maps.Ext
import Derived.Maps.OwnSet
import Derived.ChangeMaps
import Derived.Lib.SplitLaws
import Derived.Lib.Join
namespace Go.Proofs.YtlnnbjgfpiefdaaGreat
open Go.Maps Go.ChangeMaps Go.WideShapes

namespace Fs
/-- A key's kind: how it reads. -/
class Key (κ : Type) [DecidableEq κ] where
  lit : κ → Lit
  same : ∀ a b, (lit a).sameKey (lit b) = decide (a = b)
  isKey : ∀ a, WideAt.IsKeyLit (lit a)
  total : ∀ a b, a ≠ b → (lit a).before (lit b) = true ∨ (lit b).before (lit a) = true
  irrefl : ∀ a, (lit a).before (lit a) = false
  trans : ∀ a b c, (lit a).before (lit b) = true → (lit b).before (lit c) = true → (lit a).before (lit c) = true
open Key

/-- A text: its bytes. -/
abbrev Tx := List UInt8

instance : Key Int where
  lit n := .int .i64 n
  same a b := by simp [Lit.sameKey]
  isKey _ := trivial
  total a b h := by simp only [Lit.before, decide_eq_true_eq]; omega
  irrefl a := by simp [Lit.before]
  trans a b c h1 h2 := by simp only [Lit.before, decide_eq_true_eq] at *; omega

instance : Key Tx where
  lit n := .string n
  same a b := by simp only [Lit.sameKey]; exact Bool.eq_iff_iff.2 (by simp)
  isKey _ := trivial
  total a b h := before_total ⟨a, rfl⟩ ⟨b, rfl⟩ (fun e => h (by cases e; rfl))
  irrefl a := before_irrefl _
  trans a b c h1 h2 := before_trans h1 h2

section
variable {κ ν : Type} [DecidableEq κ]
/-- A map: its entries, rising. -/
abbrev Al (κ ν : Type) := List (κ × ν)
def del (l : Al κ ν) (k : κ) : Al κ ν := l.filter fun p => !decide (p.1 = k)
def get (l : Al κ ν) (k : κ) : Option ν := (l.find? fun p => decide (p.1 = k)).map (·.2)
theorem mem_del {l : Al κ ν} {k : κ} {p : κ × ν} : p ∈ del l k ↔ p ∈ l ∧ p.1 ≠ k := by
  rw [del, List.mem_filter]; simp

theorem get_eq {l : Al κ ν} (h : l.Pairwise fun p q => p.1 ≠ q.1) {k : κ} {v : ν} : get l k = some v ↔ (k, v) ∈ l := by
  induction l with
  | nil => simp [get]
  | cons y r ih =>
    obtain ⟨h1, h2⟩ := List.pairwise_cons.1 h
    unfold get
    rw [List.find?_cons]
    by_cases hy : y.1 = k
    · simp only [hy, decide_true, Option.map_some, Option.some.injEq, List.mem_cons]
      constructor
      · intro e; left; rw [← hy, ← e]
      · rintro (e | e)
        · rw [← e]
        · exact absurd hy (h1 _ e)
    · simp only [hy, decide_false]
      rw [show (List.find? (fun p => decide (p.1 = k)) r).map (·.2) = get r k from rfl, ih h2, List.mem_cons]
      constructor
      · exact .inr
      · rintro (e | e)
        · exact absurd (by rw [← e]) hy
        · exact e
theorem get_none {l : Al κ ν} {k : κ} : get l k = none ↔ ∀ p ∈ l, p.1 ≠ k := by
  unfold Fs.get
  rw [Option.map_eq_none_iff, List.find?_eq_none]
  constructor
  · intro h p hp; simpa using h p hp
  · intro h p hp; simpa using h p hp
theorem get_nil (k : κ) : get ([] : Al κ ν) k = none := rfl

end

section
variable {κ ν : Type} [DecidableEq κ] [Key κ]

def lt (a b : κ) : Bool := (lit a).before (lit b)
def ins (x : κ × ν) : Al κ ν → Al κ ν
  | [] => [x]
  | y :: r => if lt x.1 y.1 then x :: y :: r else y :: ins x r
def put (l : Al κ ν) (k : κ) (v : ν) : Al κ ν := ins (k, v) (del l k)
def Rising (l : Al κ ν) : Prop := l.Pairwise fun p q => lt p.1 q.1 = true

/-- As the model reads it. -/
def toD (ev : ν → Value) (l : Al κ ν) : DataW Value := .map (l.map fun p => (lit p.1, .held (ev p.2)))

theorem ins_perm (x : κ × ν) : ∀ l : Al κ ν, (ins x l).Perm (x :: l)
  | [] => .refl _
  | y :: r => by
    unfold ins; split
    · exact .refl _
    · exact ((ins_perm x r).cons y).trans (.swap x y r)
theorem put_perm (l : Al κ ν) (k : κ) (v : ν) : (put l k v).Perm ((k, v) :: del l k) := ins_perm _ _
theorem mem_put {l : Al κ ν} {k : κ} {v : ν} {p : κ × ν} : p ∈ put l k v ↔ p = (k, v) ∨ (p ∈ l ∧ p.1 ≠ k) := by
  rw [(put_perm l k v).mem_iff, List.mem_cons, del, List.mem_filter]
  simp
theorem Rising.ins {x : κ × ν} : ∀ {l : Al κ ν}, Rising l → (∀ p ∈ l, p.1 ≠ x.1) → Rising (ins x l)
  | [], _, _ => List.pairwise_singleton _ _
  | y :: r, h, hne => by
    obtain ⟨h1, h2⟩ := List.pairwise_cons.1 h
    unfold Fs.ins; split
    · rename_i hxy
      refine List.pairwise_cons.2 ⟨fun q hq => ?_, h⟩
      rcases List.mem_cons.1 hq with e | hq
      · rw [e]; exact hxy
      · exact trans _ _ _ hxy (h1 q hq)
    · rename_i hxy
      refine List.pairwise_cons.2 ⟨fun q hq => ?_, Rising.ins h2 fun p hp => hne p (List.mem_cons_of_mem _ hp)⟩
      rcases List.mem_cons.1 ((ins_perm x r).mem_iff.1 hq) with e | hq
      · rw [e]
        rcases total y.1 x.1 (hne y (by simp)) with e | e
        · exact e
        · exact absurd e hxy
      · exact h1 q hq
theorem Rising.del {l : Al κ ν} (h : Rising l) (k : κ) : Rising (del l k) := List.Pairwise.filter _ h
theorem Rising.put {l : Al κ ν} (h : Rising l) (k : κ) (v : ν) : Rising (put l k v) := Rising.ins (h.del k) fun _ hp => (mem_del.1 hp).2
theorem Rising.nil : Rising ([] : Al κ ν) := List.Pairwise.nil

theorem Rising.apart {l : Al κ ν} (h : Rising l) : l.Pairwise fun p q => p.1 ≠ q.1 :=
  h.imp fun {a b} hab e => by unfold lt at hab; rw [e, Key.irrefl] at hab; cases hab
theorem Rising.get {l : Al κ ν} (h : Rising l) {k : κ} {v : ν} : get l k = some v ↔ (k, v) ∈ l := get_eq h.apart
/-- Two maps that answer alike are one. -/
theorem Rising.ext : ∀ {l m : Al κ ν}, Rising l → Rising m → (∀ k, Fs.get l k = Fs.get m k) → l = m
  | [], [], _, _, _ => rfl
  | [], b :: s, _, h2, h => by
    have := (h b.1).trans (h2.get.2 (List.mem_cons_self ..))
    simp [Fs.get] at this
  | a :: r, [], h1, _, h => by
    have := (h a.1).symm.trans (h1.get.2 (List.mem_cons_self ..))
    simp [Fs.get] at this
  | a :: r, b :: s, h1, h2, h => by
    have hm : ∀ p, p ∈ a :: r ↔ p ∈ b :: s := fun p => by
      rw [show p = (p.1, p.2) from rfl, ← h1.get, ← h2.get, h]
    obtain ⟨a1, a2⟩ := List.pairwise_cons.1 h1
    obtain ⟨b1, b2⟩ := List.pairwise_cons.1 h2
    have hab : a = b := by
      rcases List.mem_cons.1 ((hm a).1 (by simp)) with e | ha
      · exact e
      · rcases List.mem_cons.1 ((hm b).2 (by simp)) with e | hb
        · exact e.symm
        · have := trans _ _ _ (a1 b hb) (b1 a ha)
          rw [Key.irrefl] at this
          cases this
    subst hab
    rw [Rising.ext a2 b2 fun k => by
      have hk := h k
      unfold Fs.get at hk ⊢
      rw [List.find?_cons, List.find?_cons] at hk
      by_cases e : a.1 = k
      · have n1 : (r.find? fun p => decide (p.1 = k)) = none := List.find?_eq_none.2 fun p hp => by
          have := a1 p hp; intro c; rw [decide_eq_true_eq] at c; unfold lt at this; rw [c, ← e, Key.irrefl] at this; cases this
        have n2 : (s.find? fun p => decide (p.1 = k)) = none := List.find?_eq_none.2 fun p hp => by
          have := b1 p hp; intro c; rw [decide_eq_true_eq] at c; unfold lt at this; rw [c, ← e, Key.irrefl] at this; cases this
        rw [n1, n2]
      · simpa only [e, decide_false] using hk]

theorem get_put_same (l : Al κ ν) (h : Rising l) (k : κ) (v : ν) : get (put l k v) k = some v := (h.put k v).get.2 (mem_put.2 (.inl rfl))
theorem get_put_other (l : Al κ ν) (h : Rising l) {k k' : κ} (hne : k' ≠ k) (v : ν) : get (put l k v) k' = get l k' := by
  refine Option.ext fun u => ?_
  rw [Rising.get (h.put k v), h.get, mem_put]
  constructor
  · rintro (e | e)
    · exact absurd (Prod.mk.inj e).1 hne
    · exact e.1
  · exact fun e => .inr ⟨e, hne⟩
theorem get_put (l : Al κ ν) (h : Rising l) (k k' : κ) (v : ν) : get (put l k v) k' = if k' = k then some v else get l k' := by
  split
  · rename_i e; rw [e]; exact get_put_same l h k v
  · rename_i e; exact get_put_other l h e v
theorem get_del (l : Al κ ν) (h : Rising l) (k k' : κ) : get (del l k) k' = if k' = k then none else get l k' := by
  split
  · rename_i e; exact get_none.2 fun p hp => by rw [e]; exact (mem_del.1 hp).2
  · rename_i e
    refine Option.ext fun u => ?_
    rw [Rising.get (h.del k), h.get, mem_del]
    exact ⟨fun x => x.1, fun x => ⟨x, e⟩⟩

/-- What a store lays a deletion takes back. -/
theorem del_put {l : Al κ ν} (h : Rising l) {k : κ} {v : ν} (hn : get l k = none) : del (put l k v) k = l :=
  Rising.ext ((h.put k v).del k) h fun k' => by
    rw [get_del _ (h.put k v), get_put _ h]
    split
    · rename_i e; rw [e, hn]
    · rfl
/-- What a deletion takes a store lays back. -/
theorem put_del {l : Al κ ν} (h : Rising l) {k : κ} {v : ν} (hn : get l k = some v) : put (del l k) k v = l :=
  Rising.ext ((h.del k).put k v) h fun k' => by
    rw [get_put _ (h.del k), get_del _ h]
    split
    · rename_i e; rw [e, hn]
    · rfl
/-- A store over another one. -/
theorem put_put {l : Al κ ν} (h : Rising l) {k : κ} {u v : ν} (hn : get l k = some v) : put (put l k u) k v = l :=
  Rising.ext ((h.put k u).put k v) h fun k' => by
    rw [get_put _ (h.put k u), get_put _ h]
    split
    · rename_i e; rw [e, hn]
    · rfl

theorem length_put (l : Al κ ν) (h : Rising l) (k : κ) (v : ν) : (put l k v).length = if get l k = none then l.length + 1 else l.length := by
  rw [(put_perm l k v).length_eq, List.length_cons]
  split
  · rename_i hn
    rw [show del l k = l from List.filter_eq_self.2 fun p hp => by simpa using get_none.1 hn p hp]
  · rename_i hn
    obtain ⟨u, hu⟩ := Option.ne_none_iff_exists'.1 hn
    conv => rhs; rw [← put_del h hu]
    rw [(put_perm _ k u).length_eq, List.length_cons]
    congr 1
    rw [show del (del l k) k = del l k from by unfold del; rw [List.filter_filter]; simp]
theorem length_del (l : Al κ ν) (h : Rising l) {k : κ} {v : ν} (hn : get l k = some v) : (del l k).length + 1 = l.length := by
  have := length_put (del l k) (h.del k) k v
  rw [put_del h hn, get_del _ h, if_pos rfl, if_pos rfl] at this
  exact this.symm

/-! The model's reading. -/
theorem toD_ins (ev : ν → Value) (x : κ × ν) : ∀ l : Al κ ν, (ins x l).map (fun p => (lit p.1, DataW.held (ev p.2))) = DataW.insert (lit x.1, DataW.held (ev x.2)) (l.map fun p => (lit p.1, DataW.held (ev p.2)))
  | [] => rfl
  | y :: r => by
    unfold ins lt
    rw [List.map_cons]
    unfold DataW.insert
    dsimp only
    split
    · rfl
    · rw [List.map_cons, toD_ins ev x r]
theorem toD_filter (ev : ν → Value) (k : κ) (l : Al κ ν) : (l.map fun p => (lit p.1, DataW.held (ev p.2))).filter (fun p => !p.1.sameKey (lit k)) = (del l k).map fun p => (lit p.1, DataW.held (ev p.2)) := by
  rw [List.filter_map, del]
  congr 1
  refine List.filter_congr fun p _ => ?_
  simp [Key.same]
theorem toD_put (ev : ν → Value) (l : Al κ ν) (k : κ) (v : ν) : (toD ev l).put (lit k) (.held (ev v)) = toD ev (put l k v) := by
  unfold toD DataW.put put
  dsimp only
  rw [toD_filter, toD_ins]
theorem toD_del (ev : ν → Value) (l : Al κ ν) (k : κ) : (toD ev l).del (lit k) = toD ev (del l k) := by
  unfold toD DataW.del
  dsimp only
  rw [toD_filter]
theorem toD_find (ev : ν → Value) (k : κ) (l : Al κ ν) : (l.map fun p => (lit p.1, DataW.held (ev p.2))).find? (fun p => p.1.sameKey (lit k)) = (l.find? fun p => decide (p.1 = k)).map fun p => (lit p.1, DataW.held (ev p.2)) := by
  rw [List.find?_map]
  have : ((fun p : Lit × DataW Value => p.1.sameKey (lit k)) ∘ fun p : κ × ν => (lit p.1, DataW.held (ev p.2))) = fun p => decide (p.1 = k) := funext fun p => by simp [Key.same]
  rw [this]
theorem toD_atKey (ev : ν → Value) (l : Al κ ν) (k : κ) (z : Value) : (toD ev l).atKey (lit k) (.held z) = .held (((get l k).map ev).getD z) := by
  unfold toD DataW.atKey get
  dsimp only
  rw [toD_find]
  cases l.find? fun p => decide (p.1 = k) with
  | none => rfl
  | some p => rfl
theorem toD_has (ev : ν → Value) (l : Al κ ν) (k : κ) : Maps.has (toD ev l) (lit k) = (get l k).isSome := by
  unfold toD Maps.has get
  dsimp only
  rw [List.any_map, Option.isSome_map, Bool.eq_iff_iff, List.any_eq_true, List.find?_isSome]
  simp [Key.same]
theorem toD_size (ev : ν → Value) (l : Al κ ν) : Maps.size (toD ev l) = l.length := by
  unfold toD Maps.size; simp
theorem toD_nil (ev : ν → Value) : toD ev ([] : Al κ ν) = .map [] := rfl
end
end Fs
end Go.Proofs.YtlnnbjgfpiefdaaGreat
/- The plain law on how many blocks a file takes: how many different numbers a list has, and how many entries a map has into which they were put. -/
namespace Go.Proofs.YtlnnbjgfpiefdaaGreat
open Go.Maps Go.WideShapes

namespace Tk
/-- A number that a list has then. -/
def add (acc : List Int) (k : Int) : List Int := if k ∈ acc then acc else acc ++ [k]
/-- The different numbers of a list. -/
def dd (l : List Int) : List Int := l.foldl add []
/-- The tables below the second one. -/
def tab (l : List Int) : List Int := l.flatMap (fun k => if 138 ≤ k then [(k - 138) / 128] else [])
def far (l : List Int) : Bool := l.any fun k => decide (k < 0 ∨ 16521 < k)
def one (l : List Int) : Nat := if l.any (fun k => decide (10 ≤ k ∧ k < 138)) then 1 else 0
def two (l : List Int) : Nat := if l.any (fun k => decide (138 ≤ k)) then 1 else 0
/-- The keys that the program puts into its map of tables. -/
def keys (l : List Int) : List Int := l.flatMap (fun k => if 138 ≤ k then [-1, (k - 138) / 128] else if 10 ≤ k then [-2] else [])
/-- How many blocks. -/
def count (l : List Int) : Nat := (dd l).length + one l + two l + (dd (tab l)).length

theorem dd_snoc (l : List Int) (k : Int) : dd (l ++ [k]) = add (dd l) k := by simp [dd, List.foldl_append]
theorem mem_add (acc : List Int) (k x : Int) : x ∈ add acc k ↔ x ∈ acc ∨ x = k := by
  unfold add; split
  · constructor
    · exact .inl
    · rintro (h | rfl) <;> assumption
  · simp
theorem mem_fold (x : Int) : ∀ (l acc : List Int), x ∈ l.foldl add acc ↔ x ∈ acc ∨ x ∈ l
  | [], acc => by simp
  | k :: r, acc => by rw [List.foldl_cons, mem_fold x r, mem_add]; simp [or_assoc]
theorem mem_dd (x : Int) (l : List Int) : x ∈ dd l ↔ x ∈ l := by simp [dd, mem_fold]
theorem len_add (acc : List Int) (k : Int) : (add acc k).length = if k ∈ acc then acc.length else acc.length + 1 := by
  unfold add; split <;> simp
theorem dd_len_snoc (l : List Int) (k : Int) : (dd (l ++ [k])).length = if k ∈ l then (dd l).length else (dd l).length + 1 := by
  rw [dd_snoc, len_add]; simp only [mem_dd]
theorem dd_len_le (l : List Int) : (dd l).length ≤ l.length := by
  have h : ∀ (l acc : List Int), (l.foldl add acc).length ≤ acc.length + l.length := by
    intro l; induction l with
    | nil => simp
    | cons k r ih => intro acc; rw [List.foldl_cons]; have := ih (add acc k); rw [len_add] at this; simp only [List.length_cons]; split at this <;> omega
  simpa [dd] using h l []
theorem tab_snoc (l : List Int) (k : Int) : tab (l ++ [k]) = tab l ++ if 138 ≤ k then [(k - 138) / 128] else [] := by simp [tab, List.flatMap_append]
theorem keys_snoc (l : List Int) (k : Int) : keys (l ++ [k]) = keys l ++ if 138 ≤ k then [-1, (k - 138) / 128] else if 10 ≤ k then [-2] else [] := by simp [keys, List.flatMap_append]
theorem tab_len : ∀ l : List Int, (tab l).length ≤ l.length
  | [] => by simp [tab]
  | k :: r => by
    have ih := tab_len r
    have e : tab (k :: r) = (if 138 ≤ k then [(k - 138) / 128] else []) ++ tab r := rfl
    rw [e, List.length_append, List.length_cons]; split <;> simp <;> omega
theorem mem_keys_one (l : List Int) : (-1 : Int) ∈ keys l ↔ l.any (fun k => decide (138 ≤ k)) = true := by
  simp only [keys, List.mem_flatMap, List.any_eq_true, decide_eq_true_eq]
  constructor
  · rintro ⟨k, hk, h⟩; refine ⟨k, hk, ?_⟩; split at h
    · assumption
    · split at h <;> simp at h
  · rintro ⟨k, hk, h⟩; exact ⟨k, hk, by simp [h]⟩
theorem mem_keys_two (l : List Int) : (-2 : Int) ∈ keys l ↔ l.any (fun k => decide (10 ≤ k ∧ k < 138)) = true := by
  simp only [keys, List.mem_flatMap, List.any_eq_true, decide_eq_true_eq]
  constructor
  · rintro ⟨k, hk, h⟩; refine ⟨k, hk, ?_⟩; split at h
    · simp at h; omega
    · split at h
      · omega
      · simp at h
  · rintro ⟨k, hk, h⟩; exact ⟨k, hk, by rw [if_neg (by omega), if_pos (by omega)]; simp⟩
theorem mem_keys_tab (l : List Int) (q : Int) (hq : 0 ≤ q) : q ∈ keys l ↔ q ∈ tab l := by
  simp only [keys, tab, List.mem_flatMap]
  constructor
  · rintro ⟨k, hk, h⟩; refine ⟨k, hk, ?_⟩; split at h
    · simp at h; rcases h with h | h
      · omega
      · rename_i h1; simp [h1, h]
    · split at h <;> simp at h; omega
  · rintro ⟨k, hk, h⟩; refine ⟨k, hk, ?_⟩; split at h
    · rename_i h1; simp at h; simp [h1, h]
    · simp at h
theorem one_snoc (l : List Int) (k : Int) : one (l ++ [k]) = if 10 ≤ k ∧ k < 138 then 1 else one l := by
  simp only [one, List.any_append, List.any_cons, List.any_nil, Bool.or_false]
  by_cases h : 10 ≤ k ∧ k < 138 <;> simp [h]
theorem two_snoc (l : List Int) (k : Int) : two (l ++ [k]) = if 138 ≤ k then 1 else two l := by
  simp only [two, List.any_append, List.any_cons, List.any_nil, Bool.or_false]
  by_cases h : 138 ≤ k <;> simp [h]
theorem keys_len_aux (l : List Int) (k : Int) (h : (dd (keys l)).length = one l + two l + (dd (tab l)).length) :
    (dd (keys (l ++ [k]))).length = one (l ++ [k]) + two (l ++ [k]) + (dd (tab (l ++ [k]))).length := by
  rw [keys_snoc, tab_snoc, one_snoc, two_snoc]
  by_cases h1 : 138 ≤ k
  · have hq : 0 ≤ (k - 138) / 128 := by omega
    rw [if_pos h1, if_pos h1, if_pos h1, if_neg (by omega), show keys l ++ [-1, (k - 138) / 128] = (keys l ++ [-1]) ++ [(k - 138) / 128] by simp,
      dd_len_snoc, dd_len_snoc, dd_len_snoc]
    have e2 : ((k - 138) / 128 ∈ keys l ++ [-1]) ↔ (k - 138) / 128 ∈ tab l := by
      rw [List.mem_append, mem_keys_tab l _ hq]; simp; omega
    simp only [e2, mem_keys_one]
    have e3 : two l = if l.any (fun k => decide (138 ≤ k)) = true then 1 else 0 := rfl
    generalize (l.any fun k => decide (138 ≤ k)) = c at *
    cases c <;> simp at * <;> split <;> omega
  · rw [if_neg h1, if_neg h1, if_neg h1]
    by_cases h2 : 10 ≤ k
    · rw [if_pos h2, if_pos ⟨h2, by omega⟩, dd_len_snoc]
      simp only [mem_keys_two, List.append_nil]
      have e3 : one l = if l.any (fun k => decide (10 ≤ k ∧ k < 138)) = true then 1 else 0 := rfl
      generalize (l.any fun k => decide (10 ≤ k ∧ k < 138)) = c at *
      cases c <;> simp at * <;> omega
    · rw [if_neg h2, if_neg (by omega)]; simpa using h
theorem keys_len_go : ∀ (r l : List Int), (dd (keys l)).length = one l + two l + (dd (tab l)).length → (dd (keys (l ++ r))).length = one (l ++ r) + two (l ++ r) + (dd (tab (l ++ r))).length
  | [], l, h => by simpa using h
  | k :: r, l, h => by
    have := keys_len_go r (l ++ [k]) (keys_len_aux l k h)
    simpa using this
theorem keys_len (l : List Int) : (dd (keys l)).length = one l + two l + (dd (tab l)).length := by
  have := keys_len_go l [] rfl
  simpa using this
/-- The two ways to count. -/
theorem count_eq (l : List Int) : count l = (dd l).length + (dd (keys l)).length := by rw [keys_len, count]; omega

/-- The map has just these keys. -/
structure Holds {H : Type} (D : DataW H) (S : List Int) : Prop where
  tidy : Tidy D
  has : ∀ k : Int, Maps.has D (.int .i64 k) = decide (k ∈ S)
  size : Maps.size D = (dd S).length

theorem Holds.empty {H : Type} : Holds (.map [] : DataW H) [] := ⟨tidy_empty, fun _ => rfl, rfl⟩
theorem Holds.put {H : Type} {D : DataW H} {S : List Int} (h : Holds D S) (k : Int) (hk : WideAt.IsKeyLit (.int .i64 k)) (d : DataW H) : Holds (D.put (.int .i64 k) d) (S ++ [k]) where
  tidy := h.tidy.put hk d
  has := fun x => by
    by_cases e : x = k
    · subst e; rw [has_put_same h.tidy.isMap hk]; simp
    · rw [has_put_other (by simpa using e), h.has]; simp [e]
  size := by
    rw [size_put h.tidy, h.has, h.size, dd_len_snoc]; simp
end Tk
end Go.Proofs.YtlnnbjgfpiefdaaGreat
/- The plain law of chapter 24: names of paths, their order, what a right list is, as the program asks it and as the document says it. No program in sight. -/
namespace Go.Proofs.YtlnnbjgfpiefdaaGreat.Pk
abbrev B := List UInt8

/-- Cut at each slash. -/
def cut : B → List B
  | [] => [[]]
  | c :: r => if c = 47 then [] :: cut r else match cut r with
    | x :: xs => (c :: x) :: xs
    | [] => [[c]]
theorem cut_ne : ∀ l : B, cut l ≠ []
  | [] => by simp [cut]
  | c :: r => by
    unfold cut
    split
    · simp
    · split <;> simp
theorem cut_slash (r : B) : cut (47 :: r) = [] :: cut r := by rw [cut]; simp
theorem cut_other {c : UInt8} (h : c ≠ 47) (r : B) : ∃ x xs, cut r = x :: xs ∧ cut (c :: r) = (c :: x) :: xs := by
  cases hc : cut r with
  | nil => exact absurd hc (cut_ne r)
  | cons x xs => exact ⟨x, xs, rfl, by rw [cut, if_neg h, hc]⟩
theorem cut_none : ∀ b : B, (∀ c ∈ b, c ≠ 47) → cut b = [b]
  | [], _ => rfl
  | c :: r, h => by
    obtain ⟨x, xs, h1, h2⟩ := cut_other (h c (by simp)) r
    rw [cut_none r (fun d hd => h d (by simp [hd]))] at h1
    cases h1
    exact h2
theorem cut_append : ∀ a b : B, cut (a ++ 47 :: b) = cut a ++ cut b
  | [], b => by rw [List.nil_append, cut_slash]; rfl
  | c :: r, b => by
    by_cases h : c = 47
    · subst h; rw [List.cons_append, cut_slash, cut_slash, cut_append r b]; rfl
    · obtain ⟨x, xs, h1, h2⟩ := cut_other h r
      obtain ⟨y, ys, h3, h4⟩ := cut_other h (r ++ 47 :: b)
      rw [cut_append r b, h1] at h3
      cases h3
      rw [List.cons_append, h4, h2]; rfl
theorem join_cons2 (x : B) (r : List B) (h : r ≠ []) : Lib.join (x :: r) [47] = x ++ 47 :: Lib.join r [47] := by
  cases r with
  | nil => exact absurd rfl h
  | cons y r => rw [Lib.join_cons, Lib.join_cons]; simp [Lib.joinTail]
theorem join_cut : ∀ a : B, Lib.join (cut a) [47] = a
  | [] => Lib.join_one [] [47]
  | c :: r => by
    have ih := join_cut r
    by_cases h : c = 47
    · subst h; rw [cut_slash, join_cons2 _ _ (cut_ne r), ih]; rfl
    · obtain ⟨x, xs, h1, h2⟩ := cut_other h r
      rw [h1] at ih
      rw [h2]
      cases xs with
      | nil => rw [Lib.join_one] at ih ⊢; rw [ih]
      | cons y ys => rw [join_cons2 _ _ (by simp)] at ih ⊢; rw [List.cons_append, ih]
/-- The first piece, up to a slash. -/
theorem cut_first (p : B) (i : Nat) (h : p[i]? = some 47) (hn : ∀ j, j < i → p[j]? ≠ some 47) : cut p = p.take i :: cut (p.drop (i + 1)) := by
  have hi := (List.getElem?_eq_some_iff.1 h).1
  have e : p = p.take i ++ 47 :: p.drop (i + 1) := by
    have h2 : p[i] = 47 := (List.getElem?_eq_some_iff.1 h).2
    rw [← h2, ← List.drop_eq_getElem_cons hi, List.take_append_drop]
  have h3 : cut (p.take i) = [p.take i] := by
    refine cut_none _ fun c hc hc2 => ?_
    obtain ⟨j, hj, hjc⟩ := List.mem_iff_getElem.1 hc
    rw [List.length_take] at hj
    refine hn j (by omega) ?_
    rw [← hc2, ← hjc, List.getElem_take]
    exact List.getElem?_eq_getElem (by omega)
  have h4 := cut_append (p.take i) (p.drop (i + 1))
  rw [← e, h3] at h4
  exact h4
theorem cut_whole (p : B) (hn : ∀ j, j < p.length → p[j]? ≠ some 47) : cut p = [p] := by
  refine cut_none _ fun c hc hc2 => ?_
  obtain ⟨j, hj, hjc⟩ := List.mem_iff_getElem.1 hc
  exact hn j hj (by rw [← hc2, ← hjc]; exact List.getElem?_eq_getElem hj)
theorem cut_count : ∀ p : B, (cut p).length = p.count 47 + 1
  | [] => rfl
  | c :: r => by
    by_cases h : c = 47
    · subst h; rw [cut_slash, List.length_cons, cut_count r, List.count_cons_self]
    · obtain ⟨x, xs, h1, h2⟩ := cut_other h r
      have := cut_count r
      rw [h1] at this
      rw [h2, List.count_cons_of_ne (by simpa using h)]
      simpa using this
theorem cut_mem_len : ∀ (p : B), ∀ x ∈ cut p, x.length ≤ p.length
  | [], x, hx => by simp [cut] at hx; simp [hx]
  | c :: r, x, hx => by
    by_cases h : c = 47
    · subst h
      rw [cut_slash] at hx
      rcases List.mem_cons.1 hx with rfl | hx
      · simp
      · have := cut_mem_len r x hx; simp only [List.length_cons]; omega
    · obtain ⟨y, ys, h1, h2⟩ := cut_other h r
      rw [h2] at hx
      rcases List.mem_cons.1 hx with rfl | hx
      · have := cut_mem_len r y (by rw [h1]; simp); simp only [List.length_cons]; omega
      · have := cut_mem_len r x (by rw [h1]; simp [hx]); simp only [List.length_cons]; omega
/-- A piece has no slash. -/
theorem cut_mem : ∀ (p : B), ∀ x ∈ cut p, ∀ c ∈ x, c ≠ 47
  | [], x, hx => by simp [cut] at hx; simp [hx]
  | d :: r, x, hx => by
    by_cases h : d = 47
    · subst h
      rw [cut_slash] at hx
      rcases List.mem_cons.1 hx with rfl | hx
      · intro c hc; cases hc
      · exact cut_mem r x hx
    · obtain ⟨y, ys, h1, h2⟩ := cut_other h r
      rw [h2] at hx
      rcases List.mem_cons.1 hx with rfl | hx
      · intro c hc
        rcases List.mem_cons.1 hc with rfl | hc
        · exact h
        · exact cut_mem r y (by rw [h1]; simp) c hc
      · exact cut_mem r x (by rw [h1]; simp [hx])
/-- The library's cut at each slash. -/
theorem split_cut : ∀ (n : Nat) (s : B), s.length ≤ n → Lib.splitK [47] 0 (Lib.count s [47]) s = cut s := by
  intro n
  induction n with
  | zero =>
    intro s hs
    have : s = [] := List.length_eq_zero_iff.1 (by omega)
    subst this
    rfl
  | succ n ih =>
    intro s hs
    by_cases hm : Lib.index s [47] = -1
    · have hnone : ∀ c ∈ s, c ≠ 47 := by
        intro c hc hc2
        subst hc2
        have h1 := Lib.count_one 47 s
        rw [Lib.count_miss hm] at h1
        have := List.count_pos_iff.2 hc
        omega
      rw [Lib.count_miss hm, cut_none s hnone]; rfl
    · have hge := Lib.index_ge s [47]
      obtain ⟨i, hi⟩ : ∃ i : Nat, Lib.index s [47] = i := ⟨(Lib.index s [47]).toNat, by omega⟩
      have hc := Lib.count_hit (by simp) hi
      have key : ∀ (s : B) (i : Nat), Lib.index s [47] = i → s[i]? = some 47 ∧ ∀ j, j < i → s[j]? ≠ some 47 := by
        intro s
        induction s with
        | nil => intro i h; simp [Lib.index] at h
        | cons b l ih2 =>
          intro i h
          unfold Lib.index at h
          by_cases hb : b = 47
          · subst hb
            simp at h
            have : i = 0 := by omega
            subst this
            exact ⟨rfl, fun j hj => by omega⟩
          · have hp : ([47] : List UInt8).isPrefixOf (b :: l) = false := by simp [List.isPrefixOf, Ne.symm hb]
            rw [hp] at h
            simp only [Bool.false_eq_true, if_false] at h
            split at h
            · omega
            · rename_i hq
              have hge := Lib.index_ge l [47]
              have hq' : Lib.index l [47] ≠ -1 := fun e => hq (by rw [e]; rfl)
              obtain ⟨j, hj⟩ : ∃ j : Nat, Lib.index l [47] = j := ⟨(Lib.index l [47]).toNat, by omega⟩
              have hij : i = j + 1 := by omega
              subst hij
              obtain ⟨h1, h2⟩ := ih2 j hj
              refine ⟨by simpa using h1, fun k hk => ?_⟩
              cases k with
              | zero => simpa using hb
              | succ k => have := h2 k (by omega); simpa using this
      obtain ⟨k1, k2⟩ := key s i hi
      have hlt := (List.getElem?_eq_some_iff.1 k1).1
      rw [cut_first s i k1 k2, ← ih (s.drop (i + 1)) (by rw [List.length_drop]; omega)]
      rw [hc]
      simp only [List.length_singleton]
      rw [show 1 + Lib.count (List.drop (i + 1) s) [47] = Lib.count (List.drop (i + 1) s) [47] + 1 by omega, Lib.splitK, hi]
      have : ((i : Int) == -1) = false := by rw [beq_eq_false_iff_ne]; omega
      rw [this]
      simp
/-- A path's names; none of the empty one. -/
def names (p : B) : List B := if p = [] then [] else cut p
/-- The path above. -/
def above (p : B) : B := Lib.join (names p).dropLast [47]
theorem above_at (p : B) (i : Nat) (h : p[i]? = some 47) (hn : ∀ j, i < j → p[j]? ≠ some 47) : above p = p.take i := by
  have hi := (List.getElem?_eq_some_iff.1 h).1
  have h2 : p[i] = 47 := (List.getElem?_eq_some_iff.1 h).2
  have e : p = p.take i ++ 47 :: p.drop (i + 1) := by rw [← h2, ← List.drop_eq_getElem_cons hi, List.take_append_drop]
  have hp : p ≠ [] := by rintro rfl; simp at hi
  have h3 : cut (p.drop (i + 1)) = [p.drop (i + 1)] := by
    refine cut_whole _ fun j hj hj2 => hn (i + 1 + j) (by omega) ?_
    rwa [List.getElem?_drop] at hj2
  have h4 := cut_append (p.take i) (p.drop (i + 1))
  rw [← e, h3] at h4
  unfold above names
  rw [if_neg hp, h4, List.dropLast_concat, join_cut]
theorem above_none (p : B) (hn : ∀ j, j < p.length → p[j]? ≠ some 47) : above p = [] := by
  unfold above names
  split
  · rfl
  · rw [cut_whole p hn]; rfl

/-! ### the order of paths -/
/-- Rows of names: the first ahead of the second. -/
def less (lt : B → B → Bool) : List B → List B → Bool
  | [], [] => false
  | [], _ :: _ => true
  | _ :: _, [] => false
  | x :: a, y :: b => if x = y then less lt a b else lt x y

/-! ### what may be -/
structure PItem where
  path : B
  kind : Int
  size : Int
  data : B
  pieces : List Int
  same : Int
  deriving DecidableEq
def allZero (l : B) : Bool := l.all (· == 0)
/-- The pieces of a file, from one on. -/
def filePs (size : Int) : Int → B → List Int → Bool
  | _, data, [] => data.isEmpty
  | last, data, p :: ps => if p ≤ last ∨ size ≤ 512 * p then false else
      if data.length < (min 512 (size - 512 * p)).toNat then false else
      if allZero (data.take (min 512 (size - 512 * p)).toNat) then false else filePs size p (data.drop (min 512 (size - 512 * p)).toNat) ps
def file (x : PItem) : Bool := decide (0 ≤ x.size ∧ x.size ≤ 8459264) && filePs x.size (-1) x.data x.pieces
def isEmpty (x : PItem) : Bool := decide (x.size = 0) && x.data.isEmpty && x.pieces.isEmpty
/-- Is a piece a component? -/
def isC (p : B) : Bool := decide (p ≠ [] ∧ p ≠ [46])
def comps (l : B) : List B := (cut l).filter isC
def text (l : B) : Bool := decide (l ≠ [] ∧ l.length ≤ 1024 ∧ (∀ c ∈ l, c ≠ 0) ∧ (∀ p ∈ cut l, p.length ≤ 27) ∧ (comps l).length ≤ 32)
def link (x : PItem) : Bool := text x.data && decide (x.size = x.data.length) && x.pieces.isEmpty
def goodName (s : B) : Bool := decide (1 ≤ s.length ∧ s.length ≤ 27 ∧ s ≠ [46] ∧ s ≠ [46, 46] ∧ ∀ c ∈ s, c ≠ 0 ∧ c ≠ 47)
/-- By its kind: may an item of its own be? -/
def may (x : PItem) : Bool := if x.kind = 1 then file x else if x.kind = 2 then isEmpty x else link x
/-- Does a path stand well behind another, with the directories that were met? -/
def follows (lt : B → B → Bool) (met : List PItem) (ahead p : B) : Bool :=
  decide (p ≠ [] ∧ (names p).length ≤ 32) && less lt (names ahead) (names p) && (names p).all goodName && met.any fun y => decide (y.path = above p ∧ y.kind = 2)
/-- The earlier item. -/
def sameOk (met : List PItem) (x : PItem) : Bool := decide (0 ≤ x.same ∧ x.kind ≠ 2) && (match met[x.same.toNat]? with | some y => decide (y.kind = x.kind ∧ y.same = -1) | none => false) && isEmpty x
/-- May an item stand behind those that were met? -/
def stands (lt : B → B → Bool) (met : List PItem) (x : PItem) : Bool :=
  (match met.getLast? with | none => decide (x.path = []) | some y => follows lt met y.path x.path) && decide (1 ≤ x.kind ∧ x.kind ≤ 3) && (if x.same = -1 then may x else sameOk met x)
/-- Is the rest right behind what was met? -/
def rightFrom (lt : B → B → Bool) : List PItem → List PItem → Bool
  | _, [] => true
  | met, x :: r => stands lt met x && rightFrom lt (met ++ [x]) r
def right (lt : B → B → Bool) (l : List PItem) : Bool := !l.isEmpty && rightFrom lt [] l
end Go.Proofs.YtlnnbjgfpiefdaaGreat.Pk
/- The pieces of a path between its slashes: the plain law. -/
namespace Go.Proofs.YtlnnbjgfpiefdaaGreat.Pk
/-- The pieces that aren't empty. -/
def pcs (l : B) : List B := (cut l).filter fun p => decide (p ≠ [])
theorem pcs_nil : pcs [] = [] := rfl
theorem pcs_slash (r : B) : pcs (47 :: r) = pcs r := by unfold pcs; rw [cut_slash]; rfl
theorem pcs_at_slash (l : B) (k : Nat) (h : l[k]? = some 47) : pcs (l.drop k) = pcs (l.drop (k + 1)) := by
  obtain ⟨hk, e⟩ := List.getElem?_eq_some_iff.1 h
  rw [List.drop_eq_getElem_cons hk, e, pcs_slash]
/-- A piece from k to e. -/
theorem pcs_piece (l : B) (k e : Nat) (hke : k < e) (hel : e ≤ l.length) (hn : ∀ j, k ≤ j → j < e → l[j]? ≠ some 47) (he : e = l.length ∨ l[e]? = some 47) :
    pcs (l.drop k) = (l.drop k).take (e - k) :: pcs (l.drop e) := by
  have hne : (l.drop k).take (e - k) ≠ [] := by
    intro h
    have := congrArg List.length h
    rw [List.length_take, List.length_drop, List.length_nil] at this
    omega
  have hfil : ∀ xs : List B, ((l.drop k).take (e - k) :: xs).filter (fun p => decide (p ≠ [])) = (l.drop k).take (e - k) :: xs.filter (fun p => decide (p ≠ [])) := by
    intro xs
    rw [List.filter_cons_of_pos (by simpa using hne)]
  by_cases h : e = l.length
  · have h1 : cut (l.drop k) = [l.drop k] := by
      refine cut_whole _ fun j hj => ?_
      rw [List.getElem?_drop]
      exact hn (k + j) (by omega) (by rw [List.length_drop] at hj; omega)
    have h2 : (l.drop k).take (e - k) = l.drop k := List.take_of_length_le (by rw [List.length_drop]; omega)
    rw [h2] at hne ⊢
    unfold pcs
    rw [h1, List.drop_eq_nil_of_le (by omega : l.length ≤ e)]
    rw [List.filter_cons_of_pos (by simpa using hne)]
    rfl
  · have he' : l[e]? = some 47 := he.resolve_left h
    have h1 := cut_first (l.drop k) (e - k) (by rw [List.getElem?_drop, show k + (e - k) = e by omega]; exact he') (fun j hj => by rw [List.getElem?_drop]; exact hn (k + j) (by omega) (by omega))
    rw [pcs_at_slash l e he']
    unfold pcs
    rw [h1, hfil, List.drop_drop, show k + (e - k + 1) = e + 1 by omega]
theorem pcs_count (l : B) : (pcs l).length ≤ l.length + 1 := by
  unfold pcs
  refine Nat.le_trans (List.length_filter_le _ _) ?_
  rw [cut_count]
  have := List.count_le_length (a := (47 : UInt8)) (l := l)
  omega
end Go.Proofs.YtlnnbjgfpiefdaaGreat.Pk
