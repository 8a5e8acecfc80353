/- Laws on maps whose elements are whatever values: what stands at a key is a value, as it lies; a map's literal; a look-up with 'ok'. -/
import Derived.Maps.OwnSet
import Derived.Maps.Ext
import Derived.ChangeMaps
import Derived.Test.YtegplehbcdeeoaaGreatDoorChkB03
namespace Go.Proofs.YtegplehbcdeeoaaGreatDoor
open Go.Maps (Keyed)

/-- An element as it lies. -/
def rawElem (v : Value) : Option (DataW Value × List MemPlace) := some (.held v, [])

/-- A map that was just made. -/
theorem ownsMap_last {H : Type} (w : World) (P : Program) (k : TypeId) (R : Value → Option (DataW H × List MemPlace)) (b : Nat) (hb : b = w.heap.size) : (w.alloc (.map #[] 0)).ownsMap P k R b 0 (.map []) := by
  subst hb; exact World.ownsMap_made _ _ _ _

/-- 'm[k] = v' of a map's literal, at the operation. -/
theorem wpList_insert_own {H : Type} {P : Program} (w : World) {ops : Array Oper} {rest : List Oper} {o : Oper} {a : Act} {Q : Exit → Act → World → Prop}
    (hg : o.guard = none) (m x v : Operand) (t : TypeId) (hop : o.op = Op.insert t m x v)
    (k e : TypeId) (K : Keyed P k) (ht : P.underlying t = some (.map k e)) (R : Value → Option (DataW H × List MemPlace)) (b n : Nat) (D : DataW H)
    (hm : a.eval m = .map (some b)) (hown : w.ownsMap P k R b n D) (hn : n < maxLen) (key val : Value) (kl : Lit) (hx : a.eval x = key) (hv : a.eval v = val) (hkey : keyOf P k key = some kl)
    (d : DataW H) (ps : List MemPlace) (hval : R val = some (d, ps))
    (hK : ∀ w', w'.ownsMap P k R b (n + 1) (D.put kl d) → w.grownBy w' (some b) → wpList P ops Q rest (a.put o.dst undef) w') :
    wpList P ops Q (o :: rest) a w := by
  refine wpList_plain hg fun K' hK' => ?_
  obtain ⟨w', hrun, r1, r2⟩ := hown.update K ht hn hkey hval
  unfold Oper.wp
  simp [execOp, hop, hm, hx, hv, hrun, Result.andThen]
  exact hK' _ _ (hK w' r1 r2)

/-- 'm[k]' of elements as they lie. -/
theorem wpList_lookup_raw {P : Program} (w : World) {ops : Array Oper} {rest : List Oper} {o : Oper} {a : Act} {Q : Exit → Act → World → Prop}
    (hg : o.guard = none) (m x : Operand) (t : TypeId) (hop : o.op = Op.lookup t m x false)
    (k e : TypeId) (K : Keyed P k) (ht : P.underlying t = some (.map k e)) (z : Value) (hz : (zeroValue e).run P w = .ok z w) (b n : Nat) (D : DataW Value)
    (hm : a.eval m = .map (some b)) (hown : w.ownsMap P k rawElem b n D) (key : Value) (kl : Lit) (hx : a.eval x = key) (hkey : keyOf P k key = some kl)
    (v : Value) (hat : D.atKey kl (.held z) = .held v)
    (hK : wpList P ops Q rest (a.put o.dst v) w) : wpList P ops Q (o :: rest) a w := by
  refine wpList_plain hg fun K' hK' => ?_
  obtain ⟨u, ps, hrun, hu⟩ := hown.lookup K ht hz (zd := .held z) (zp := []) rfl hkey
  rw [hat] at hu
  simp only [rawElem, Option.some.injEq, Prod.mk.injEq, DataW.held.injEq] at hu
  obtain ⟨rfl, _⟩ := hu
  unfold Oper.wp
  simp [execOp, hop, hm, hx, hrun, Result.andThen]
  exact hK' _ _ hK

/-- 'v, ok := m[k]' of elements as they lie. -/
theorem wpList_lookup_raw_ok {P : Program} (w : World) {ops : Array Oper} {rest : List Oper} {o : Oper} {a : Act} {Q : Exit → Act → World → Prop}
    (hg : o.guard = none) (m x : Operand) (t : TypeId) (hop : o.op = Op.lookup t m x true)
    (k e : TypeId) (K : Keyed P k) (ht : P.underlying t = some (.map k e)) (z : Value) (hz : (zeroValue e).run P w = .ok z w) (b n : Nat) (D : DataW Value)
    (hm : a.eval m = .map (some b)) (hown : w.ownsMap P k rawElem b n D) (key : Value) (kl : Lit) (hx : a.eval x = key) (hkey : keyOf P k key = some kl)
    (v : Value) (hat : D.atKey kl (.held z) = .held v) (ok : Bool) (hok : Maps.has D kl = ok)
    (hK : wpList P ops Q rest (a.put o.dst (.tuple #[v, .bool ok])) w) : wpList P ops Q (o :: rest) a w := by
  refine wpList_plain hg fun K' hK' => ?_
  obtain ⟨u, ps, hrun, hu⟩ := hown.look_ok K ht hz (zd := .held z) (zp := []) rfl hkey
  rw [hat] at hu
  rw [hok] at hrun
  simp only [rawElem, Option.some.injEq, Prod.mk.injEq, DataW.held.injEq] at hu
  obtain ⟨rfl, _⟩ := hu
  unfold Oper.wp
  simp [execOp, hop, hm, hx, hrun, Result.andThen]
  exact hK' _ _ hK
/-- The same inside a region that draws its order. -/
theorem step_lookup_raw_ok {P : Program} (w : World) {ops : Array Oper} {o : Oper} {a : Act} {K : Act → World → Prop} {Q : Exit → Act → World → Prop} {E : Prop}
    (hg : o.guard = none) (m x : Operand) (t : TypeId) (hop : o.op = Op.lookup t m x true)
    (k e : TypeId) (KK : Keyed P k) (ht : P.underlying t = some (.map k e)) (z : Value) (hz : (zeroValue e).run P w = .ok z w) (b n : Nat) (D : DataW Value)
    (hm : a.eval m = .map (some b)) (hown : w.ownsMap P k rawElem b n D) (key : Value) (kl : Lit) (hx : a.eval x = key) (hkey : keyOf P k key = some kl)
    (v : Value) (hat : D.atKey kl (.held z) = .held v) (ok : Bool) (hok : Maps.has D kl = ok)
    (hK : K (a.put o.dst (.tuple #[v, .bool ok])) w) : if Region.wanted o (yielded ops a.tmps) = true then Oper.wp P o a w K Q else E := by
  rw [if_pos (by simp [Region.wanted, hg])]
  obtain ⟨u, ps, hrun, hu⟩ := hown.look_ok KK ht hz (zd := .held z) (zp := []) rfl hkey
  rw [hat] at hu
  rw [hok] at hrun
  simp only [rawElem, Option.some.injEq, Prod.mk.injEq, DataW.held.injEq] at hu
  obtain ⟨rfl, _⟩ := hu
  unfold Oper.wp
  simp [execOp, hop, hm, hx, hrun, Result.andThen]
  exact hK
end Go.Proofs.YtegplehbcdeeoaaGreatDoor
/- Maps as rising lists of their entries: what a look-up, a store and a deletion do to them; how the model's reading of a map is such a list. -/
namespace Go.Proofs.YtegplehbcdeeoaaGreatDoor
open Go.Maps Go.ChangeMaps Go.WideShapes

namespace Fs
/-- A key's kind: how it reads. -/
class Key (κ : Type) [DecidableEq κ] where
  lit : κ → Lit
  same : ∀ a b, (lit a).sameKey (lit b) = decide (a = b)
  isKey : ∀ a, WideAt.IsKeyLit (lit a)
  total : ∀ a b, a ≠ b → (lit a).before (lit b) = true ∨ (lit b).before (lit a) = true
  irrefl : ∀ a, (lit a).before (lit a) = false
  trans : ∀ a b c, (lit a).before (lit b) = true → (lit b).before (lit c) = true → (lit a).before (lit c) = true
open Key

/-- A text: its bytes. -/
abbrev Tx := List UInt8

instance : Key Int where
  lit n := .int .i64 n
  same a b := by simp [Lit.sameKey]
  isKey _ := trivial
  total a b h := by simp only [Lit.before, decide_eq_true_eq]; omega
  irrefl a := by simp [Lit.before]
  trans a b c h1 h2 := by simp only [Lit.before, decide_eq_true_eq] at *; omega

instance : Key Tx where
  lit n := .string n
  same a b := by simp only [Lit.sameKey]; exact Bool.eq_iff_iff.2 (by simp)
  isKey _ := trivial
  total a b h := before_total ⟨a, rfl⟩ ⟨b, rfl⟩ (fun e => h (by cases e; rfl))
  irrefl a := before_irrefl _
  trans a b c h1 h2 := before_trans h1 h2

section
variable {κ ν : Type} [DecidableEq κ]
/-- A map: its entries, rising. -/
abbrev Al (κ ν : Type) := List (κ × ν)
def del (l : Al κ ν) (k : κ) : Al κ ν := l.filter fun p => !decide (p.1 = k)
def get (l : Al κ ν) (k : κ) : Option ν := (l.find? fun p => decide (p.1 = k)).map (·.2)
theorem mem_del {l : Al κ ν} {k : κ} {p : κ × ν} : p ∈ del l k ↔ p ∈ l ∧ p.1 ≠ k := by
  rw [del, List.mem_filter]; simp

theorem get_eq {l : Al κ ν} (h : l.Pairwise fun p q => p.1 ≠ q.1) {k : κ} {v : ν} : get l k = some v ↔ (k, v) ∈ l := by
  induction l with
  | nil => simp [get]
  | cons y r ih =>
    obtain ⟨h1, h2⟩ := List.pairwise_cons.1 h
    unfold get
    rw [List.find?_cons]
    by_cases hy : y.1 = k
    · simp only [hy, decide_true, Option.map_some, Option.some.injEq, List.mem_cons]
      constructor
      · intro e; left; rw [← hy, ← e]
      · rintro (e | e)
        · rw [← e]
        · exact absurd hy (h1 _ e)
    · simp only [hy, decide_false]
      rw [show (List.find? (fun p => decide (p.1 = k)) r).map (·.2) = get r k from rfl, ih h2, List.mem_cons]
      constructor
      · exact .inr
      · rintro (e | e)
        · exact absurd (by rw [← e]) hy
        · exact e
theorem get_none {l : Al κ ν} {k : κ} : get l k = none ↔ ∀ p ∈ l, p.1 ≠ k := by
  unfold Fs.get
  rw [Option.map_eq_none_iff, List.find?_eq_none]
  constructor
  · intro h p hp; simpa using h p hp
  · intro h p hp; simpa using h p hp
theorem get_nil (k : κ) : get ([] : Al κ ν) k = none := rfl

end

section
variable {κ ν : Type} [DecidableEq κ] [Key κ]

def lt (a b : κ) : Bool := (lit a).before (lit b)
def ins (x : κ × ν) : Al κ ν → Al κ ν
  | [] => [x]
  | y :: r => if lt x.1 y.1 then x :: y :: r else y :: ins x r
def put (l : Al κ ν) (k : κ) (v : ν) : Al κ ν := ins (k, v) (del l k)
def Rising (l : Al κ ν) : Prop := l.Pairwise fun p q => lt p.1 q.1 = true

/-- As the model reads it. -/
def toD (ev : ν → Value) (l : Al κ ν) : DataW Value := .map (l.map fun p => (lit p.1, .held (ev p.2)))

theorem ins_perm (x : κ × ν) : ∀ l : Al κ ν, (ins x l).Perm (x :: l)
  | [] => .refl _
  | y :: r => by
    unfold ins; split
    · exact .refl _
    · exact ((ins_perm x r).cons y).trans (.swap x y r)
theorem put_perm (l : Al κ ν) (k : κ) (v : ν) : (put l k v).Perm ((k, v) :: del l k) := ins_perm _ _
theorem mem_put {l : Al κ ν} {k : κ} {v : ν} {p : κ × ν} : p ∈ put l k v ↔ p = (k, v) ∨ (p ∈ l ∧ p.1 ≠ k) := by
  rw [(put_perm l k v).mem_iff, List.mem_cons, del, List.mem_filter]
  simp
theorem Rising.ins {x : κ × ν} : ∀ {l : Al κ ν}, Rising l → (∀ p ∈ l, p.1 ≠ x.1) → Rising (ins x l)
  | [], _, _ => List.pairwise_singleton _ _
  | y :: r, h, hne => by
    obtain ⟨h1, h2⟩ := List.pairwise_cons.1 h
    unfold Fs.ins; split
    · rename_i hxy
      refine List.pairwise_cons.2 ⟨fun q hq => ?_, h⟩
      rcases List.mem_cons.1 hq with e | hq
      · rw [e]; exact hxy
      · exact trans _ _ _ hxy (h1 q hq)
    · rename_i hxy
      refine List.pairwise_cons.2 ⟨fun q hq => ?_, Rising.ins h2 fun p hp => hne p (List.mem_cons_of_mem _ hp)⟩
      rcases List.mem_cons.1 ((ins_perm x r).mem_iff.1 hq) with e | hq
      · rw [e]
        rcases total y.1 x.1 (hne y (by simp)) with e | e
        · exact e
        · exact absurd e hxy
      · exact h1 q hq
theorem Rising.del {l : Al κ ν} (h : Rising l) (k : κ) : Rising (del l k) := List.Pairwise.filter _ h
theorem Rising.put {l : Al κ ν} (h : Rising l) (k : κ) (v : ν) : Rising (put l k v) := Rising.ins (h.del k) fun _ hp => (mem_del.1 hp).2
theorem Rising.nil : Rising ([] : Al κ ν) := List.Pairwise.nil

theorem Rising.apart {l : Al κ ν} (h : Rising l) : l.Pairwise fun p q => p.1 ≠ q.1 :=
  h.imp fun {a b} hab e => by unfold lt at hab; rw [e, Key.irrefl] at hab; cases hab
theorem Rising.get {l : Al κ ν} (h : Rising l) {k : κ} {v : ν} : get l k = some v ↔ (k, v) ∈ l := get_eq h.apart
/-- Two maps that answer alike are one. -/
theorem Rising.ext : ∀ {l m : Al κ ν}, Rising l → Rising m → (∀ k, Fs.get l k = Fs.get m k) → l = m
  | [], [], _, _, _ => rfl
  | [], b :: s, _, h2, h => by
    have := (h b.1).trans (h2.get.2 (List.mem_cons_self ..))
    simp [Fs.get] at this
  | a :: r, [], h1, _, h => by
    have := (h a.1).symm.trans (h1.get.2 (List.mem_cons_self ..))
    simp [Fs.get] at this
  | a :: r, b :: s, h1, h2, h => by
    have hm : ∀ p, p ∈ a :: r ↔ p ∈ b :: s := fun p => by
      rw [show p = (p.1, p.2) from rfl, ← h1.get, ← h2.get, h]
    obtain ⟨a1, a2⟩ := List.pairwise_cons.1 h1
    obtain ⟨b1, b2⟩ := List.pairwise_cons.1 h2
    have hab : a = b := by
      rcases List.mem_cons.1 ((hm a).1 (by simp)) with e | ha
      · exact e
      · rcases List.mem_cons.1 ((hm b).2 (by simp)) with e | hb
        · exact e.symm
        · have := trans _ _ _ (a1 b hb) (b1 a ha)
          rw [Key.irrefl] at this
          cases this
    subst hab
    rw [Rising.ext a2 b2 fun k => by
      have hk := h k
      unfold Fs.get at hk ⊢
      rw [List.find?_cons, List.find?_cons] at hk
      by_cases e : a.1 = k
      · have n1 : (r.find? fun p => decide (p.1 = k)) = none := List.find?_eq_none.2 fun p hp => by
          have := a1 p hp; intro c; rw [decide_eq_true_eq] at c; unfold lt at this; rw [c, ← e, Key.irrefl] at this; cases this
        have n2 : (s.find? fun p => decide (p.1 = k)) = none := List.find?_eq_none.2 fun p hp => by
          have := b1 p hp; intro c; rw [decide_eq_true_eq] at c; unfold lt at this; rw [c, ← e, Key.irrefl] at this; cases this
        rw [n1, n2]
      · simpa only [e, decide_false] using hk]

theorem get_put_same (l : Al κ ν) (h : Rising l) (k : κ) (v : ν) : get (put l k v) k = some v := (h.put k v).get.2 (mem_put.2 (.inl rfl))
theorem get_put_other (l : Al κ ν) (h : Rising l) {k k' : κ} (hne : k' ≠ k) (v : ν) : get (put l k v) k' = get l k' := by
  refine Option.ext fun u => ?_
  rw [Rising.get (h.put k v), h.get, mem_put]
  constructor
  · rintro (e | e)
    · exact absurd (Prod.mk.inj e).1 hne
    · exact e.1
  · exact fun e => .inr ⟨e, hne⟩
theorem get_put (l : Al κ ν) (h : Rising l) (k k' : κ) (v : ν) : get (put l k v) k' = if k' = k then some v else get l k' := by
  split
  · rename_i e; rw [e]; exact get_put_same l h k v
  · rename_i e; exact get_put_other l h e v
theorem get_del (l : Al κ ν) (h : Rising l) (k k' : κ) : get (del l k) k' = if k' = k then none else get l k' := by
  split
  · rename_i e; exact get_none.2 fun p hp => by rw [e]; exact (mem_del.1 hp).2
  · rename_i e
    refine Option.ext fun u => ?_
    rw [Rising.get (h.del k), h.get, mem_del]
    exact ⟨fun x => x.1, fun x => ⟨x, e⟩⟩

/-- What a store lays a deletion takes back. -/
theorem del_put {l : Al κ ν} (h : Rising l) {k : κ} {v : ν} (hn : get l k = none) : del (put l k v) k = l :=
  Rising.ext ((h.put k v).del k) h fun k' => by
    rw [get_del _ (h.put k v), get_put _ h]
    split
    · rename_i e; rw [e, hn]
    · rfl
/-- What a deletion takes a store lays back. -/
theorem put_del {l : Al κ ν} (h : Rising l) {k : κ} {v : ν} (hn : get l k = some v) : put (del l k) k v = l :=
  Rising.ext ((h.del k).put k v) h fun k' => by
    rw [get_put _ (h.del k), get_del _ h]
    split
    · rename_i e; rw [e, hn]
    · rfl
/-- A store over another one. -/
theorem put_put {l : Al κ ν} (h : Rising l) {k : κ} {u v : ν} (hn : get l k = some v) : put (put l k u) k v = l :=
  Rising.ext ((h.put k u).put k v) h fun k' => by
    rw [get_put _ (h.put k u), get_put _ h]
    split
    · rename_i e; rw [e, hn]
    · rfl

theorem length_put (l : Al κ ν) (h : Rising l) (k : κ) (v : ν) : (put l k v).length = if get l k = none then l.length + 1 else l.length := by
  rw [(put_perm l k v).length_eq, List.length_cons]
  split
  · rename_i hn
    rw [show del l k = l from List.filter_eq_self.2 fun p hp => by simpa using get_none.1 hn p hp]
  · rename_i hn
    obtain ⟨u, hu⟩ := Option.ne_none_iff_exists'.1 hn
    conv => rhs; rw [← put_del h hu]
    rw [(put_perm _ k u).length_eq, List.length_cons]
    congr 1
    rw [show del (del l k) k = del l k from by unfold del; rw [List.filter_filter]; simp]
theorem length_del (l : Al κ ν) (h : Rising l) {k : κ} {v : ν} (hn : get l k = some v) : (del l k).length + 1 = l.length := by
  have := length_put (del l k) (h.del k) k v
  rw [put_del h hn, get_del _ h, if_pos rfl, if_pos rfl] at this
  exact this.symm

/-! The model's reading. -/
theorem toD_ins (ev : ν → Value) (x : κ × ν) : ∀ l : Al κ ν, (ins x l).map (fun p => (lit p.1, DataW.held (ev p.2))) = DataW.insert (lit x.1, DataW.held (ev x.2)) (l.map fun p => (lit p.1, DataW.held (ev p.2)))
  | [] => rfl
  | y :: r => by
    unfold ins lt
    rw [List.map_cons]
    unfold DataW.insert
    dsimp only
    split
    · rfl
    · rw [List.map_cons, toD_ins ev x r]
theorem toD_filter (ev : ν → Value) (k : κ) (l : Al κ ν) : (l.map fun p => (lit p.1, DataW.held (ev p.2))).filter (fun p => !p.1.sameKey (lit k)) = (del l k).map fun p => (lit p.1, DataW.held (ev p.2)) := by
  rw [List.filter_map, del]
  congr 1
  refine List.filter_congr fun p _ => ?_
  simp [Key.same]
theorem toD_put (ev : ν → Value) (l : Al κ ν) (k : κ) (v : ν) : (toD ev l).put (lit k) (.held (ev v)) = toD ev (put l k v) := by
  unfold toD DataW.put put
  dsimp only
  rw [toD_filter, toD_ins]
theorem toD_del (ev : ν → Value) (l : Al κ ν) (k : κ) : (toD ev l).del (lit k) = toD ev (del l k) := by
  unfold toD DataW.del
  dsimp only
  rw [toD_filter]
theorem toD_find (ev : ν → Value) (k : κ) (l : Al κ ν) : (l.map fun p => (lit p.1, DataW.held (ev p.2))).find? (fun p => p.1.sameKey (lit k)) = (l.find? fun p => decide (p.1 = k)).map fun p => (lit p.1, DataW.held (ev p.2)) := by
  rw [List.find?_map]
  have : ((fun p : Lit × DataW Value => p.1.sameKey (lit k)) ∘ fun p : κ × ν => (lit p.1, DataW.held (ev p.2))) = fun p => decide (p.1 = k) := funext fun p => by simp [Key.same]
  rw [this]
theorem toD_atKey (ev : ν → Value) (l : Al κ ν) (k : κ) (z : Value) : (toD ev l).atKey (lit k) (.held z) = .held (((get l k).map ev).getD z) := by
  unfold toD DataW.atKey get
  dsimp only
  rw [toD_find]
  cases l.find? fun p => decide (p.1 = k) with
  | none => rfl
  | some p => rfl
theorem toD_has (ev : ν → Value) (l : Al κ ν) (k : κ) : Maps.has (toD ev l) (lit k) = (get l k).isSome := by
  unfold toD Maps.has get
  dsimp only
  rw [List.any_map, Option.isSome_map, Bool.eq_iff_iff, List.any_eq_true, List.find?_isSome]
  simp [Key.same]
theorem toD_size (ev : ν → Value) (l : Al κ ν) : Maps.size (toD ev l) = l.length := by
  unfold toD Maps.size; simp
theorem toD_nil (ev : ν → Value) : toD ev ([] : Al κ ν) = .map [] := rfl
end
end Fs
end Go.Proofs.YtegplehbcdeeoaaGreatDoor
/- The plain law on how many blocks a file takes: how many different numbers a list has, and how many entries a map has into which they were put. -/
namespace Go.Proofs.YtegplehbcdeeoaaGreatDoor
open Go.Maps Go.WideShapes

namespace Tk
/-- A number that a list has then. -/
def add (acc : List Int) (k : Int) : List Int := if k ∈ acc then acc else acc ++ [k]
/-- The different numbers of a list. -/
def dd (l : List Int) : List Int := l.foldl add []
/-- The tables below the second one. -/
def tab (l : List Int) : List Int := l.flatMap (fun k => if 138 ≤ k then [(k - 138) / 128] else [])
def far (l : List Int) : Bool := l.any fun k => decide (k < 0 ∨ 16521 < k)
def one (l : List Int) : Nat := if l.any (fun k => decide (10 ≤ k ∧ k < 138)) then 1 else 0
def two (l : List Int) : Nat := if l.any (fun k => decide (138 ≤ k)) then 1 else 0
/-- The keys that the program puts into its map of tables. -/
def keys (l : List Int) : List Int := l.flatMap (fun k => if 138 ≤ k then [-1, (k - 138) / 128] else if 10 ≤ k then [-2] else [])
/-- How many blocks. -/
def count (l : List Int) : Nat := (dd l).length + one l + two l + (dd (tab l)).length

theorem dd_snoc (l : List Int) (k : Int) : dd (l ++ [k]) = add (dd l) k := by simp [dd, List.foldl_append]
theorem mem_add (acc : List Int) (k x : Int) : x ∈ add acc k ↔ x ∈ acc ∨ x = k := by
  unfold add; split
  · constructor
    · exact .inl
    · rintro (h | rfl) <;> assumption
  · simp
theorem mem_fold (x : Int) : ∀ (l acc : List Int), x ∈ l.foldl add acc ↔ x ∈ acc ∨ x ∈ l
  | [], acc => by simp
  | k :: r, acc => by rw [List.foldl_cons, mem_fold x r, mem_add]; simp [or_assoc]
theorem mem_dd (x : Int) (l : List Int) : x ∈ dd l ↔ x ∈ l := by simp [dd, mem_fold]
theorem len_add (acc : List Int) (k : Int) : (add acc k).length = if k ∈ acc then acc.length else acc.length + 1 := by
  unfold add; split <;> simp
theorem dd_len_snoc (l : List Int) (k : Int) : (dd (l ++ [k])).length = if k ∈ l then (dd l).length else (dd l).length + 1 := by
  rw [dd_snoc, len_add]; simp only [mem_dd]
theorem dd_len_le (l : List Int) : (dd l).length ≤ l.length := by
  have h : ∀ (l acc : List Int), (l.foldl add acc).length ≤ acc.length + l.length := by
    intro l; induction l with
    | nil => simp
    | cons k r ih => intro acc; rw [List.foldl_cons]; have := ih (add acc k); rw [len_add] at this; simp only [List.length_cons]; split at this <;> omega
  simpa [dd] using h l []
theorem tab_snoc (l : List Int) (k : Int) : tab (l ++ [k]) = tab l ++ if 138 ≤ k then [(k - 138) / 128] else [] := by simp [tab, List.flatMap_append]
theorem keys_snoc (l : List Int) (k : Int) : keys (l ++ [k]) = keys l ++ if 138 ≤ k then [-1, (k - 138) / 128] else if 10 ≤ k then [-2] else [] := by simp [keys, List.flatMap_append]
theorem tab_len : ∀ l : List Int, (tab l).length ≤ l.length
  | [] => by simp [tab]
  | k :: r => by
    have ih := tab_len r
    have e : tab (k :: r) = (if 138 ≤ k then [(k - 138) / 128] else []) ++ tab r := rfl
    rw [e, List.length_append, List.length_cons]; split <;> simp <;> omega
theorem mem_keys_one (l : List Int) : (-1 : Int) ∈ keys l ↔ l.any (fun k => decide (138 ≤ k)) = true := by
  simp only [keys, List.mem_flatMap, List.any_eq_true, decide_eq_true_eq]
  constructor
  · rintro ⟨k, hk, h⟩; refine ⟨k, hk, ?_⟩; split at h
    · assumption
    · split at h <;> simp at h
  · rintro ⟨k, hk, h⟩; exact ⟨k, hk, by simp [h]⟩
theorem mem_keys_two (l : List Int) : (-2 : Int) ∈ keys l ↔ l.any (fun k => decide (10 ≤ k ∧ k < 138)) = true := by
  simp only [keys, List.mem_flatMap, List.any_eq_true, decide_eq_true_eq]
  constructor
  · rintro ⟨k, hk, h⟩; refine ⟨k, hk, ?_⟩; split at h
    · simp at h; omega
    · split at h
      · omega
      · simp at h
  · rintro ⟨k, hk, h⟩; exact ⟨k, hk, by rw [if_neg (by omega), if_pos (by omega)]; simp⟩
theorem mem_keys_tab (l : List Int) (q : Int) (hq : 0 ≤ q) : q ∈ keys l ↔ q ∈ tab l := by
  simp only [keys, tab, List.mem_flatMap]
  constructor
  · rintro ⟨k, hk, h⟩; refine ⟨k, hk, ?_⟩; split at h
    · simp at h; rcases h with h | h
      · omega
      · rename_i h1; simp [h1, h]
    · split at h <;> simp at h; omega
  · rintro ⟨k, hk, h⟩; refine ⟨k, hk, ?_⟩; split at h
    · rename_i h1; simp at h; simp [h1, h]
    · simp at h
theorem one_snoc (l : List Int) (k : Int) : one (l ++ [k]) = if 10 ≤ k ∧ k < 138 then 1 else one l := by
  simp only [one, List.any_append, List.any_cons, List.any_nil, Bool.or_false]
  by_cases h : 10 ≤ k ∧ k < 138 <;> simp [h]
theorem two_snoc (l : List Int) (k : Int) : two (l ++ [k]) = if 138 ≤ k then 1 else two l := by
  simp only [two, List.any_append, List.any_cons, List.any_nil, Bool.or_false]
  by_cases h : 138 ≤ k <;> simp [h]
theorem keys_len_aux (l : List Int) (k : Int) (h : (dd (keys l)).length = one l + two l + (dd (tab l)).length) :
    (dd (keys (l ++ [k]))).length = one (l ++ [k]) + two (l ++ [k]) + (dd (tab (l ++ [k]))).length := by
  rw [keys_snoc, tab_snoc, one_snoc, two_snoc]
  by_cases h1 : 138 ≤ k
  · have hq : 0 ≤ (k - 138) / 128 := by omega
    rw [if_pos h1, if_pos h1, if_pos h1, if_neg (by omega), show keys l ++ [-1, (k - 138) / 128] = (keys l ++ [-1]) ++ [(k - 138) / 128] by simp,
      dd_len_snoc, dd_len_snoc, dd_len_snoc]
    have e2 : ((k - 138) / 128 ∈ keys l ++ [-1]) ↔ (k - 138) / 128 ∈ tab l := by
      rw [List.mem_append, mem_keys_tab l _ hq]; simp; omega
    simp only [e2, mem_keys_one]
    have e3 : two l = if l.any (fun k => decide (138 ≤ k)) = true then 1 else 0 := rfl
    generalize (l.any fun k => decide (138 ≤ k)) = c at *
    cases c <;> simp at * <;> split <;> omega
  · rw [if_neg h1, if_neg h1, if_neg h1]
    by_cases h2 : 10 ≤ k
    · rw [if_pos h2, if_pos ⟨h2, by omega⟩, dd_len_snoc]
      simp only [mem_keys_two, List.append_nil]
      have e3 : one l = if l.any (fun k => decide (10 ≤ k ∧ k < 138)) = true then 1 else 0 := rfl
      generalize (l.any fun k => decide (10 ≤ k ∧ k < 138)) = c at *
      cases c <;> simp at * <;> omega
    · rw [if_neg h2, if_neg (by omega)]; simpa using h
theorem keys_len_go : ∀ (r l : List Int), (dd (keys l)).length = one l + two l + (dd (tab l)).length → (dd (keys (l ++ r))).length = one (l ++ r) + two (l ++ r) + (dd (tab (l ++ r))).length
  | [], l, h => by simpa using h
  | k :: r, l, h => by
    have := keys_len_go r (l ++ [k]) (keys_len_aux l k h)
    simpa using this
theorem keys_len (l : List Int) : (dd (keys l)).length = one l + two l + (dd (tab l)).length := by
  have := keys_len_go l [] rfl
  simpa using this
/-- The two ways to count. -/
theorem count_eq (l : List Int) : count l = (dd l).length + (dd (keys l)).length := by rw [keys_len, count]; omega

/-- The map has just these keys. -/
structure Holds {H : Type} (D : DataW H) (S : List Int) : Prop where
  tidy : Tidy D
  has : ∀ k : Int, Maps.has D (.int .i64 k) = decide (k ∈ S)
  size : Maps.size D = (dd S).length

theorem Holds.empty {H : Type} : Holds (.map [] : DataW H) [] := ⟨tidy_empty, fun _ => rfl, rfl⟩
theorem Holds.put {H : Type} {D : DataW H} {S : List Int} (h : Holds D S) (k : Int) (hk : WideAt.IsKeyLit (.int .i64 k)) (d : DataW H) : Holds (D.put (.int .i64 k) d) (S ++ [k]) where
  tidy := h.tidy.put hk d
  has := fun x => by
    by_cases e : x = k
    · subst e; rw [has_put_same h.tidy.isMap hk]; simp
    · rw [has_put_other (by simpa using e), h.has]; simp [e]
  size := by
    rw [size_put h.tidy, h.has, h.size, dd_len_snoc]; simp
end Tk
end Go.Proofs.YtegplehbcdeeoaaGreatDoor
/- What the file system in memory does, as a plain function of its tree. No program in sight. -/
namespace Go.Proofs.YtegplehbcdeeoaaGreatDoor
namespace Fs
/-- A piece: its bytes. -/
abbrev Pc := List UInt8
/-- An inode. -/
structure Nd where
  kind : Int
  links : Int
  size : Int
  pieces : Al Int Pc
  names : Al Tx Int
  blocks : Int
  text : Tx
/-- All inodes. -/
abbrev Tree := Al Int Nd
def modN (s : Tree) (i : Int) (f : Nd → Nd) : Tree := s.map fun p => if p.1 = i then (p.1, f p.2) else p

/-! Paths. -/
/-- The pieces that aren't a dot. -/
def dotless (l : List Tx) : List Tx := l.filter fun p => decide (p ≠ [46])
/-- The components, if they are neither too long nor too many. -/
def comps (s : Tx) : Option (List Tx) := if s.length ≤ 1024 ∧ (∀ p ∈ Pk.pcs s, p.length ≤ 27) ∧ (dotless (Pk.pcs s)).length ≤ 32 then some (dotless (Pk.pcs s)) else none
def wrong (s : Tx) (path : Bool) : Bool := decide (s = [] ∨ (0 : UInt8) ∈ s ∨ (path = true ∧ s.head? ≠ some 47))
def parse (s : Tx) : Except Int (List Tx) := if wrong s true then .error 1 else match comps s with
  | none => .error 130
  | some l => .ok l
def textP (s : Tx) : Except Int (List Tx × Bool) := if wrong s false then .error 1 else match comps s with
  | none => .error 130
  | some l => .ok (l, decide (s.head? = some 47))
def lastP (s : Tx) : Tx := (Pk.pcs s).getLast?.getD []
def make (s : Tx) : Except Int (List Tx × Tx) := if wrong s true then .error 1 else if lastP s = [46] ∨ lastP s = [46, 46] then .error 1 else match comps s with
  | none => .error 130
  | some l => .ok (l.dropLast, l.getLast?.getD [])

/-! Where a path leads. -/
structure Place where
  chain : List Int
  name : Tx
  inode : Int
def Place.dir (p : Place) : Int := p.chain.getLast?.getD 0
def namesOf (s : Tree) (d : Int) : Al Tx Int := ((get s d).map (·.names)).getD []
def goes (s : Tree) (behind follow : Bool) (parts : List Tx) (chain : List Int) (n : Nat) : Except Int Place :=
  match parts with
  | [] => .ok ⟨chain, [], chain.getLast?.getD 0⟩
  | c :: r =>
    if c = [46, 46] then goes s behind follow r (chain.take (max 1 (chain.length - 1))) n
    else match get (namesOf s (chain.getLast?.getD 0)) c with
      | none => .error 160
      | some m => match get s m with
        | none => .error 0
        | some x =>
          if x.kind = 2 ∧ (behind = true ∨ r ≠ []) then goes s behind follow r (chain ++ [m]) n
          else if x.kind = 3 ∧ (behind = true ∨ r ≠ [] ∨ follow = true) then
            (if _h : 8 ≤ n then .error 162 else match textP x.text with
              | .error e => .error e
              | .ok (more, top) => goes s behind follow (more ++ r) (if top then [1] else chain) (n + 1))
          else if behind = true ∨ r ≠ [] then .error 161
          else .ok ⟨chain, c, m⟩
  termination_by (9 - n, parts.length)
def toP (s : Tree) (p : Tx) (follow : Bool) : Except Int Place := match parse p with
  | .error e => .error e
  | .ok parts => goes s false follow parts [1] 0
def nameP (s : Tree) (p : Tx) : Except Int Place := match make p with
  | .error e => .error e
  | .ok (parts, nm) => if nm = [] then .ok ⟨[1], [], 1⟩ else match goes s true true parts [1] 0 with
    | .error e => .error e
    | .ok q => .ok ⟨q.chain, nm, (get (namesOf s q.dir) nm).getD 0⟩
/-- How deep the deepest name below lies. -/
def height (s : Tree) : Nat → Int → Int
  | 0, _ => 0
  | k + 1, i => (namesOf s i).foldl (fun h p => max h (if ((get s p.2).map (·.kind)) = some 2 then 1 + height s k p.2 else 1)) 0

/-! Blocks. -/
def indices (x : Nd) : List Int :=
  if x.kind = 1 then x.pieces.map (·.1)
  else if x.kind = 2 then (List.range x.blocks.toNat).map Int.ofNat
  else if x.kind = 3 then (List.range ((x.text.length + 511) / 512)).map Int.ofNat
  else []
def tkN (l : List Int) : Int := if Tk.far l then 0 else Tk.count l
def blocksOf (x : Nd) : Int := tkN (indices x)
def taken (s : Tree) : Int := (s.map fun p => blocksOf p.2).sum
def dataAt (n : Int) : Int := 98 + (n + 4095) / 4096 + n / 64
def countOf (n : Int) : Int := n / 64 * 8

/-! What turns. -/
def linksN (s : Tree) (i d : Int) : Tree := modN s i fun x => { x with links := x.links + d }
/-- The first free number. -/
def freeFrom (s : Tree) : Nat → Int → Option Int
  | 0, _ => none
  | k + 1, i => if get s i = none then some i else freeFrom s k (i + 1)
def freeN (n : Int) (s : Tree) : Option Int := freeFrom s (countOf n - 1).toNat 1
def putN (s : Tree) (d : Int) (nm : Tx) (i : Int) : Tree := modN s d fun x =>
  if (x.names.length : Int) = x.blocks * 16 then { x with blocks := x.blocks + 1, size := (x.blocks + 1) * 512, names := put x.names nm i } else { x with names := put x.names nm i }
def takeN (s : Tree) (d : Int) (nm : Tx) : Tree := modN s d fun x => { x with names := del x.names nm }
def replN (s : Tree) (d : Int) (nm : Tx) (i : Int) : Tree := modN s d fun x => { x with names := put x.names nm i }
def kindOf (s : Tree) (i : Int) : Int := ((get s i).map (·.kind)).getD 0
def linksOf (s : Tree) (i : Int) : Int := ((get s i).map (·.links)).getD 0
/-- A name is taken off; what is left of it, if it is held. -/
def loseN (s : Tree) (i : Int) (hold : Bool) : Tree × Int :=
  if 0 < linksOf s i - 1 then (linksN s i (-1), 0) else if hold = true ∧ kindOf s i = 1 then (linksN s i (-1), i) else (del (linksN s i (-1)) i, 0)

/-- What a call came to: the tree, whether something was noted, a number. -/
abbrev Did := Except Int (Tree × Bool × Int)
def fresh (n : Int) (s : Tree) (p : Tx) (x : Nd) : Did := match nameP s p with
  | .error e => .error e
  | .ok q => if q.inode ≠ 0 then .error 150 else if 32 < q.chain.length then .error 130 else match freeN n s with
    | none => .error 90
    | some i => .ok (if x.kind = 2 then linksN (putN (put s i x) q.dir q.name i) q.dir 1 else putN (put s i x) q.dir q.name i, true, i)
def linkD (s : Tree) (old other : Tx) : Did := match parse old with
  | .error e => .error e
  | .ok _ => match make other with
    | .error e => .error e
    | .ok _ => match toP s old false with
      | .error e => .error e
      | .ok a => match nameP s other with
        | .error e => .error e
        | .ok q => if kindOf s a.inode = 2 then .error 173 else if q.inode ≠ 0 then .error 150 else if 1000 ≤ linksOf s a.inode then .error 174 else if 32 < q.chain.length then .error 130
          else .ok (putN (linksN s a.inode 1) q.dir q.name a.inode, true, 0)
def unlinkD (s : Tree) (p : Tx) (hold : Bool) : Did := match nameP s p with
  | .error e => .error e
  | .ok q => if q.name = [] then .error 170 else if q.inode = 0 then .error 160 else if kindOf s q.inode = 2 then .error 170
    else .ok ((loseN (takeN s q.dir q.name) q.inode hold).1, true, (loseN (takeN s q.dir q.name) q.inode hold).2)
def rmdirD (s : Tree) (p : Tx) : Did := match nameP s p with
  | .error e => .error e
  | .ok q => if q.name = [] then .error 172 else if q.inode = 0 then .error 160 else if kindOf s q.inode ≠ 2 then .error 161 else if (namesOf s q.inode).length ≠ 0 then .error 171
    else .ok (del (linksN (takeN s q.dir q.name) q.dir (-1)) q.inode, true, 0)
def moveD (s : Tree) (a b : Place) (hold : Bool) : Did :=
  if b.inode ≠ 0 ∧ kindOf s b.inode = 2 ∧ kindOf s a.inode ≠ 2 then .error 170
  else if b.inode ≠ 0 ∧ kindOf s b.inode ≠ 2 ∧ kindOf s a.inode = 2 then .error 161
  else if kindOf s a.inode = 2 ∧ a.inode ∈ b.chain then .error 1
  else if b.inode ≠ 0 ∧ kindOf s b.inode = 2 ∧ 0 < (namesOf s b.inode).length then .error 171
  else if 32 < (b.chain.length : Int) + (if kindOf s a.inode = 2 then height s 40 a.inode else 0) then .error 130
  else
    let s1 := if kindOf s a.inode = 2 then linksN (linksN s a.dir (-1)) b.dir 1 else s
    if b.inode = 0 then .ok (putN (takeN s1 a.dir a.name) b.dir b.name a.inode, true, 0)
    else
      let s2 := takeN (replN s1 b.dir b.name a.inode) a.dir a.name
      if kindOf s b.inode = 2 then .ok (del (linksN s2 b.dir (-1)) b.inode, true, 0)
      else .ok ((loseN s2 b.inode hold).1, true, (loseN s2 b.inode hold).2)
def renameD (s : Tree) (old other : Tx) (hold : Bool) : Did := match make old with
  | .error e => .error e
  | .ok _ => match make other with
    | .error e => .error e
    | .ok _ => match nameP s old with
      | .error e => .error e
      | .ok a => if a.inode = 0 then .error 160 else match nameP s other with
        | .error e => .error e
        | .ok b => if a.name = [] ∨ b.name = [] then .error 172 else if b.inode = a.inode then .ok (s, false, 0) else moveD s a b hold

/-! A file's bytes. -/
def zeroPc : Pc := List.replicate 512 0
def pieceAt (x : Nd) (k : Int) : Pc := (get x.pieces k).getD zeroPc
def byteAt (x : Nd) (at_ : Nat) : UInt8 := (pieceAt x ((at_ / 512 : Nat) : Int)).getD (at_ % 512) 0
def readN (x : Nd) (off size : Int) : Tx := if x.size ≤ off then [] else (List.range (min size (x.size - off)).toNat).map fun j => byteAt x (off.toNat + j)
def writeGo (l : Al Int Pc) : Nat → Nat → Tx → Al Int Pc
  | 0, _, _ => l
  | k + 1, off, s => if s = [] then l else
    let i : Int := ((off / 512 : Nat) : Int)
    let p := (get l i).getD zeroPc
    let c := s.take (512 - off % 512)
    writeGo (put l i (p.take (off % 512) ++ c ++ p.drop (off % 512 + c.length))) k (off + c.length) (s.drop (512 - off % 512))
def writeD (s : Tree) (i off : Int) (t : Tx) : Did :=
  if 8459264 - off < (t.length : Int) then .error 120
  else if t = [] then .ok (s, false, 0)
  else .ok (modN s i fun x => { x with pieces := writeGo x.pieces (t.length + 1) off.toNat t, size := max x.size (off + t.length) }, true, 0)
def cutPieces (l : Al Int Pc) (size : Int) : Al Int Pc := l.filter fun p => decide (p.1 * 512 < size)
def cutN (x : Nd) (size : Int) : Nd :=
  if size < x.size then
    { x with size := size, pieces := match get (cutPieces x.pieces size) (size / 512) with
      | none => cutPieces x.pieces size
      | some p => put (cutPieces x.pieces size) (size / 512) (p.take (size % 512).toNat ++ List.replicate (512 - (size % 512).toNat) 0) }
  else { x with size := size }
def sizeOf (s : Tree) (i : Int) : Int := ((get s i).map (·.size)).getD 0
def cutD (s : Tree) (i size : Int) : Did := if 8459264 < size then .error 120 else if size = sizeOf s i then .ok (s, false, 0) else .ok (modN s i (cutN · size), true, 0)

/-! Calls. -/
structure Call where
  kind : Int
  path : Tx
  other : Tx
  off : Int
  size : Int
  data : Tx
structure Stat where
  inode : Int
  kind : Int
  links : Int
  size : Int
  blocks : Int
structure Room where
  freeB : Int
  blocks : Int
  freeI : Int
  inodes : Int
structure Ans where
  err : Int := 0
  n : Int := 0
  data : Tx := []
  stat : Stat := ⟨0, 0, 0, 0, 0⟩
  names : List Tx := []
  room : Room := ⟨0, 0, 0, 0⟩
/-- A call is done; where there is no room, or it was refused, all is as it was. -/
def fin (n : Int) (s : Tree) (r : Did) : Tree × Except Int Int := match r with
  | .error e => (s, .error e)
  | .ok (s', k, v) => if k = true ∧ n - dataAt n < taken s' then (s, .error 90) else (s', .ok v)
def ansN (r : Tree × Except Int Int) : Tree × Ans := match r.2 with
  | .error e => (r.1, { err := e })
  | .ok v => (r.1, { n := v })
def ansE (v : Int) (r : Tree × Except Int Int) : Tree × Ans := match r.2 with
  | .error e => (r.1, { err := e })
  | .ok _ => (r.1, { n := v })
def fileP (s : Tree) (p : Tx) : Except Int Int := match toP s p true with
  | .error e => .error e
  | .ok q => if kindOf s q.inode = 2 then .error 170 else .ok q.inode
def openP (s : Tree) (i : Int) : Except Int Int := match get s i with
  | none => .error 110
  | some x => if x.kind = 2 then .error 170 else if x.kind ≠ 1 then .error 1 else .ok i
def ndAt (s : Tree) (i : Int) : Nd := (get s i).getD ⟨0, 0, 0, [], [], 0, []⟩
def statN (i : Int) (x : Nd) : Stat := ⟨i, x.kind, x.links, x.size, blocksOf x⟩
def tell (s : Tree) (c : Call) : Ans := match toP s c.path (decide (c.kind = 12 ∨ c.kind = 14)) with
  | .error e => { err := e }
  | .ok q =>
    let x := ndAt s q.inode
    if c.kind = 11 then (if x.kind ≠ 3 then { err := 1 } else { data := x.text })
    else if c.kind = 14 then (if x.kind ≠ 2 then { err := 161 } else { names := x.names.map (·.1) })
    else { stat := statN q.inode x }
def newFile : Nd := ⟨1, 1, 0, [], [], 0, []⟩
def newDir : Nd := ⟨2, 2, 0, [], [], 0, []⟩
def newLink (t : Tx) : Nd := ⟨3, 1, t.length, [], [], 0, t⟩
def doC (n : Int) (s : Tree) (c : Call) : Tree × Ans :=
  if c.kind = 1 then ansN (fin n s (fresh n s c.path newFile))
  else if c.kind = 2 then ansN (fin n s (fresh n s c.path newDir))
  else if c.kind = 10 then (match textP c.other with
    | .error e => (s, { err := e })
    | .ok _ => ansN (fin n s (fresh n s c.path (newLink c.other))))
  else if c.kind = 3 then (if c.off < 0 ∨ c.size < 0 ∨ 16384 < c.size then (s, { err := 1 }) else match fileP s c.path with
    | .error e => (s, { err := e })
    | .ok i => (s, { data := readN (ndAt s i) c.off c.size, n := (readN (ndAt s i) c.off c.size).length }))
  else if c.kind = 4 then (if c.off < 0 ∨ 16384 < c.data.length then (s, { err := 1 }) else match fileP s c.path with
    | .error e => (s, { err := e })
    | .ok i => match openP s i with
      | .error e => (s, { err := e })
      | .ok i => ansE c.data.length (fin n s (writeD s i c.off c.data)))
  else if c.kind = 5 then (if c.size < 0 then (s, { err := 1 }) else match fileP s c.path with
    | .error e => (s, { err := e })
    | .ok i => match openP s i with
      | .error e => (s, { err := e })
      | .ok i => ansE 0 (fin n s (cutD s i c.size)))
  else if c.kind = 6 then ansE 0 (fin n s (unlinkD s c.path false))
  else if c.kind = 7 then ansE 0 (fin n s (rmdirD s c.path))
  else if c.kind = 8 then ansE 0 (fin n s (renameD s c.path c.other false))
  else if c.kind = 9 then ansE 0 (fin n s (linkD s c.path c.other))
  else if c.kind = 11 ∨ c.kind = 12 ∨ c.kind = 13 ∨ c.kind = 14 then (s, tell s c)
  else if c.kind = 15 then (s, { room := ⟨n - dataAt n - taken s, n - dataAt n, countOf n - 1 - s.length, countOf n - 1⟩ })
  else (s, { err := 1 })
def root : Tree := [(1, newDir)]
end Fs
end Go.Proofs.YtegplehbcdeeoaaGreatDoor
