/- A call under way: what was written since it began; how that is kept from step to step. -/
import Derived.Test.YtlnnbjgfpiefdaaGreatRamB12
import Derived.Test.YtlnnbjgfpiefdaaGreatRamB09
import Derived.Test.YtlnnbjgfpiefdaaGreatRamB07
namespace Go.Proofs.YtlnnbjgfpiefdaaGreat
open Go.RowKit Go.Maps Go.Shelf

namespace Fs
/-- Since W0 only the file system's blocks, those of Z and newer ones were written. -/
structure Now (W0 : World) (L0 : Lay) (Z : Nat → Prop) (fb : Nat) (n : Int) (nb : Nat) (W : World) (L : Lay) (uv : Value) (vals : List Value) (s : Tree) : Prop where
  st : St W L fb n nb uv vals L0 s
  step : Step W0 (MineZ L0 (.slice none 0 0) Z) W (MineZ L uv Z)
  z : ∀ x, Z x → x < W0.heap.size ∧ ¬ Mine L uv x
section
variable {W0 W W' : World} {L0 L : Lay} {Z : Nat → Prop} {fb : Nat} {n : Int} {nb : Nat} {uv : Value} {vals : List Value} {s : Tree}
theorem Now.start (h : Sim W L fb n nb (.slice none 0 0) []) (hw : WF L nb) (hz : ∀ x, Z x → x < W.heap.size ∧ ¬ Mine L (.slice none 0 0) x) : Now W L Z fb n nb W L (.slice none 0 0) [] (stOf L nb) :=
  ⟨⟨h, .nil L (Ex.refl L), hw, rfl⟩, Step.refl _ _, hz⟩
theorem Now.size (h : Now W0 L0 Z fb n nb W L uv vals s) : W0.heap.size ≤ W.heap.size := h.step.size
theorem Now.same (h : Now W0 L0 Z fb n nb W L uv vals s) (ho : W'.os = W.os) (ht : W'.tape = W.tape) (hu : W'.output = W.output) (hs : W.heap.size ≤ W'.heap.size) (hk : ∀ b, (b < W0.heap.size ∧ ¬ Z b) ∨ Mine L uv b → W'.heap[b]? = W.heap[b]?) : Now W0 L0 Z fb n nb W' L uv vals s :=
  ⟨⟨h.st.sim.same hs (fun b hb => hk b (.inr hb)), h.st.ch, h.st.wf, h.st.st⟩, ⟨ho.trans h.step.os, ht.trans h.step.tape, hu.trans h.step.output, Nat.le_trans h.step.size hs, fun k h1 h2 => ⟨(hk k (.inl ⟨h1, fun e => h2 (.inr e)⟩)).trans (h.step.block k h1 h2).1, (h.step.block k h1 h2).2⟩⟩, h.z⟩
theorem Now.below (h : Now W0 L0 Z fb n nb W L uv vals s) (hb : Below W.heap.size W W') : Now W0 L0 Z fb n nb W' L uv vals s :=
  h.same hb.os hb.tape hb.output hb.size fun b e => hb.block b (by
    rcases e with e | e
    · have := h.size; omega
    · exact h.st.sim.mine_lt e)
theorem Now.alloc (h : Now W0 L0 Z fb n nb W L uv vals s) (o : Obj) : Now W0 L0 Z fb n nb (W.alloc o) L uv vals s := h.below ((Below.refl _ _).alloc (Nat.le_refl _) o)
theorem Now.drew (h : Now W0 L0 Z fb n nb W L uv vals s) : Now W0 L0 Z fb n nb W.drew L uv vals s := h.below (Below.refl _ _).drew
theorem Now.setCell (h : Now W0 L0 Z fb n nb W L uv vals s) {p : Addr} (hp : W0.heap.size ≤ p.block ∨ Z p.block) (hm : ¬ Mine L uv p.block) (v : Value) : Now W0 L0 Z fb n nb (W.setCell p v) L uv vals s :=
  h.same rfl rfl rfl (by simp) fun b e => Below.heap_setCell _ _ _ _ (by
    rintro rfl
    rcases e with ⟨e1, e2⟩ | e
    · rcases hp with hp | hp
      · omega
      · exact e2 hp
    · exact hm e)
theorem Now.setZ (h : Now W0 L0 Z fb n nb W L uv vals s) {p : Addr} (hz : Z p.block) (v : Value) : Now W0 L0 Z fb n nb (W.setCell p v) L uv vals s := h.setCell (.inr hz) (h.z _ hz).2 v
/-- Behind one of the file system's own steps. -/
theorem Now.after (h : Now W0 L0 Z fb n nb W L uv vals s) {k : Nat} {adr : Int → Nat → Prop} {s' : Tree} (ha : After W L uv fb n nb L0 k adr s' W') :
    ∃ L' uv' vals', Now W0 L0 Z fb n nb W' L' uv' vals' s' ∧ Step W (Mine L uv) W' (Mine L' uv') ∧ vals'.length ≤ k ∧ vals' ≠ [] ∧ ∀ i b, adr i b → Adr L' nb i b := by
  obtain ⟨L', uv', vals', h1, h2, h3, h4, h5, _⟩ := ha
  exact ⟨L', uv', vals', ⟨h1, h.step.trans (h2.z Z), fun x hx => ⟨(h.z x hx).1, (h2.block x (Nat.lt_of_lt_of_le (h.z x hx).1 h.size) (h.z x hx).2).2⟩⟩, h2, h3, h4, h5⟩
/-- A block beside the file system. -/
def Off (W : World) (L : Lay) (uv : Value) (b : Nat) (xs : Array Value) (t : TypeId) : Prop := Blk W b xs t ∧ ¬ Mine L uv b
theorem Off.step {b : Nat} {xs : Array Value} {t : TypeId} {L' : Lay} {uv' : Value} (h : Off W L uv b xs t) (hs : Step W (Mine L uv) W' (Mine L' uv')) : Off W' L' uv' b xs t :=
  ⟨h.1.same (hs.block b h.1.lt h.2).1, (hs.block b h.1.lt h.2).2⟩
theorem Off.below {b : Nat} {xs : Array Value} {t : TypeId} (h : Off W L uv b xs t) (hb : Below W.heap.size W W') : Off W' L uv b xs t := ⟨h.1.same (hb.block b h.1.lt), h.2⟩
theorem Off.lt {b : Nat} {xs : Array Value} {t : TypeId} (h : Off W L uv b xs t) : b < W.heap.size := h.1.lt
theorem Off.alloc {b : Nat} {xs : Array Value} {t : TypeId} (h : Off W L uv b xs t) (o : Obj) : Off (W.alloc o) L uv b xs t := h.below ((Below.refl _ _).alloc (Nat.le_refl _) o)
theorem Off.drew {b : Nat} {xs : Array Value} {t : TypeId} (h : Off W L uv b xs t) : Off W.drew L uv b xs t := h.below (Below.refl _ _).drew
theorem Off.other {b : Nat} {xs : Array Value} {t : TypeId} (h : Off W L uv b xs t) {p : Addr} (hp : b ≠ p.block) (v : Value) : Off (W.setCell p v) L uv b xs t := ⟨h.1.same (Below.heap_setCell _ _ _ _ hp), h.2⟩
theorem Off.set {b : Nat} {xs : Array Value} {t : TypeId} (h : Off W L uv b xs t) (j : Nat) (v : Value) : Off (W.setCell ⟨b, j, none⟩ v) L uv b (xs.setIfInBounds j v) t := ⟨h.1.set j v, h.2⟩
theorem Off.new (h : Now W0 L0 Z fb n nb W L uv vals s) (xs : Array Value) (t : TypeId) : Off (W.alloc (.cells xs t (0, 0))) L uv W.heap.size xs t := ⟨Blk.new W xs t, h.st.sim.not_mine (Nat.le_refl _)⟩
/-- A row beside the file system. -/
def OffRow (W : World) (L : Lay) (uv : Value) (t : TypeId) (v : Value) (n : Nat) (xs : List Value) : Prop := (∃ base, W.ownsRow base t 1 v n xs) ∧ ∀ g, v.ownBlock = some g → ¬ Mine L uv g
theorem OffRow.step {t : TypeId} {v : Value} {k : Nat} {xs : List Value} {L' : Lay} {uv' : Value} (h : OffRow W L uv t v k xs) (hs : Step W (Mine L uv) W' (Mine L' uv')) : OffRow W' L' uv' t v k xs := by
  obtain ⟨⟨base, hb⟩, hg⟩ := h
  exact ⟨⟨base, row_same hb fun g e => (hs.block g (hb.lt g e).2 (hg g e)).1⟩, fun g e => (hs.block g (hb.lt g e).2 (hg g e)).2⟩
theorem OffRow.below {t : TypeId} {v : Value} {k : Nat} {xs : List Value} (h : OffRow W L uv t v k xs) (hb : Below W.heap.size W W') : OffRow W' L uv t v k xs := by
  obtain ⟨⟨base, h1⟩, hg⟩ := h
  exact ⟨⟨base, row_same h1 fun g e => hb.block g (h1.lt g e).2⟩, hg⟩
theorem OffRow.alloc {t : TypeId} {v : Value} {k : Nat} {xs : List Value} (h : OffRow W L uv t v k xs) (o : Obj) : OffRow (W.alloc o) L uv t v k xs := h.below ((Below.refl _ _).alloc (Nat.le_refl _) o)
theorem OffRow.drew {t : TypeId} {v : Value} {k : Nat} {xs : List Value} (h : OffRow W L uv t v k xs) : OffRow W.drew L uv t v k xs := h.below (Below.refl _ _).drew
theorem OffRow.other {t : TypeId} {v : Value} {k : Nat} {xs : List Value} (h : OffRow W L uv t v k xs) {p : Addr} (hp : v.ownBlock ≠ some p.block) (x : Value) : OffRow (W.setCell p x) L uv t v k xs := by
  obtain ⟨⟨base, h1⟩, hg⟩ := h
  exact ⟨⟨base, row_same h1 fun g e => Below.heap_setCell _ _ _ _ (fun c => hp (by rw [e, c]))⟩, hg⟩
/-- A row that a call made. -/
theorem OffRow.new {W1 : World} (h : Now W0 L0 Z fb n nb W L uv vals s) {t : TypeId} {v : Value} {k : Nat} {xs : List Value} (ho : W1.ownsRow W.heap.size t 1 v k xs) : OffRow W1 L uv t v k xs :=
  ⟨⟨_, ho⟩, fun g e => h.st.sim.not_mine (ho.lt g e).1⟩
end
end Fs
end Go.Proofs.YtlnnbjgfpiefdaaGreat
/- The tree's changes, told inode by inode. No program in sight. -/
namespace Go.Proofs.YtlnnbjgfpiefdaaGreat
namespace Fs
theorem get_mod (s : Tree) (i j : Int) (f : Nd → Nd) : get (modN s i f) j = if j = i then (get s i).map f else get s j := by
  unfold modN get
  rw [List.find?_map]
  have : ((fun p : Int × Nd => decide (p.1 = j)) ∘ fun p : Int × Nd => if p.1 = i then (p.1, f p.2) else p) = fun p => decide (p.1 = j) := funext fun p => by
    simp only [Function.comp]; split <;> rfl
  rw [this]
  split
  · rename_i e
    subst e
    cases hf : s.find? (fun p => decide (p.1 = j)) with
    | none => rfl
    | some p =>
      have := List.find?_some hf
      simp only [decide_eq_true_eq] at this
      simp [this]
  · rename_i e
    cases hf : s.find? (fun p => decide (p.1 = j)) with
    | none => rfl
    | some p =>
      have := List.find?_some hf
      simp only [decide_eq_true_eq] at this
      simp [this, e]
theorem Rising.mod {s : Tree} (h : Rising s) (i : Int) (f : Nd → Nd) : Rising (modN s i f) := by
  unfold modN Rising
  rw [List.pairwise_map]
  refine List.Pairwise.imp (fun {a b} hab => ?_) h
  have e : ∀ p : Int × Nd, (if p.1 = i then (p.1, f p.2) else p).1 = p.1 := fun p => by split <;> rfl
  rw [e, e]; exact hab
theorem length_mod (s : Tree) (i : Int) (f : Nd → Nd) : (modN s i f).length = s.length := by unfold modN; rw [List.length_map]
theorem field_mod {α : Type} (s : Tree) (i j : Int) (f : Nd → Nd) (g : Nd → α) (hf : ∀ x, g (f x) = g x) : (get (modN s i f) j).map g = (get s j).map g := by
  rw [get_mod]
  split
  · rename_i e; rw [e, Option.map_map]; congr 1; exact funext hf
  · rfl
theorem kindOf_mod (s : Tree) (i j : Int) (f : Nd → Nd) (hf : ∀ x, (f x).kind = x.kind) : kindOf (modN s i f) j = kindOf s j := by unfold kindOf; rw [field_mod s i j f _ hf]
theorem linksOf_mod (s : Tree) (i j : Int) (f : Nd → Nd) (hf : ∀ x, (f x).links = x.links) : linksOf (modN s i f) j = linksOf s j := by unfold linksOf; rw [field_mod s i j f _ hf]
theorem namesOf_mod (s : Tree) (i j : Int) (f : Nd → Nd) (hf : ∀ x, (f x).names = x.names) : namesOf (modN s i f) j = namesOf s j := by unfold namesOf; rw [field_mod s i j f _ hf]
theorem kindOf_putN (s : Tree) (d : Int) (nm : Tx) (i j : Int) : kindOf (putN s d nm i) j = kindOf s j := kindOf_mod _ _ _ _ fun x => by split <;> rfl
theorem linksOf_putN (s : Tree) (d : Int) (nm : Tx) (i j : Int) : linksOf (putN s d nm i) j = linksOf s j := linksOf_mod _ _ _ _ fun x => by split <;> rfl
theorem kindOf_takeN (s : Tree) (d : Int) (nm : Tx) (j : Int) : kindOf (takeN s d nm) j = kindOf s j := kindOf_mod _ _ _ _ fun _ => rfl
theorem linksOf_takeN (s : Tree) (d : Int) (nm : Tx) (j : Int) : linksOf (takeN s d nm) j = linksOf s j := linksOf_mod _ _ _ _ fun _ => rfl
theorem kindOf_replN (s : Tree) (d : Int) (nm : Tx) (i j : Int) : kindOf (replN s d nm i) j = kindOf s j := kindOf_mod _ _ _ _ fun _ => rfl
theorem linksOf_replN (s : Tree) (d : Int) (nm : Tx) (i j : Int) : linksOf (replN s d nm i) j = linksOf s j := linksOf_mod _ _ _ _ fun _ => rfl
theorem kindOf_linksN (s : Tree) (i d j : Int) : kindOf (linksN s i d) j = kindOf s j := kindOf_mod _ _ _ _ fun _ => rfl
theorem namesOf_linksN (s : Tree) (i d j : Int) : namesOf (linksN s i d) j = namesOf s j := namesOf_mod _ _ _ _ fun _ => rfl
theorem linksOf_linksN' (s : Tree) (i d j : Int) : linksOf (linksN s i d) j = if j = i ∧ get s i ≠ none then linksOf s j + d else linksOf s j := by
  unfold linksOf linksN
  rw [get_mod]
  by_cases e : j = i
  · subst e
    rw [if_pos rfl]
    cases h : get s j with
    | none => simp
    | some x => simp
  · rw [if_neg e, if_neg (fun c => e c.1)]
theorem kindOf_put {s : Tree} (h : Rising s) (i : Int) (x : Nd) (j : Int) : kindOf (put s i x) j = if j = i then x.kind else kindOf s j := by
  unfold kindOf
  rw [get_put s h]
  split <;> rfl
theorem linksOf_put {s : Tree} (h : Rising s) (i : Int) (x : Nd) (j : Int) : linksOf (put s i x) j = if j = i then x.links else linksOf s j := by
  unfold linksOf
  rw [get_put s h]
  split <;> rfl
theorem namesOf_put {s : Tree} (h : Rising s) (i : Int) (x : Nd) (j : Int) : namesOf (put s i x) j = if j = i then x.names else namesOf s j := by
  unfold namesOf
  rw [get_put s h]
  split <;> rfl
theorem get_mem {κ ν : Type} [DecidableEq κ] {l : Al κ ν} {k : κ} {v : ν} (h : get l k = some v) : (k, v) ∈ l := by
  unfold get at h
  cases hf : l.find? (fun p => decide (p.1 = k)) with
  | none => rw [hf] at h; cases h
  | some p =>
    rw [hf] at h
    have h1 := List.find?_some hf
    have h2 := List.mem_of_find?_eq_some hf
    simp only [decide_eq_true_eq] at h1
    simp only [Option.map_some, Option.some.injEq] at h
    rw [← h1, ← h]; exact h2
theorem freeFrom_some {s : Tree} : ∀ {k : Nat} {i j : Int}, freeFrom s k i = some j → get s j = none ∧ i ≤ j ∧ j < i + k
  | 0, _, _, h => by cases h
  | k + 1, i, j, h => by
    unfold freeFrom at h
    split at h
    · rename_i e; cases h; exact ⟨e, by omega, by omega⟩
    · obtain ⟨h1, h2, h3⟩ := freeFrom_some h; exact ⟨h1, by omega, by omega⟩
theorem freeN_some {n : Int} {s : Tree} {i : Int} (h : freeN n s = some i) : get s i = none ∧ 1 ≤ i ∧ i ≤ countOf n := by
  unfold freeN at h
  obtain ⟨h1, h2, h3⟩ := freeFrom_some h
  exact ⟨h1, h2, by omega⟩
/-! Without the order of the entries. -/
section
variable {κ ν : Type} [DecidableEq κ]
theorem get_del' (l : Al κ ν) (k k' : κ) : get (del l k) k' = if k' = k then none else get l k' := by
  unfold get del
  rw [List.find?_filter]
  split
  · rename_i e
    subst e
    rw [List.find?_eq_none.2 (by intro x _; by_cases c : x.1 = k' <;> simp [c])]; rfl
  · rename_i e
    congr 2
    funext x
    by_cases c : x.1 = k'
    · simp [c, e]
    · simp [c]
theorem length_del_le (l : Al κ ν) (k : κ) : (del l k).length ≤ l.length := List.length_filter_le _ _
theorem length_del_lt {l : Al κ ν} {k : κ} {v : ν} (h : get l k = some v) : (del l k).length < l.length := by
  have hm := get_mem h
  have h0 : 0 < l.length := List.length_pos_of_mem hm
  rcases Nat.lt_or_ge (del l k).length l.length with e | e
  · exact e
  · have := List.length_filter_eq_length_iff.1 (Nat.le_antisymm (length_del_le l k) e)
    have := this _ hm
    simp at this
end
section
variable {κ ν : Type} [DecidableEq κ] [Key κ]
theorem get_ins' (x : κ × ν) (k' : κ) : ∀ l : Al κ ν, (∀ p ∈ l, p.1 ≠ x.1) → get (ins x l) k' = if k' = x.1 then some x.2 else get l k'
  | [], _ => by
    unfold ins get
    by_cases c : k' = x.1
    · subst c; simp
    · have : ¬ x.1 = k' := fun e => c e.symm
      simp [c, this]
  | y :: r, h => by
    have hy := h y (by simp)
    have ih := get_ins' x k' r (fun p hp => h p (by simp [hp]))
    unfold ins
    split
    · unfold get
      rw [List.find?_cons]
      by_cases c : k' = x.1
      · subst c; simp
      · have : ¬ x.1 = k' := fun e => c e.symm
        simp [c, this]
    · unfold get at ih ⊢
      rw [List.find?_cons, List.find?_cons]
      by_cases c : y.1 = k'
      · have : ¬ k' = x.1 := fun e => hy (c.trans e)
        simp [c, this]
      · simp [c]
        simpa using ih
theorem get_put' (l : Al κ ν) (k k' : κ) (v : ν) : get (put l k v) k' = if k' = k then some v else get l k' := by
  unfold put
  rw [get_ins' _ _ _ (fun p hp => (mem_del.1 hp).2), get_del']
  dsimp only
  split <;> rfl
theorem length_put' (l : Al κ ν) (k : κ) (v : ν) : (put l k v).length = (del l k).length + 1 := by
  have := (put_perm l k v).length_eq
  rw [List.length_cons] at this; exact this
end
theorem namesOf_takeN (s : Tree) (d : Int) (nm : Tx) (e : Int) : namesOf (takeN s d nm) e = if e = d then del (namesOf s d) nm else namesOf s e := by
  unfold namesOf takeN
  rw [get_mod]
  split
  · cases get s d <;> rfl
  · rfl
theorem namesOf_replN (s : Tree) (d : Int) (nm : Tx) (i e : Int) : namesOf (replN s d nm i) e = if e = d ∧ get s d ≠ none then put (namesOf s d) nm i else namesOf s e := by
  unfold namesOf replN
  rw [get_mod]
  by_cases c : e = d
  · subst c
    rw [if_pos rfl]
    cases get s e with
    | none => simp
    | some x => simp
  · rw [if_neg c, if_neg (fun h => c h.1)]
theorem blocks_mod {s : Tree} {i j : Int} {f : Nd → Nd} (hf : ∀ y, (f y).blocks = y.blocks) {x : Nd} (h : get (modN s i f) j = some x) : ∃ y, get s j = some y ∧ x.blocks = y.blocks := by
  have := field_mod s i j f (·.blocks) hf
  rw [h] at this
  cases hg : get s j with
  | none => rw [hg] at this; cases this
  | some y => rw [hg] at this; simp only [Option.map_some, Option.some.injEq] at this; exact ⟨y, rfl, this⟩
/-- A tree that is another one but for links. -/
structure Base (s s1 : Tree) : Prop where
  kind : ∀ i, kindOf s1 i = kindOf s i
  names : ∀ i, namesOf s1 i = namesOf s i
  blocks : ∀ i x, get s1 i = some x → ∃ y, get s i = some y ∧ x.blocks = y.blocks
  links : ∀ i, linksOf s i - 2 ≤ linksOf s1 i ∧ linksOf s1 i ≤ linksOf s i + 2
  len : s1.length = s.length
  there : ∀ i, (get s1 i).isSome = (get s i).isSome
theorem Base.refl (s : Tree) : Base s s := ⟨fun _ => rfl, fun _ => rfl, fun _ x h => ⟨x, h, rfl⟩, fun _ => ⟨by omega, by omega⟩, rfl, fun _ => rfl⟩
theorem isSome_mod (s : Tree) (i j : Int) (f : Nd → Nd) : (get (modN s i f) j).isSome = (get s j).isSome := by
  rw [get_mod]
  split
  · rename_i e; rw [e]; cases get s i <;> rfl
  · rfl
theorem Base.two (s : Tree) (d e : Int) : Base s (linksN (linksN s d (-1)) e 1) := by
  refine ⟨fun i => by rw [kindOf_linksN, kindOf_linksN], fun i => by rw [namesOf_linksN, namesOf_linksN], fun i x h => ?_, fun i => ?_, by unfold linksN; rw [length_mod, length_mod], fun i => by unfold linksN; rw [isSome_mod, isSome_mod]⟩
  · obtain ⟨y, h1, h2⟩ := blocks_mod (f := fun x : Nd => { x with links := x.links + 1 }) (fun _ => rfl) h
    obtain ⟨z, h3, h4⟩ := blocks_mod (f := fun x : Nd => { x with links := x.links + -1 }) (fun _ => rfl) h1
    exact ⟨z, h3, h2.trans h4⟩
  · rw [linksOf_linksN', linksOf_linksN']
    constructor <;> split <;> split <;> omega
end Fs
end Go.Proofs.YtlnnbjgfpiefdaaGreat
/- An inode with a name is made. -/
namespace Go.Proofs.YtlnnbjgfpiefdaaGreat
open Go.RowKit Go.Maps Go.Shelf

namespace Fs
/-- What a tree keeps for the calls that change it. -/
structure Fit (s : Tree) : Prop extends Good s where
  many : ∀ i x, get s i = some x → x.names.length ≤ 1000000 ∧ 0 ≤ x.blocks ∧ x.blocks ≤ 1000000 ∧ -1000000 ≤ x.links ∧ x.links ≤ 1000000
  len : s.length ≤ 1000000
  pos : ∀ i x, get s i = some x → i ≠ 0
/-- The result's box holds it. -/
def Holds (bi : Nat) (t : TypeId) (v : Int) (W : World) : Prop := Blk W bi #[.int .i64 v] t
section
variable {W : World} {L : Lay} {fb : Nat} {n : Int} {nb : Nat} {uv : Value} {vals : List Value} {L0 : Lay} {s : Tree}
theorem add_yes (h : St W L fb n nb uv vals L0 s) (hlen : vals.length ≤ 100000000000) (hn1 : 128 ≤ n) (hn2 : n ≤ 16384) {b : Nat} {hd : Hd} (hb : L b = some (.node hd)) (hbn : ∀ i, ¬ Adr L nb i b) (hml : s.length ≤ 1000000) {i : Int} (hf : freeN n s = some i) :
    Calls Tryz.prog 67 #[.pointer (some ⟨fb, 0, none⟩), .pointer (some ⟨b, 0, none⟩)] W fun e W' => e = .returned (.tuple #[.int .i64 i, .int .i64 0]) ∧ 1 ≤ i ∧ i ≤ 10000 ∧ After W L uv fb n nb L0 (vals.length + 1) (fun j c => Adr L nb j c ∨ (j = i ∧ c = b)) (put s i (ndOf L hd)) W' := by
  refine (add_st h hlen hn1 hn2 hb hbn hml).mono ?_
  rintro e W' (⟨j, h1, h2, h3, h4, h5⟩ | ⟨h1, _⟩)
  · rw [hf] at h1; cases h1
    rw [ndAtB_of hb] at h5
    exact ⟨h2, h3, h4, h5⟩
  · rw [hf] at h1; cases h1
theorem add_no (h : St W L fb n nb uv vals L0 s) (hlen : vals.length ≤ 100000000000) (hn1 : 128 ≤ n) (hn2 : n ≤ 16384) {b : Nat} {hd : Hd} (hb : L b = some (.node hd)) (hbn : ∀ i, ¬ Adr L nb i b) (hml : s.length ≤ 1000000) (hf : freeN n s = none) :
    Calls Tryz.prog 67 #[.pointer (some ⟨fb, 0, none⟩), .pointer (some ⟨b, 0, none⟩)] W fun e W' => e = .returned (.tuple #[.int .i64 0, .int .i64 90]) ∧ Below W.heap.size W W' := by
  refine (add_st h hlen hn1 hn2 hb hbn hml).mono ?_
  rintro e W' (⟨j, h1, h2, h3, h4, h5⟩ | ⟨_, h2, h3⟩)
  · rw [hf] at h1; cases h1
  · exact ⟨h2, h3⟩
end
section
variable {W : World} {L : Lay} {fb : Nat} {n : Int} {nb : Nat}
set_option maxRecDepth 100000 in
set_option maxHeartbeats 4000000 in
theorem fresh1_st (h : Sim W L fb n nb (.slice none 0 0) []) (hw : WF L nb) (hF : Fit (stOf L nb)) (hn1 : 128 ≤ n) (hn2 : n ≤ 16384) (p : Tx) (hp : p.length ≤ 140737488355328) {nd : Nat} {hd : Hd} (hnd : L nd = some (.node hd)) (hnn : ∀ i, ¬ Adr L nb i nd) (bf bp bx bi : Nat)
    (hbf : Off W L (.slice none 0 0) bf #[evP fb] 23) (hbp : Off W L (.slice none 0 0) bp #[.string (mk p)] 9) (hbx : Off W L (.slice none 0 0) bx #[evP nd] 61) {v0 : Int} (hbi : Off W L (.slice none 0 0) bi #[.int .i64 v0] 3) (h1 : bi ≠ bf) (h3 : bi ≠ bx)
    (hto : ∀ s' t v, fresh n (stOf L nb) p (ndOf L hd) = .ok (s', t, v) → TOk s') :
    Body fb n nb L (· = bi) (Holds bi 3) (fresh n (stOf L nb) p (ndOf L hd)) W 66 #[evP bf, evP bp, evP bx, evP bi] := by
  have N0 : Now W L (· = bi) fb n nb W L (.slice none 0 0) [] (stOf L nb) := .start h hw fun x e => by rw [e]; exact ⟨hbi.lt, hbi.2⟩
  have HT := name_st h hw hF.toGood p hp
  have f0 : W.cell? ⟨bf, 0, none⟩ = some (.pointer (some ⟨fb, 0, none⟩)) := hbf.1.cell 0
  have f1 : W.cell? ⟨bp, 0, none⟩ = some (.string (mk p)) := hbp.1.cell 0
  have f2 : W.cell? ⟨bx, 0, none⟩ = some (.pointer (some ⟨nd, 0, none⟩)) := hbx.1.cell 0
  unfold Body evP
  unfold fresh at hto ⊢
  cases hnp : nameP (stOf L nb) p with
  | error z =>
    rw [hnp] at HT
    go_enter Tryz.func66, Tryz.ntmps66
    go_wp2_with (go_at_call 46; refine HT.mono ?_; rintro e w3 ⟨⟨rfl, hzn⟩, hb3⟩; have hzb := (bne_iff_ne.2 hzn))
    go_ret
    have N1 := (N0.below hb3).alloc (.cells #[.slice none 0 0, .string (mk []), .int .i64 0] 99)
    exact ⟨L, _, [], _, N1.st, N1.step, by simp, fun x e => (N1.z x e).2, rfl, hzn, v0, ((hbi.below hb3).alloc _).1⟩
  | ok q =>
    obtain ⟨ht, hl, hnml, hq⟩ := nameP_ok hnp hF.root
    rw [hnp] at HT hto
    have hqc := ht.ne
    have hlk : kindOf (stOf L nb) q.dir = 2 := ht.dirs _ ht.last
    obtain ⟨x0, hx0⟩ : ∃ x, get (stOf L nb) q.dir = some x := by
      cases e : get (stOf L nb) q.dir with
      | none => unfold kindOf at hlk; rw [e] at hlk; cases hlk
      | some x => exact ⟨x, rfl⟩
    obtain ⟨d, had, _⟩ := Adr.of_st hx0
    obtain ⟨hd1, hd2⟩ := hF.ids _ x0 hx0
    obtain ⟨m1, m2, m3, m4, m5⟩ := hF.many _ x0 hx0
    dsimp only at hto ⊢
    by_cases c1 : q.inode ≠ 0
    · rw [if_pos c1]
      have hzb := bne_iff_ne.2 c1
      clear hto hlk hx0 hq ht
      go_enter Tryz.func66, Tryz.ntmps66
      go_wp2_with (go_at_call 46; refine HT.mono ?_; rintro e w3 ⟨hR3, hb3⟩; obtain ⟨v3, rfl, hown3⟩ := hR3; obtain ⟨ao3, c3, rfl, _⟩ := own_shape2 hown3; have N1 := (N0.below hb3).alloc (.cells #[.slice ao3 q.chain.length c3, .string (mk q.name), .int .i64 q.inode] 99))
      go_ret
      have N1 := (N0.below hb3).alloc (.cells #[.slice ao3 q.chain.length c3, .string (mk q.name), .int .i64 q.inode] 99)
      exact ⟨L, _, [], _, N1.st, N1.step, by simp, fun x e => (N1.z x e).2, rfl, by decide, v0, ((hbi.below hb3).alloc _).1⟩
    have hzb : (q.inode != 0) = false := by simpa using c1
    rw [if_neg c1] at hto ⊢
    by_cases c2 : 32 < q.chain.length
    · rw [if_pos c2]
      clear hto hlk hx0 hq ht c1
      go_enter Tryz.func66, Tryz.ntmps66
      go_wp2_with (go_at_call 46; refine HT.mono ?_; rintro e w3 ⟨hR3, hb3⟩; obtain ⟨v3, rfl, hown3⟩ := hR3; obtain ⟨ao3, c3, rfl, _⟩ := own_shape2 hown3; have N1 := (N0.below hb3).alloc (.cells #[.slice ao3 q.chain.length c3, .string (mk q.name), .int .i64 q.inode] 99))
      go_ret
      have N1 := (N0.below hb3).alloc (.cells #[.slice ao3 q.chain.length c3, .string (mk q.name), .int .i64 q.inode] 99)
      exact ⟨L, _, [], _, N1.st, N1.step, by simp, fun x e => (N1.z x e).2, rfl, by decide, v0, ((hbi.below hb3).alloc _).1⟩
    rw [if_neg c2] at hto ⊢
    cases hfr : freeN n (stOf L nb) with
    | none =>
      clear hto hlk hx0 hq ht c1
      go_enter Tryz.func66, Tryz.ntmps66
      go_wp2_with (first | (go_at_call 46; refine HT.mono ?_; rintro e w3 ⟨hR3, hb3⟩; obtain ⟨v3, rfl, hown3⟩ := hR3; obtain ⟨ao3, c3, rfl, _⟩ := own_shape2 hown3; have N1 := (N0.below hb3).alloc (.cells #[.slice ao3 q.chain.length c3, .string (mk q.name), .int .i64 q.inode] 99); have g0 := (hb3.cell (p := ⟨bf, 0, none⟩) hbf.lt).trans f0; have g2 := (hb3.cell (p := ⟨bx, 0, none⟩) hbx.lt).trans f2; have l0 := Nat.lt_of_lt_of_le hbf.lt hb3.size; have l2 := Nat.lt_of_lt_of_le hbx.lt hb3.size) | (go_at_call 67; refine (add_no N1.st (by simp) hn1 hn2 hnd hnn hF.len hfr).mono ?_; rintro e w5 ⟨rfl, hb5⟩; have N5 := N1.below hb5; have bi5 := (((hbi.below hb3).alloc _).below hb5); have g5 := bi5.1.cell 0; have g6 := bi5.1.free 0))
      go_ret
      have N6 := N5.setZ (p := ⟨bi, 0, none⟩) rfl (.int .i64 0)
      exact ⟨L, _, [], _, N6.st, N6.step, by simp, fun x e => (N6.z x e).2, rfl, by decide, 0, bi5.1.set 0 _⟩
    | some i =>
      obtain ⟨hfi1, hfi2, hfi3⟩ := freeN_some hfr
      rw [hfr] at hto
      dsimp only at hto ⊢
      obtain ⟨T, hT⟩ : ∃ T, T = (if (ndOf L hd).kind = 2 then linksN (putN (put (stOf L nb) i (ndOf L hd)) q.dir q.name i) q.dir 1 else putN (put (stOf L nb) i (ndOf L hd)) q.dir q.name i) := ⟨_, rfl⟩
      rw [← hT] at hto ⊢
      have hto' := hto _ _ _ rfl
      have HT0 := Lib.hid (And.intro hT hto')
      clear hto hto' hT
      go_enter Tryz.func66, Tryz.ntmps66
      go_wp2_with (first | (go_at_call 46; refine HT.mono ?_; rintro e w3 ⟨hR3, hb3⟩; obtain ⟨v3, rfl, hown3⟩ := hR3; obtain ⟨ao3, c3, rfl, _⟩ := own_shape2 hown3; have N1 := (N0.below hb3).alloc (.cells #[.slice ao3 q.chain.length c3, .string (mk q.name), .int .i64 q.inode] 99); have g0 := (hb3.cell (p := ⟨bf, 0, none⟩) hbf.lt).trans f0; have g2 := (hb3.cell (p := ⟨bx, 0, none⟩) hbx.lt).trans f2; have l0 := Nat.lt_of_lt_of_le hbf.lt hb3.size; have l2 := Nat.lt_of_lt_of_le hbx.lt hb3.size) | (go_at_call 67; refine (add_yes N1.st (by simp) hn1 hn2 hnd hnn hF.len hfr).mono ?_; rintro e w5 ⟨rfl, hi1, hi2, ha⟩; obtain ⟨L5, uv5, vals5, N5, T5, len5, ne5, adr5⟩ := N1.after ha; have bi5 := ((hbi.below hb3).alloc _).step T5; have g5 := bi5.1.cell 0; have g6 := bi5.1.free 0))
      obtain ⟨X, hX⟩ : ∃ x, x = w5.setCell ⟨bi, 0, none⟩ (.int .i64 i) := ⟨_, rfl⟩
      rw [← hX]
      have hne0 : w3.heap.size ≠ bi := by have := hb3.size; have := hbi.lt; omega
      have NX : Now W L (· = bi) fb n nb X L5 uv5 vals5 (put (stOf L nb) i (ndOf L hd)) := by rw [hX]; exact N5.setZ (p := ⟨bi, 0, none⟩) rfl _
      have bfX : Off X L5 uv5 bf #[evP fb] 23 := by rw [hX]; exact (((hbf.below hb3).alloc _).step T5).other (p := ⟨bi, 0, none⟩) h1.symm _
      have bxX : Off X L5 uv5 bx #[evP nd] 61 := by rw [hX]; exact (((hbx.below hb3).alloc _).step T5).other (p := ⟨bi, 0, none⟩) h3.symm _
      have biX : Off X L5 uv5 bi #[.int .i64 i] 3 := by rw [hX]; exact bi5.set 0 _
      have plX : Off X L5 uv5 w3.heap.size #[.slice ao3 q.chain.length c3, .string (mk q.name), .int .i64 q.inode] 99 := by rw [hX]; exact ((Off.new (N0.below hb3) _ _).step T5).other (p := ⟨bi, 0, none⟩) hne0 _
      have rwX : OffRow X L5 uv5 3 (.slice ao3 q.chain.length c3) q.chain.length (Tk.cs q.chain) := by
        rw [hX]; exact (((OffRow.new N0 hown3).alloc _).step T5).other (p := ⟨bi, 0, none⟩) (fun e => by have h9 : W.heap.size ≤ bi := (hown3.lt _ e).1; have := hbi.lt; omega) _
      have hrs := hw.st_rising
      have hid : q.dir ≠ i := fun e => by rw [e, hfi1] at hx0; cases hx0
      have hs5 : get (put (stOf L nb) i (ndOf L hd)) q.dir = some x0 := by rw [get_put_other _ hrs hid]; exact hx0
      have hno5 : namesOf (put (stOf L nb) i (ndOf L hd)) q.dir = x0.names := by unfold namesOf; rw [hs5]; rfl
      have hk5 : kindOf (put (stOf L nb) i (ndOf L hd)) q.dir = 2 := by rw [kindOf_put hrs, if_neg hid]; exact hlk
      have hl5 : linksOf (putN (put (stOf L nb) i (ndOf L hd)) q.dir q.name i) q.dir = x0.links := by rw [linksOf_putN, linksOf_put hrs, if_neg hid]; unfold linksOf; rw [hx0]; rfl
      have hkn : kindOf (putN (put (stOf L nb) i (ndOf L hd)) q.dir q.name i) i = hd.kind := by rw [kindOf_putN, kindOf_put hrs, if_pos rfl]; rfl
      have hng : get x0.names q.name = none := by
        cases hm : get x0.names q.name with
        | none => rfl
        | some m =>
          exfalso
          have hm' : get (namesOf (stOf L nb) q.dir) q.name = some m := by unfold namesOf; rw [hx0]; exact hm
          have h0 : m = 0 := by
            rcases hq with ⟨_, e, _⟩ | ⟨_, e⟩
            · omega
            · rw [hm'] at e; simp only [Option.getD_some] at e; omega
          have := hF.closed q.dir _ (get_mem hm')
          cases hgm : get (stOf L nb) m with
          | none => rw [show (q.name, m).2 = m from rfl, hgm] at this; cases this
          | some y => exact hF.pos m y hgm h0
      have had5 : Adr L5 nb q.dir d := adr5 _ _ (.inl had)
      have hnd5 : Adr L5 nb i nd := adr5 _ _ (.inr ⟨rfl, rfl⟩)
      have hdir : ∀ w6, Below X.heap.size X w6 → Calls Tryz.prog 50 #[.agg #[.slice ao3 q.chain.length c3, .string (mk q.name), .int .i64 q.inode]] w6 fun e w7 => e = .returned (.int .i64 q.dir) ∧ Below w6.heap.size w6 w7 := fun w6 h6 => by
        obtain ⟨⟨_, ho⟩, _⟩ := rwX.below h6
        exact dir_any ho hqc (by omega) _ _
      have hput : ∀ w6, Below X.heap.size X w6 → Calls Tryz.prog 61 #[.pointer (some ⟨fb, 0, none⟩), .int .i64 q.dir, .string (mk q.name), .int .i64 i] w6 fun e w7 => e = .returned (.tuple #[]) ∧ After w6 L5 uv5 fb n nb L (vals5.length + 3) (Adr L5 nb) (putN (put (stOf L nb) i (ndOf L hd)) q.dir q.name i) w7 := fun w6 h6 =>
        put_st (NX.below h6).st (by simp at len5; omega) had5 hd1 hd2 hk5 _ (by omega) (by rw [hno5]; exact hng) (by rw [hno5]; exact m1) _ (fun x hx => by rw [hs5] at hx; cases hx; exact ⟨m2, m3⟩)
      have Hd := Lib.hid hdir
      have Hp := Lib.hid hput
      have xf : X.cell? ⟨bf, 0, none⟩ = some (.pointer (some ⟨fb, 0, none⟩)) := bfX.1.cell 0
      have xp0 : X.cell? ⟨w3.heap.size, 0, none⟩ = some (.slice ao3 q.chain.length c3) := plX.1.cell 0
      have xp1 : X.cell? ⟨w3.heap.size, 1, none⟩ = some (.string (mk q.name)) := plX.1.cell 1
      have xp2 : X.cell? ⟨w3.heap.size, 2, none⟩ = some (.int .i64 q.inode) := plX.1.cell 2
      have xi : X.cell? ⟨bi, 0, none⟩ = some (.int .i64 i) := biX.1.cell 0
      have lf := bfX.lt
      have lp := plX.lt
      have li := biX.lt
      generalize hpb : w3.heap.size = pb at *
      have Hall := Lib.hid (And.intro hX (And.intro T5 (And.intro g0 (And.intro g2 (And.intro g5 (And.intro g6 (And.intro f0 (And.intro f1 (And.intro f2 (And.intro hs5 (And.intro hno5 (And.intro hk5 (And.intro hng (And.intro hq (And.intro hx0 (And.intro hfi1 (And.intro hl5 hkn)))))))))))))))))
      clear hX g0 g2 g5 g6 f0 f1 f2 hs5 hno5 hk5 hng hq hx0 hfi1 hdir hput T5 hl5 hkn ha hnp hpb hzb c1 hlk adr5 HT hfr hne0 N1 hown3
      go_region_held3 (fun w' => w'.cell? ⟨bf, 0, none⟩ = some (.pointer (some ⟨fb, 0, none⟩)) ∧ w'.cell? ⟨pb, 0, none⟩ = some (.slice ao3 q.chain.length c3) ∧ w'.cell? ⟨pb, 1, none⟩ = some (.string (mk q.name)) ∧ w'.cell? ⟨pb, 2, none⟩ = some (.int .i64 q.inode) ∧ w'.cell? ⟨bi, 0, none⟩ = some (.int .i64 i)) (refine ⟨?_, ?_, ?_, ?_, ?_⟩ <;> assumption) (first | (go_at_call 61; have hc := Hp; unfold Hid at hc; refine (hc _ hb6').mono ?_; clear hc; rintro e w7 ⟨rfl, ha7⟩; obtain ⟨L7, uv7, vals7, N7, T7, len7, ne7, adr7⟩ := (NX.below hb6').after ha7; have bf7 := (bfX.below hb6').step T7; have bx7 := (bxX.below hb6').step T7; have bi7 := (biX.below hb6').step T7; have pl7 := (plX.below hb6').step T7; have rw7 := (rwX.below hb6').step T7; have k1 : w7.cell? ⟨bf, 0, none⟩ = some (.pointer (some ⟨fb, 0, none⟩)) := bf7.1.cell 0; have k2 : w7.cell? ⟨pb, 0, none⟩ = some (.slice ao3 q.chain.length c3) := pl7.1.cell 0; have k3 : w7.cell? ⟨pb, 1, none⟩ = some (.string (mk q.name)) := pl7.1.cell 1; have k4 : w7.cell? ⟨pb, 2, none⟩ = some (.int .i64 q.inode) := pl7.1.cell 2; have k5 : w7.cell? ⟨bi, 0, none⟩ = some (.int .i64 i) := bi7.1.cell 0) | (go_at_call 50; have hc := Hd; unfold Hid at hc; refine (hc _ (Below.refl _ _).drew).mono ?_; clear hc; rintro e w6 ⟨rfl, hb6⟩; have hb6' : Below X.heap.size X w6 := ⟨hb6.os, hb6.tape, hb6.output, hb6.size, hb6.block⟩; have j1 := (hb6.cell (p := ⟨bf, 0, none⟩) lf).trans xf; have j2 := (hb6.cell (p := ⟨pb, 0, none⟩) lp).trans xp0; have j3 := (hb6.cell (p := ⟨pb, 1, none⟩) lp).trans xp1; have j4 := (hb6.cell (p := ⟨pb, 2, none⟩) lp).trans xp2; have j5 := (hb6.cell (p := ⟨bi, 0, none⟩) li).trans xi))
      obtain ⟨hX, T5, g0, g2, g5, g6, f0, f1, f2, hs5, hno5, hk5, hng, hq, hx0, hfi1, hl5, hkn⟩ := Hall
      have hnd7 := adr7 _ _ hnd5
      have had7 := adr7 _ _ had5
      obtain ⟨_, _, _, _, k0, _⟩ := N7.st.node hnd7
      rw [hkn] at k0
      have k6 : w7.cell? ⟨bx, 0, none⟩ = some (.pointer (some ⟨nd, 0, none⟩)) := bx7.1.cell 0
      have len7' : vals7.length ≤ 10 := by simp at len5; omega
      by_cases hkd : hd.kind = 2
      · have hkb : (hd.kind == 2) = true := by rw [hkd]; rfl
        have hdir : ∀ w8, Below w7.heap.size w7 w8 → Calls Tryz.prog 50 #[.agg #[.slice ao3 q.chain.length c3, .string (mk q.name), .int .i64 q.inode]] w8 fun e w9 => e = .returned (.int .i64 q.dir) ∧ Below w8.heap.size w8 w9 := fun w8 h8 => by
          obtain ⟨⟨_, ho⟩, _⟩ := rw7.below h8
          exact dir_any ho hqc (by omega) _ _
        have hat : ∀ w8, Below w7.heap.size w7 w8 → Calls Tryz.prog 40 #[.pointer (some ⟨fb, 0, none⟩), .int .i64 q.dir] w8 fun e w9 => e = .returned (.pointer (some ⟨d, 0, none⟩)) ∧ w8 = w9 := fun w8 h8 => at_st (N7.below h8).st.sim N7.st.wf had7 hd1 hd2
        have hlinks : ∀ w8, Below w7.heap.size w7 w8 → Calls Tryz.prog 53 #[.pointer (some ⟨fb, 0, none⟩), .pointer (some ⟨d, 0, none⟩), .int .i64 1] w8 fun e w9 => e = .returned (.tuple #[]) ∧ After w8 L7 uv7 fb n nb L (vals7.length + 1) (Adr L7 nb) (linksN (putN (put (stOf L nb) i (ndOf L hd)) q.dir q.name i) q.dir 1) w9 := fun w8 h8 =>
          links_st (N7.below h8).st (by omega) had7 1 (by rw [hl5]; exact m4) (by rw [hl5]; exact m5) (by omega) (by omega)
        have Hd7 := Lib.hid hdir
        have Ha7 := Lib.hid hat
        have Hl7 := Lib.hid hlinks
        have Hall := Lib.hid (And.intro hX (And.intro hkd hfi1))
        have lf7 := bf7.lt
        have lp7 := pl7.lt
        clear hX T5 g0 g2 g5 g6 f0 f1 f2 hs5 hno5 hk5 hng hq hx0 hfi1 hl5 hkn hkd hdir hat hlinks ha7
        go_wp2_with (go_at_call 48; refine (isDir_any _ k0).mono ?_; rintro e w' ⟨rfl, rfl⟩; rw [hkb])
        go_region_held3 (fun w' => w'.cell? ⟨bf, 0, none⟩ = some (.pointer (some ⟨fb, 0, none⟩)) ∧ w'.cell? ⟨pb, 0, none⟩ = some (.slice ao3 q.chain.length c3) ∧ w'.cell? ⟨pb, 1, none⟩ = some (.string (mk q.name)) ∧ w'.cell? ⟨pb, 2, none⟩ = some (.int .i64 q.inode)) (refine ⟨?_, ?_, ?_, ?_⟩ <;> assumption) (first | (go_at_call 53; have hc := Hl7; unfold Hid at hc; refine (hc _ hb9').mono ?_; clear hc; rintro e wA ⟨rfl, haA⟩; obtain ⟨LA, uvA, valsA, NA, TA, lenA, neA, adrA⟩ := (N7.below hb9').after haA; have bfA := (bf7.below hb9').step TA; have biA := (bi7.below hb9').step TA; have plA := (pl7.below hb9').step TA; have o1 : wA.cell? ⟨bf, 0, none⟩ = some (.pointer (some ⟨fb, 0, none⟩)) := bfA.1.cell 0; have o2 : wA.cell? ⟨pb, 0, none⟩ = some (.slice ao3 q.chain.length c3) := plA.1.cell 0; have o3 : wA.cell? ⟨pb, 1, none⟩ = some (.string (mk q.name)) := plA.1.cell 1; have o4 : wA.cell? ⟨pb, 2, none⟩ = some (.int .i64 q.inode) := plA.1.cell 2) | (go_at_call 40; have hc := Ha7; unfold Hid at hc; refine (hc _ hb8').mono ?_; clear hc; rintro e w9 ⟨rfl, rfl⟩; have hb9' := hb8') | (go_at_call 50; have hc := Hd7; unfold Hid at hc; refine (hc _ (Below.refl _ _).drew).mono ?_; clear hc; rintro e w8 ⟨rfl, hb8⟩; have hb8' : Below w7.heap.size w7 w8 := ⟨hb8.os, hb8.tape, hb8.output, hb8.size, hb8.block⟩; have j1 := (hb8'.cell (p := ⟨bf, 0, none⟩) lf7).trans k1; have j2 := (hb8'.cell (p := ⟨pb, 0, none⟩) lp7).trans k2; have j3 := (hb8'.cell (p := ⟨pb, 1, none⟩) lp7).trans k3; have j4 := (hb8'.cell (p := ⟨pb, 2, none⟩) lp7).trans k4))
        go_wp2_with fail
        go_ret
        obtain ⟨_, hkd, _⟩ := Hall
        obtain ⟨hT, hto'⟩ := HT0
        rw [if_pos (show (ndOf L hd).kind = 2 from hkd)] at hT
        exact ⟨LA, uvA, valsA, _, NA.st, NA.step, by omega, fun x e => (NA.z x e).2, rfl, hT.symm, by simp [neA], biA.1, hto'⟩
      · have hkb : (hd.kind == 2) = false := by rw [beq_eq_false_iff_ne]; exact hkd
        have Hall := Lib.hid (And.intro hX (And.intro hkd hfi1))
        clear hX T5 g0 g2 g5 g6 f0 f1 f2 hs5 hno5 hk5 hng hq hx0 hfi1 hl5 hkn hkd ha7
        go_wp2_with (go_at_call 48; refine (isDir_any _ k0).mono ?_; rintro e w' ⟨rfl, rfl⟩; rw [hkb])
        go_ret
        obtain ⟨_, hkd, _⟩ := Hall
        obtain ⟨hT, hto'⟩ := HT0
        rw [if_neg (show ¬ (ndOf L hd).kind = 2 from hkd)] at hT
        exact ⟨L7, uv7, vals7, _, N7.st, N7.step, by omega, fun x e => (N7.z x e).2, rfl, hT.symm, by simp [ne7], bi7.1, hto'⟩
end
end Fs
end Go.Proofs.YtlnnbjgfpiefdaaGreat
