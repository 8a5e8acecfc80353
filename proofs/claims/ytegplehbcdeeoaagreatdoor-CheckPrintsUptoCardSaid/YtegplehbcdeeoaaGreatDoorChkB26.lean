/- All that is found in an image: plain. -/
import Derived.Test.YtegplehbcdeeoaaGreatDoorChkB22
import Derived.Test.YtegplehbcdeeoaaGreatDoorChkB23
import Derived.Test.YtegplehbcdeeoaaGreatDoorChkB25
import Derived.Test.YtegplehbcdeeoaaGreatDoorChkB12
import Derived.RecoverIn
namespace Go.Proofs.YtegplehbcdeeoaaGreatDoor
open Go.RowKit Go.Maps
namespace Ck
open Pk Pw
/-- Nothing is found out yet. -/
def s00 : St := ⟨[], fun _ => none, fun _ => none, fun _ => none, fun _ => [], fun _ => none, fun _ => none, fun _ => none⟩
def nums1 (n : Nat) (l : B) (s : St) (x : Nat × Rc) : St := numbersS n l x.1 x.2 s
def stA (n : Nat) (l : B) : St := metaS n l s00 (4096 * ((n + 4095) / 4096))
def stB (n : Nat) (l : B) : St := recordsS n l (stA n l) (countN n)
def stC (n : Nat) (l : B) : St := (eachTo (stB n l).nodes (countN n)).foldl (nums1 n l) (stB n l)
def stD (n : Nat) (l : B) : St := takenS n l (stC n l) (n - dataN n)
def stE (n : Nat) (l : B) : St := thingsS n l (stD n l)
def stF (n : Nat) (l : B) : St := reachS (stE n l)
def stG (n : Nat) (l : B) : St := deepS n (stF n l)
def stH (n : Nat) (l : B) : St := endsS n (stG n l)
/-- All findings. -/
def imageP (l : B) : List Fnd :=
  match openP l with
  | .error k => [fnd k 0 0]
  | .ok x => (stH (l.length / 512) x).found
/-- Only what was found, and which blocks are had, changed. -/
structure Kp (s s' : St) : Prop where
  nodes : s'.nodes = s.nodes
  cells : s'.cells = s.cells
  depth : s'.depth = s.depth
  seen : s'.seen = s.seen
  names : s'.names = s.names
theorem Kp.refl (s : St) : Kp s s := ⟨rfl, rfl, rfl, rfl, rfl⟩
theorem Kp.trans {a b c : St} (h : Kp a b) (k : Kp b c) : Kp a c := ⟨k.nodes.trans h.nodes, k.cells.trans h.cells, k.depth.trans h.depth, k.seen.trans h.seen, k.names.trans h.names⟩
theorem Kp.tell (s : St) (f : Fnd) : Kp s (s.tell f) := ⟨rfl, rfl, rfl, rfl, rfl⟩
theorem Kp.fold {α : Type} (f : St → α → St) (h : ∀ s x, Kp s (f s x)) : ∀ (l : List α) (s : St), Kp s (l.foldl f s)
  | [], s => .refl s
  | x :: l, s => (h s x).trans (Kp.fold f h l _)
theorem meetS_kp (n : Nat) (s : St) (nd i : Nat) : Kp s (meetS n s nd i).1 := by
  unfold meetS
  split
  · exact .refl _
  · split
    · exact .tell _ _
    · split
      · exact .tell _ _
      · exact ⟨rfl, rfl, rfl, rfl, rfl⟩
theorem ownT_kp (l : B) (s : St) (nd size k i : Nat) : Kp s (ownT l s nd size k i) := by
  unfold ownT
  split
  · exact .tell _ _
  · split
    · exact .tell _ _
    · exact .refl _
theorem ownS_kp (n : Nat) (l : B) (s : St) (nd size k i : Nat) : Kp s (ownS n l s nd size k i) := by
  unfold ownS
  dsimp only
  split
  · refine Kp.trans ?_ (ownT_kp _ _ _ _ _ _)
    exact Kp.trans (meetS_kp n s nd i) ⟨rfl, rfl, rfl, rfl, rfl⟩
  · exact meetS_kp n s nd i
theorem throughS_kp (b : B) (f : St → Nat → Nat → St) (h : ∀ s k j, Kp s (f s k j)) (s : St) (k : Nat) : Kp s (throughS b f s k) := Kp.fold _ (fun s j => h s j _) _ s
theorem tableS_kp (n : Nat) (l : B) (f : St → Nat → Nat → St) (h : ∀ s k j, Kp s (f s k j)) (s : St) (nd i : Nat) : Kp s (tableS n l f s nd i) := by
  unfold tableS
  dsimp only
  split
  · refine Kp.trans ?_ (throughS_kp _ f h _ _)
    split
    · exact (meetS_kp n s nd i).trans (.tell _ _)
    · exact meetS_kp n s nd i
  · exact meetS_kp n s nd i
theorem numbersS_kp (n : Nat) (l : B) (nd : Nat) (x : Rc) (s : St) : Kp s (numbersS n l nd x s) := by
  unfold numbersS
  refine Kp.trans (Kp.trans ?_ (tableS_kp n l _ (fun s k j => ownS_kp _ _ _ _ _ _ _) _ nd x.one)) (tableS_kp n l _ (fun s j i => ?_) _ nd x.two)
  · exact Kp.fold _ (fun s j => ownS_kp _ _ _ _ _ _ _) _ s
  · exact tableS_kp n l _ (fun s k j => ownS_kp _ _ _ _ _ _ _) _ _ _
theorem takenS_kp (n : Nat) (l : B) (s : St) (k : Nat) : Kp s (takenS n l s k) := by
  refine Kp.fold _ (fun s j => ?_) _ s
  unfold takeS
  split
  · split
    · exact .refl _
    · exact .tell _ _
  · split
    · exact .tell _ _
    · exact .refl _
theorem metaS_kp (n : Nat) (l : B) (s : St) (k : Nat) : Kp s (metaS n l s k) := by
  refine Kp.fold _ (fun s j => ?_) _ s
  split
  · exact .tell _ _
  · exact .refl _
/-- Every block that an inode has lies on the disk. -/
def BS (n : Nat) (f : St → St) : Prop := ∀ s, BlocksOk n s → BlocksOk n (f s)
theorem BS.fold {n : Nat} {α : Type} (f : St → α → St) (h : ∀ x, BS n (fun s => f s x)) (l : List α) : BS n (fun s => l.foldl f s) := by
  intro s hs
  induction l generalizing s with
  | nil => exact hs
  | cons x l ih => exact ih _ (h x s hs)
theorem BlocksOk.tell {n : Nat} {s : St} (h : BlocksOk n s) (f : Fnd) : BlocksOk n (s.tell f) := h
theorem meetS_blocks (n : Nat) (s : St) (nd i : Nat) : (meetS n s nd i).1.blocks = s.blocks := by
  unfold meetS
  split
  · rfl
  · split
    · rfl
    · split <;> rfl
theorem ownS_bs (n : Nat) (l : B) (nd size k i : Nat) : BS n (fun s => ownS n l s nd size k i) := by
  intro s hs
  unfold ownS
  dsimp only
  split
  · rename_i hm
    have hi := (meet_true hm).1
    have : ∀ s1 : St, BlocksOk n s1 → BlocksOk n (ownT l s1 nd size k i) := by
      intro s1 h1
      unfold ownT
      split
      · exact h1
      · split <;> exact h1
    refine this _ ?_
    intro p j hj
    dsimp only at hj
    split at hj
    · cases hj; exact hi
    · rw [meetS_blocks] at hj; exact hs p j hj
  · intro p j hj
    rw [meetS_blocks] at hj
    exact hs p j hj
theorem tableS_bs (n : Nat) (l : B) (f : St → Nat → Nat → St) (h : ∀ k j, BS n (fun s => f s k j)) (nd i : Nat) : BS n (fun s => tableS n l f s nd i) := by
  intro s hs
  have hm : BlocksOk n (meetS n s nd i).1 := fun p j hj => hs p j (by rwa [meetS_blocks] at hj)
  unfold tableS
  dsimp only
  split
  · refine BS.fold (fun s j => f s j (val (sub (sub l (512 * i) 512) (4 * j) 4))) (fun j => h j _) _ _ ?_
    split
    · exact hm
    · exact hm
  · exact hm
theorem numbersS_bs (n : Nat) (l : B) (nd : Nat) (x : Rc) : BS n (numbersS n l nd x) := by
  intro s hs
  unfold numbersS
  refine tableS_bs n l _ (fun j i => ?_) nd x.two _ (tableS_bs n l _ (fun k j => ownS_bs _ _ _ _ _ _) nd x.one _ (BS.fold (fun s j => own1 n l nd x 0 s j (x.dir.getD j 0)) (fun j => ownS_bs _ _ _ _ _ _) _ s hs))
  exact tableS_bs n l _ (fun k j => ownS_bs _ _ _ _ _ _) _ _
/-- What a record that is there keeps to. -/
structure NodeOk (n : Nat) (s : St) : Prop where
  rc : NodesOk s
  may : ∀ i x, s.nodes i = some x → x.kind = 2 ∨ x.kind = 3 → x.size ≤ 8459264
  lt : ∀ i x, s.nodes i = some x → i < countN n
theorem decP_ok {l : B} {x : Rc} (h : decP l = some x) : RcOk x ∧ x.may = true := by
  unfold decP at h
  split at h
  · rename_i k
    cases h
    simp only [Bool.and_eq_true] at k
    exact ⟨⟨(recOf_ok l).dir, (recOf_ok l).lt⟩, k.2⟩
  · cases h
theorem may_size {x : Rc} (h : x.may = true) (hk : x.kind = 2 ∨ x.kind = 3) : x.size ≤ 8459264 := by
  unfold Rc.may at h
  rcases hk with e | e
  · rw [e] at h
    simp only [Bool.and_eq_true, decide_eq_true_eq] at h
    omega
  · rw [e] at h
    simp only [Bool.and_eq_true, decide_eq_true_eq] at h
    omega
theorem recordS_ok (n : Nat) (l : B) (s : St) (j : Nat) (hj : j < countN n) (h : NodeOk n s) : NodeOk n (recordS n l s j) := by
  unfold recordS
  split
  · exact ⟨h.rc, h.may, h.lt⟩
  · rename_i x hx
    obtain ⟨h1, h2⟩ := decP_ok hx
    split
    · exact ⟨h.rc, h.may, h.lt⟩
    · split
      · refine ⟨fun i y hy => ?_, fun i y hy => ?_, fun i y hy => ?_⟩
        all_goals
          dsimp only at hy
          split at hy
        · cases hy; exact h1
        · exact h.rc i y hy
        · cases hy; exact may_size h2
        · exact h.may i y hy
        · rename_i e; subst e; exact hj
        · exact h.lt i y hy
      · exact h
theorem recordsS_ok (n : Nat) (l : B) (s : St) (h : NodeOk n s) : ∀ k, k ≤ countN n → NodeOk n (recordsS n l s k)
  | 0, _ => h
  | k + 1, hk => by
    rw [recordsS_succ]
    exact recordS_ok n l _ k (by omega) (recordsS_ok n l s h k (by omega))
theorem recordS_rest (n : Nat) (l : B) (s : St) (j : Nat) : (recordS n l s j).cells = s.cells ∧ (recordS n l s j).depth = s.depth ∧ (recordS n l s j).seen = s.seen ∧ (recordS n l s j).names = s.names ∧ (recordS n l s j).blocks = s.blocks := by
  unfold recordS
  split
  · exact ⟨rfl, rfl, rfl, rfl, rfl⟩
  · split
    · exact ⟨rfl, rfl, rfl, rfl, rfl⟩
    · split <;> exact ⟨rfl, rfl, rfl, rfl, rfl⟩
theorem recordsS_rest (n : Nat) (l : B) (s : St) : ∀ k, (recordsS n l s k).cells = s.cells ∧ (recordsS n l s k).depth = s.depth ∧ (recordsS n l s k).seen = s.seen ∧ (recordsS n l s k).names = s.names ∧ (recordsS n l s k).blocks = s.blocks
  | 0 => ⟨rfl, rfl, rfl, rfl, rfl⟩
  | k + 1 => by
    rw [recordsS_succ]
    obtain ⟨a, b, c, d, e⟩ := recordS_rest n l (recordsS n l s k) k
    obtain ⟨a2, b2, c2, d2, e2⟩ := recordsS_rest n l s k
    exact ⟨a.trans a2, b.trans b2, c.trans c2, d.trans d2, e.trans e2⟩
/-- What the walk over an image wants of what was found out before. -/
structure Fresh (n : Nat) (s : St) : Prop where
  ok : NodeOk n s
  cells : ∀ k, s.cells k = []
  depth : ∀ k, s.depth k = none
  seen : ∀ k, s.seen k = none
  names : ∀ k, s.names k = none
  blocks : BlocksOk n s
theorem Fresh.kp {n : Nat} {s s' : St} (h : Fresh n s) (k : Kp s s') (hb : BlocksOk n s') : Fresh n s' :=
  ⟨⟨fun i x hx => h.ok.rc i x (by rwa [k.nodes] at hx), fun i x hx => h.ok.may i x (by rwa [k.nodes] at hx), fun i x hx => h.ok.lt i x (by rwa [k.nodes] at hx)⟩,
   fun i => by rw [k.cells]; exact h.cells i, fun i => by rw [k.depth]; exact h.depth i, fun i => by rw [k.seen]; exact h.seen i, fun i => by rw [k.names]; exact h.names i, hb⟩
theorem fresh_0 (n : Nat) : Fresh n s00 := by
  refine ⟨⟨?_, ?_, ?_⟩, fun _ => rfl, fun _ => rfl, fun _ => rfl, fun _ => rfl, ?_⟩
  all_goals
    intro _ _ h
    simp [s00] at h
theorem metaS_bs (n : Nat) (l : B) (k : Nat) : BS n (fun s => metaS n l s k) := by
  refine BS.fold (fun s i => if !isDataP n i && !bitAt (mapB n l) i then s.tell (fnd 3 0 i) else s) (fun i => ?_) _
  intro s hs
  dsimp only
  split <;> exact hs
theorem takenS_bs (n : Nat) (l : B) (k : Nat) : BS n (fun s => takenS n l s k) := by
  refine BS.fold (fun s j => takeS n l s (dataN n + j)) (fun i => ?_) _
  intro s hs
  unfold takeS
  dsimp only
  split <;> split <;> exact hs
theorem fresh_A (n : Nat) (l : B) : Fresh n (stA n l) := (fresh_0 n).kp (metaS_kp _ _ _ _) (metaS_bs n l _ _ (fresh_0 n).blocks)
theorem fresh_B (n : Nat) (l : B) : Fresh n (stB n l) := by
  have h := fresh_A n l
  obtain ⟨a, b, c, d, e⟩ := recordsS_rest n l (stA n l) (countN n)
  exact ⟨recordsS_ok n l _ h.ok _ (Nat.le_refl _), fun i => by unfold stB; rw [a]; exact h.cells i, fun i => by unfold stB; rw [b]; exact h.depth i, fun i => by unfold stB; rw [c]; exact h.seen i, fun i => by unfold stB; rw [d]; exact h.names i, fun p i hi => h.blocks p i (by unfold stB at hi; rwa [e] at hi)⟩
theorem fresh_some {n : Nat} (l : B) {s : St} (h : Fresh n s) (xs : List (Nat × Rc)) : Fresh n (xs.foldl (nums1 n l) s) :=
  h.kp (Kp.fold _ (fun _ _ => numbersS_kp _ _ _ _ _) _ _) (BS.fold (nums1 n l) (fun x => numbersS_bs n l x.1 x.2) xs _ h.blocks)
theorem nums_nodes (n : Nat) (l : B) (s : St) (xs : List (Nat × Rc)) : (xs.foldl (nums1 n l) s).nodes = s.nodes := (Kp.fold _ (fun _ _ => numbersS_kp _ _ _ _ _) _ _).nodes
theorem fresh_C (n : Nat) (l : B) : Fresh n (stC n l) := fresh_some l (fresh_B n l) _
theorem fresh_D (n : Nat) (l : B) : Fresh n (stD n l) := (fresh_C n l).kp (takenS_kp _ _ _ _) (takenS_bs n l _ _ (fresh_C n l).blocks)
/-- What the look at directories leaves as it was. -/
structure Kd (s s' : St) : Prop where
  nodes : s'.nodes = s.nodes
  depth : s'.depth = s.depth
  seen : s'.seen = s.seen
theorem Kd.refl (s : St) : Kd s s := ⟨rfl, rfl, rfl⟩
theorem Kd.trans {a b c : St} (h : Kd a b) (k : Kd b c) : Kd a c := ⟨k.nodes.trans h.nodes, k.depth.trans h.depth, k.seen.trans h.seen⟩
theorem kindS_kd (nd : Nat) (d : Dt) (s2 : St) (nm : B) (ino : Nat) : Kd s2 (kindS nd d s2 nm ino) := by
  unfold kindS
  split
  · exact ⟨rfl, rfl, rfl⟩
  · split
    · exact .refl _
    · split <;> exact ⟨rfl, rfl, rfl⟩
theorem entS_kd (nd : Nat) (d : Dt) (e : Ent) : Kd d.s (entS nd d e).s := by
  unfold entS
  refine Kd.trans ?_ (kindS_kd _ _ _ _ _)
  split <;> exact ⟨rfl, rfl, rfl⟩
theorem entsF_kd (nd : Nat) : ∀ (r : List Ent) (d : Dt), Kd d.s (r.foldl (entS nd) d).s
  | [], _ => .refl _
  | e :: r, d => (entS_kd nd d e).trans (entsF_kd nd r _)
theorem dirB_kd (l : B) (nd : Nat) (d : Dt) (k : Nat) : Kd d.s (dirB l nd d k).1.s := by
  unfold dirB
  split
  · exact ⟨rfl, rfl, rfl⟩
  · split
    · exact ⟨rfl, rfl, rfl⟩
    · exact entsF_kd _ _ _
theorem dirGo_kd (l : B) (nd : Nat) : ∀ (ks : List Nat) (d : Dt), Kd d.s (dirGo l nd ks d).s
  | [], _ => .refl _
  | k :: r, d => by
    unfold dirGo
    split
    · exact dirB_kd l nd d k
    · exact (dirB_kd l nd d k).trans (dirGo_kd l nd r _)
theorem thing1_kd (l : B) (d : Dt) (x : Nat × Rc) : Kd d.s (thing1 l d x).s := by
  unfold thing1
  split
  · exact dirGo_kd _ _ _ _
  · split
    · split <;> exact ⟨rfl, rfl, rfl⟩
    · exact .refl _
theorem thingsF_kd (l : B) : ∀ (xs : List (Nat × Rc)) (d : Dt), Kd d.s (xs.foldl (thing1 l) d).s
  | [], _ => .refl _
  | x :: xs, d => (thing1_kd l d x).trans (thingsF_kd l xs _)
theorem thingsS_kd (n : Nat) (l : B) (s : St) : Kd s (thingsS n l s) := thingsF_kd l _ ⟨s, fun _ => none, fun _ => none⟩
/-- What reaching leaves as it was. -/
structure Kr (s s' : St) : Prop where
  nodes : s'.nodes = s.nodes
  cells : s'.cells = s.cells
  names : s'.names = s.names
  found : s'.found = s.found
theorem Kr.refl (s : St) : Kr s s := ⟨rfl, rfl, rfl, rfl⟩
theorem Kr.trans {a b c : St} (h : Kr a b) (k : Kr b c) : Kr a c := ⟨k.nodes.trans h.nodes, k.cells.trans h.cells, k.names.trans h.names, k.found.trans h.found⟩
theorem reachC_kr (dd : Nat) (p : St × List Nat) (c : Cl) : Kr p.1 (reachC dd p c).1 := by
  unfold reachC
  split
  · exact .refl _
  · split
    · exact .refl _
    · split <;> exact ⟨rfl, rfl, rfl, rfl⟩
theorem reachCs_kr (dd : Nat) : ∀ (l : List Cl) (p : St × List Nat), Kr p.1 (l.foldl (reachC dd) p).1
  | [], _ => .refl _
  | c :: l, p => (reachC_kr dd p c).trans (reachCs_kr dd l _)
theorem reachD_kr (p : St × List Nat) (dd : Nat) : Kr p.1 (reachD p dd).1 := by
  unfold reachD
  split
  · exact .refl _
  · exact reachCs_kr _ _ _
theorem reachDs_kr : ∀ (l : List Nat) (p : St × List Nat), Kr p.1 (l.foldl reachD p).1
  | [], _ => .refl _
  | d :: l, p => (reachD_kr p d).trans (reachDs_kr l _)
theorem reachGo_kr : ∀ (f : Nat) (s : St) (lv : List Nat), Kr s (reachGo f s lv)
  | 0, s, _ => .refl s
  | f + 1, s, lv => by
    unfold reachGo
    split
    · exact .refl _
    · exact (reachDs_kr lv (s, [])).trans (reachGo_kr f _ _)
theorem reachS_kr (s : St) : Kr s (reachS s) := by
  unfold reachS
  split
  · refine Kr.trans ?_ (reachGo_kr _ _ _)
    exact ⟨rfl, rfl, rfl, rfl⟩
  · exact .refl _
theorem count_le {n : Nat} (h : n ≤ 16384) : countN n ≤ 2048 := by unfold countN; omega
/-- Behind the look at directories. -/
structure Late (n : Nat) (s : St) : Prop where
  ok : NodeOk n s
  len : ∀ k, (s.cells k).length ≤ 264352
  lt : ∀ k, ∀ c ∈ s.cells k, c.2 < 4294967296
theorem late_E (n : Nat) (l : B) : Late n (stE n l) ∧ (∀ k, (stE n l).depth k = none) ∧ ∀ k, (stE n l).seen k = none := by
  have h := fresh_D n l
  have k := thingsS_kd n l (stD n l)
  have r := thingsS_rows n l (stD n l) h.cells (fun i x hx hk => h.ok.may i x hx (.inl hk))
  refine ⟨⟨⟨fun i x hx => h.ok.rc i x (by unfold stE at hx; rwa [k.nodes] at hx), fun i x hx => h.ok.may i x (by unfold stE at hx; rwa [k.nodes] at hx), fun i x hx => h.ok.lt i x (by unfold stE at hx; rwa [k.nodes] at hx)⟩, r.1, r.2⟩, fun i => ?_, fun i => ?_⟩
  · unfold stE; rw [k.depth]; exact h.depth i
  · unfold stE; rw [k.seen]; exact h.seen i
theorem Late.kr {n : Nat} {s s' : St} (h : Late n s) (k : s'.nodes = s.nodes) (c : s'.cells = s.cells) : Late n s' :=
  ⟨⟨fun i x hx => h.ok.rc i x (by rwa [k] at hx), fun i x hx => h.ok.may i x (by rwa [k] at hx), fun i x hx => h.ok.lt i x (by rwa [k] at hx)⟩, fun i => by rw [c]; exact h.len i, fun i => by rw [c]; exact h.lt i⟩
theorem ri_E {n : Nat} (hn : n ≤ 16384) (l : B) : RI (stE n l) := by
  obtain ⟨h, hd, _⟩ := late_E n l
  exact ⟨fun i x hx => Nat.lt_of_lt_of_le (h.ok.lt i x hx) (count_le hn), fun j v hj => by rw [hd j] at hj; cases hj⟩
theorem late_F (n : Nat) (l : B) : Late n (stF n l) := (late_E n l).1.kr (reachS_kr _).nodes (reachS_kr _).cells
theorem late_G (n : Nat) (l : B) : Late n (stG n l) := (late_F n l).kr (deepF_keeps _ _).1 (deepF_keeps _ _).2.1
end Ck
end Go.Proofs.YtegplehbcdeeoaaGreatDoor
/- The checker, as it begins. -/
namespace Go.Proofs.YtegplehbcdeeoaaGreatDoor
open Go.RowKit Go.Maps
namespace Ck
open Pk Pw
theorem layAll_len : ∀ (ns : List Nat) (ds : List B) (l : B) (n : Nat), l.length = 512 * n → (∀ x ∈ ns, x < n) → (∀ d ∈ ds, d.length = 512) → (layAll l ns ds).length = 512 * n
  | [], _, l, n, h, _, _ => by unfold layAll; exact h
  | _ :: _, [], l, n, h, _, _ => by unfold layAll; exact h
  | x :: ns, d :: ds, l, n, h, h1, h2 => by
    unfold layAll
    refine layAll_len ns ds _ n ?_ (fun y hy => h1 y (by simp [hy])) (fun y hy => h2 y (by simp [hy]))
    have hx := h1 x (by simp)
    have hd := h2 d (by simp)
    rw [lay_len (by omega)]
    exact h
theorem open_len {l x : B} (h : openP l = .ok x) : 128 ≤ l.length / 512 ∧ l.length / 512 ≤ 16384 ∧ l.length = 512 * (l.length / 512) ∧ x.length = 512 * (l.length / 512) := by
  unfold openP at h
  split at h
  · rename_i c
    obtain ⟨⟨h1, h2, h3⟩, _⟩ := c
    have hl : l.length = 512 * (l.length / 512) := by omega
    refine ⟨h1, h2, hl, ?_⟩
    cases hp : behindP (l.length / 512) l with
    | none => rw [hp] at h; cases h
    | some y =>
      rw [hp] at h
      cases h
      unfold behindP at hp
      cases hg : logP (l.length / 512) l with
      | none => rw [hg] at hp; cases hp
      | some nums =>
        rw [hg] at hp
        cases hp
        obtain ⟨k1, k2⟩ := logP_in hg
        have h5 : (layAll l nums (dataOf l nums.length)).length = 512 * (l.length / 512) := layAll_len _ _ _ _ hl (fun y hy => (k2 y hy).2) (dataOf_512 hl (by omega))
        have hz : zs512.length = 512 := by unfold zs512; exact zs_len _
        rw [lay_len (by omega)]
        exact h5
  · cases h
/-- Whose each block is, as the checker begins. -/
def gh0 (A : Adr) : Gh where
  found := .slice none 0 0
  row := fun _ => none
  who := fun b => if b = A.c then .chk else if b = A.img then .img else if b = A.nodes then .nodes else if b = A.had then .had else if b = A.blocks then .blocks else if b = A.cells then .cells else if b = A.depth then .depth else if b = A.seen then .seen else if b = A.names then .names else .other
theorem map_at {κ κ' ν : Type} [DecidableEq κ'] [Fs.Key κ'] {P : Program} {k : TypeId} {ev : ν → Value} {en : κ → κ'} {V : κ → Prop} {W : World} {b : Nat} (N : Nat) (h : W.heap[b]? = some (.map #[] 0)) : MapF P k ev en V W b N (fun _ => none) := by
  exact ⟨[], ⟨⟨#[], 0, h, ⟨by simp, MapKept.stamped_empty 0, by simp⟩, Nat.le_refl _, rfl⟩, Fs.Rising.nil⟩, by simp, fun _ _ => rfl⟩
/-- A fresh checker: what lies where. -/
structure Fresh0 (w V : World) (A : Adr) : Prop where
  base : A.base = w.heap.size
  blk : Blk V A.c (chkC A (.slice none 0 0)) 70
  img : SeenAt V A.img 0 A.bytes
  nodes : V.heap[A.nodes]? = some (.map #[] 0)
  had : V.heap[A.had]? = some (.map #[] 0)
  blocks : V.heap[A.blocks]? = some (.map #[] 0)
  cells : V.heap[A.cells]? = some (.map #[] 0)
  depth : V.heap[A.depth]? = some (.map #[] 0)
  seen : V.heap[A.seen]? = some (.map #[] 0)
  names : V.heap[A.names]? = some (.map #[] 0)
  low : w.heap.size ≤ A.img
  lt : A.img < A.nodes
  e1 : A.had = A.nodes + 1
  e2 : A.blocks = A.nodes + 2
  e3 : A.cells = A.nodes + 3
  e4 : A.depth = A.nodes + 4
  e5 : A.seen = A.nodes + 5
  e6 : A.names = A.nodes + 6
  e7 : A.c = A.nodes + 7
  len : A.bytes.length = 512 * A.n
  n1 : 128 ≤ A.n
  n2 : A.n ≤ 16384
  cap : 512 * A.n ≤ A.cap ∧ A.cap ≤ 9223372036854775807
theorem sim_start {w V : World} {A : Adr} (h : Fresh0 w V A) (hw : KVars w) (hb : Below w.heap.size w V) : Sim 0 V A (gh0 A) s00 := by
  have e1 := h.e1
  have e2 := h.e2
  have e3 := h.e3
  have e4 := h.e4
  have e5 := h.e5
  have e6 := h.e6
  have e7 := h.e7
  have hl := h.lt
  have hlo := h.low
  have hbs := h.base
  have hc := h.blk.lt
  exact {
    blk := fun _ => h.blk
    img := h.img
    fnd := fun _ => World.ownsRow_nil _ _ _ _
    nodes := fun _ => map_at 0 h.nodes
    had := fun _ => map_at 0 h.had
    blocks := fun _ => map_at 0 h.blocks
    cells := fun _ => map_at 0 h.cells
    depth := fun _ => map_at 0 h.depth
    seen := fun _ => map_at 0 h.seen
    names := fun _ => map_at 0 h.names
    rows := fun k v e => by simp [gh0] at e
    rowN := fun _ _ => rfl
    wFnd := fun g e => by simp [gh0, Value.ownBlock] at e
    wRow := fun k v g e => by simp [gh0] at e
    wC := by simp [gh0]
    wImg := by simp only [gh0]; rw [if_neg (by omega)]; simp
    wNodes := by simp only [gh0]; rw [if_neg (by omega), if_neg (by omega)]; simp
    wHad := by simp only [gh0]; rw [if_neg (by omega), if_neg (by omega), if_neg (by omega)]; simp
    wBlocks := by simp only [gh0]; rw [if_neg (by omega), if_neg (by omega), if_neg (by omega), if_neg (by omega)]; simp
    wCells := by simp only [gh0]; rw [if_neg (by omega), if_neg (by omega), if_neg (by omega), if_neg (by omega), if_neg (by omega)]; simp
    wDepth := by simp only [gh0]; rw [if_neg (by omega), if_neg (by omega), if_neg (by omega), if_neg (by omega), if_neg (by omega), if_neg (by omega)]; simp
    wSeen := by simp only [gh0]; rw [if_neg (by omega), if_neg (by omega), if_neg (by omega), if_neg (by omega), if_neg (by omega), if_neg (by omega), if_neg (by omega)]; simp
    wNames := by simp only [gh0]; rw [if_neg (by omega), if_neg (by omega), if_neg (by omega), if_neg (by omega), if_neg (by omega), if_neg (by omega), if_neg (by omega), if_neg (by omega)]; simp
    low := fun b e => by
      rw [hbs]
      refine Classical.byContradiction fun hn => e ?_
      simp only [gh0]
      rw [if_neg (by omega), if_neg (by omega), if_neg (by omega), if_neg (by omega), if_neg (by omega), if_neg (by omega), if_neg (by omega), if_neg (by omega), if_neg (by omega)]
    lenF := Nat.le_refl _
    lenC := fun _ => Nat.le_refl _
    kv := hw.below hb
    t1 := by rw [hbs]; exact hw.lt1
    t2 := by rw [hbs]; exact hw.lt2
    len := h.len
    n1 := h.n1
    n2 := h.n2
    cap := h.cap
    base := by rw [hbs]; exact hb.size }
end Ck
end Go.Proofs.YtegplehbcdeeoaaGreatDoor
/- What Image defers, in a frame that returns: nothing turns. -/
namespace Go.Proofs.YtegplehbcdeeoaaGreatDoor
open Go.RowKit
namespace Ck
open Pk Pw
set_option maxRecDepth 100000 in
theorem image1_idle (pl : Nat) (n : Nat) (W : World) : CallsDIn Fence.wide n Tryz.prog 26 #[.pointer (some ⟨pl, 0, none⟩)] .returning W fun e u' w' => e = .returned (.tuple #[]) ∧ u' = .returning ∧ w' = W := by
  have hnil : ∀ w : World, (binOp BinOp.eql 20 .nilIface .nilIface).run Tryz.prog w = .ok (.bool true) w := fun _ => by kernel_rfl
  refine callsDIn_of_wpSIn Tryz.func26 rfl trivial fun c₀ cs hu => ?_
  apply wpSIn_seq
  apply wpSIn_region
  simp [wpOpsSIn, go_sem, recoverD, hu, Tryz.ntmps26, Exit.thenS]
  refine wpSIn_of_wpIn rfl ?_
  gi_wp2
  cases c₀
  simp_all [bodyPostS, results, Tryz.results26]
end Ck
end Go.Proofs.YtegplehbcdeeoaaGreatDoor
