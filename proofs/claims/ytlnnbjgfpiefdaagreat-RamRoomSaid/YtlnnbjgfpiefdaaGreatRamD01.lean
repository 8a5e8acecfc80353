/- RamRoom: what its loops count. -/
import Derived.Test.YtlnnbjgfpiefdaaGreatRamB36
import Derived.Test.YtlnnbjgfpiefdaaGreatRamB39
import Derived.WalkKit
import Derived.Test.YtlnnbjgfpiefdaaGreatRamB02
import Derived.Test.YtlnnbjgfpiefdaaGreatRamV01
namespace Go.Proofs.YtlnnbjgfpiefdaaGreat
namespace Fs
/-! A path right inside another one. -/
/-- The last slash of the first bytes. -/
def lastUpto (s : Tx) : Nat → Int
  | 0 => -1
  | j + 1 => if s[j]? = some 47 then (j : Int) else lastUpto s j
def heldB (above s : Tx) : Bool := if lastUpto s s.length = 0 then decide (above = [47]) else decide (0 < lastUpto s s.length) && decide (s.take (lastUpto s s.length).toNat = above)
theorem lastUpto_range (s : Tx) : ∀ j, -1 ≤ lastUpto s j ∧ lastUpto s j < j
  | 0 => by unfold lastUpto; omega
  | j + 1 => by
    have := lastUpto_range s j
    unfold lastUpto
    split <;> omega
theorem lastUpto_at (A c : Tx) (hc : (47 : UInt8) ∉ c) : ∀ i, i ≤ c.length → lastUpto (A ++ 47 :: c) (A.length + 1 + i) = A.length
  | 0, _ => by
    show (if (A ++ 47 :: c)[A.length]? = some 47 then ((A.length : Nat) : Int) else _) = _
    rw [if_pos (by simp)]
  | i + 1, h => by
    show (if (A ++ 47 :: c)[A.length + 1 + i]? = some 47 then _ else lastUpto _ (A.length + 1 + i)) = _
    rw [if_neg, lastUpto_at A c hc i (by omega)]
    intro e
    rw [List.getElem?_append_right (by omega), show A.length + 1 + i - A.length = i + 1 by omega, List.getElem?_cons_succ] at e
    exact hc (List.mem_of_getElem? e)
theorem pathOf_inj {a b : List Tx} (ha : ∀ c ∈ a, NameOk c) (hb : ∀ c ∈ b, NameOk c) (h : pathOf a = pathOf b) : a = b := by rw [← pcs_path ha, h, pcs_path hb]
theorem held_root (a : Tx) : heldB a [47] = decide (a = [47]) := rfl
theorem held_path {qs ps : List Tx} {c : Tx} (hq : ∀ c ∈ qs, NameOk c) (hp : ∀ x ∈ ps ++ [c], NameOk x) : heldB (pathOf qs) (pathOf (ps ++ [c])) = decide (qs = ps) := by
  have hps : ∀ x ∈ ps, NameOk x := fun x hx => hp x (by simp [hx])
  have hc : (47 : UInt8) ∉ c := (hp c (by simp)).slash
  obtain ⟨A, hA⟩ : ∃ A : Tx, A = ps.flatMap fun c => 47 :: c := ⟨_, rfl⟩
  have e : pathOf (ps ++ [c]) = A ++ 47 :: c := by unfold pathOf; rw [if_neg (by simp), List.flatMap_append, ← hA]; simp
  have hl : lastUpto (A ++ 47 :: c) (A ++ 47 :: c).length = A.length := by
    have := lastUpto_at A c hc c.length (Nat.le_refl _)
    rw [show (A ++ 47 :: c).length = A.length + 1 + c.length by simp; omega]
    exact this
  unfold heldB
  rw [e, hl]
  by_cases h0 : ps = []
  · subst h0
    have : A = [] := hA
    subst this
    rw [if_pos (show ((([] : Tx).length : Nat) : Int) = 0 from rfl)]
    refine decide_eq_decide.2 ⟨fun h => pathOf_inj hq (fun _ h => by cases h) h, fun h => by rw [h]; rfl⟩
  · have hAp : A = pathOf ps := by unfold pathOf; rw [if_neg h0]; exact hA
    have hlen : 0 < A.length := by
      obtain ⟨x, r, rfl⟩ := List.exists_cons_of_ne_nil h0
      rw [hA]; simp
    rw [if_neg (by omega), decide_eq_true (by omega), Bool.true_and]
    rw [show ((A.length : Nat) : Int).toNat = A.length from rfl, List.take_left, hAp]
    exact decide_eq_decide.2 ⟨fun h => (pathOf_inj hps hq h).symm, fun h => by rw [h]⟩
section
variable {n : Int} {k : Nat} {s : Tree}
theorem Inv.path_names (h : Inv n k s) {cs : List Tx} {i : Int} (hw : Way s 1 cs i) : ∀ c ∈ cs, NameOk c := h.way_names hw
theorem things_get {j : Nat} {x : Thing} (hx : (things s)[j]? = some x) : ∃ cs i, (lst s 33 [] 1)[j]? = some (cs, i) ∧ x = thing s (cs, i) := by
  unfold things at hx
  rw [List.getElem?_map] at hx
  cases e : (lst s 33 [] 1)[j]? with
  | none => rw [e] at hx; cases hx
  | some p => rw [e] at hx; cases hx; exact ⟨p.1, p.2, rfl, rfl⟩
/-- Names of one inode tell the same. -/
theorem things_same {j j' : Nat} {x y : Thing} (hx : (things s)[j]? = some x) (hy : (things s)[j']? = some y) (h : y.stat.inode = x.stat.inode) : y.stat = x.stat ∧ y.data = x.data := by
  obtain ⟨cs, i, _, rfl⟩ := things_get hx
  obtain ⟨ds, i', _, rfl⟩ := things_get hy
  have h : i' = i := h
  subst h
  exact ⟨rfl, rfl⟩
theorem links_count (h : Inv n k s) (i : Int) : (things s).countP (fun y => decide (y.stat.inode = i)) = refs s i + if 1 = i then 1 else 0 := by
  rw [← h.lst_count (K := 33) (by omega) i]
  unfold things
  rw [List.countP_map]
  rfl
theorem count_inside (h : Inv n k s) {cs : List Tx} {i : Int} (hw : Way s 1 cs i) (hd : kindOf s i = 2) (q : Thing → Bool) (r : En → Bool) (hqr : ∀ e ∈ tre s 33 [] 1, q (thing s (e.1, e.2.2.2)) = r e.2) :
    (things s).countP (fun y => (decide (y.path ≠ pathOf cs) && heldB (pathOf cs) y.path) && q y) = (allNames s).countP (fun e => decide (e.1 = i) && r e) := by
  unfold things lst
  rw [List.map_cons, countP_cons', List.map_map, List.countP_map]
  rw [if_neg (by
    show ¬ ((decide ((thing s ([], 1)).path ≠ pathOf cs) && heldB (pathOf cs) [47]) && _) = true
    rw [held_root]
    intro c
    simp only [Bool.and_eq_true, decide_eq_true_eq] at c
    exact c.1.1 c.1.2.symm)]
  rw [Nat.add_zero, ← (h.tre_perm (K := 33) (by omega)).countP_eq, List.countP_map]
  refine List.countP_congr fun e he => ?_
  have hl := h.lst_inside (K := 33) hw hd he
  obtain ⟨ds, d, c, m⟩ := e
  obtain ⟨ps, h1, h2, h3, _⟩ := h.mem_tre 33 he
  rw [List.nil_append] at h1
  dsimp only at hl
  subst h1
  have hN := h.way_names (h2.snoc h3)
  have hcs := h.way_names hw
  have e1 : heldB (pathOf cs) (pathOf (ps ++ [c])) = decide (cs = ps) := held_path hcs hN
  rw [List.dropLast_concat] at hl
  show ((decide (pathOf (ps ++ [c]) ≠ pathOf cs) && heldB (pathOf cs) (pathOf (ps ++ [c]))) && q (thing s (ps ++ [c], m))) = true ↔ (decide (d = i) && r (d, c, m)) = true
  rw [e1, hqr _ he]
  simp only [Bool.and_eq_true, decide_eq_true_eq]
  constructor
  · rintro ⟨⟨_, h5⟩, h6⟩
    exact ⟨hl.1 h5.symm, h6⟩
  · rintro ⟨h5, h6⟩
    have h7 := hl.2 h5
    refine ⟨⟨fun e => ?_, h7.symm⟩, h6⟩
    have := pathOf_inj hN hcs e
    rw [← h7] at this
    have := congrArg List.length this
    simp at this
theorem names_count (h : Inv n k s) {cs : List Tx} {i : Int} (hw : Way s 1 cs i) (hd : kindOf s i = 2) :
    (things s).countP (fun y => decide (y.path ≠ pathOf cs) && heldB (pathOf cs) y.path) = (namesOf s i).length := by
  have := count_inside h hw hd (fun _ => true) (fun _ => true) (fun _ _ => rfl)
  simp only [Bool.and_true] at this
  rw [this, ← count_dir h]
theorem dirs_count (h : Inv n k s) {cs : List Tx} {i : Int} (hw : Way s 1 cs i) (hd : kindOf s i = 2) :
    (things s).countP (fun y => (decide (y.path ≠ pathOf cs) && heldB (pathOf cs) y.path) && decide (y.stat.kind = 2)) = subs s i := by
  rw [count_inside h hw hd (fun y => decide (y.stat.kind = 2)) (fun e => decide (kindOf s e.2.2 = 2)) (fun e _ => by
    show decide ((ndAt s e.2.2.2).kind = 2) = _
    rw [kind_ndAt])]
  unfold subs
  refine List.countP_congr fun e _ => ?_
  simp only [Bool.and_eq_true, decide_eq_true_eq]
theorem count_le_one {α : Type} {l : List α} (hn : l.Nodup) {p : α → Bool} (h : ∀ a ∈ l, ∀ b ∈ l, p a = true → p b = true → a = b) : l.countP p ≤ 1 := by
  rw [List.countP_eq_length_filter]
  have hf : (l.filter p).Nodup := hn.filter p
  match e : l.filter p, hf with
  | [], _ => simp
  | [a], _ => simp
  | a :: b :: r, hf =>
    have ha : a ∈ l.filter p := by rw [e]; simp
    have hb : b ∈ l.filter p := by rw [e]; simp
    rw [List.mem_filter] at ha hb
    have := h a ha.1 b hb.1 ha.2 hb.2
    rw [List.nodup_cons] at hf
    exact absurd (by rw [this]; simp) hf.1
/-- A directory is listed once. -/
theorem dir_once (h : Inv n k s) {i : Int} (hd : kindOf s i = 2) : refs s i + (if 1 = i then 1 else 0) = 1 := by
  by_cases h1 : 1 = i
  · subst h1
    rw [if_pos rfl]
    have : refs s 1 = 0 := by
      unfold refs
      rw [List.countP_eq_zero]
      rintro ⟨d, c, m⟩ he e
      have e : m = 1 := of_decide_eq_true e
      subst e
      exact (h.shape.ent _ _ _ (h.mem.1 he)).2.2.2 rfl
    omega
  · rw [if_neg h1]
    have hp := h.named i (h.kind_ne.1 (by rw [hd]; decide)) (fun e => h1 e.symm)
    have : refs s i ≤ 1 := by
      unfold refs
      refine count_le_one (allNames_nodup h) ?_
      rintro ⟨d, c, m⟩ ha ⟨d', c', m'⟩ hb e e'
      have e : m = i := of_decide_eq_true e
      have e' : m' = i := of_decide_eq_true e'
      subst e
      subst e'
      obtain ⟨rfl, rfl⟩ := h.shape.one _ _ _ _ _ (h.mem.1 ha) (h.mem.1 hb) hd
      rfl
    omega
theorem dd_len_nodup {l : List Int} (h : l.Nodup) : (Tk.dd l).length = l.length := by
  have h2 : (Tk.dd l).Perm l := (List.perm_ext_iff_of_nodup (dd_nodup l [] List.nodup_nil) h).2 fun x => Tk.mem_dd x l
  exact h2.length_eq
theorem tkN_range (b : Nat) (hb : b ≤ 1000) : (b : Int) ≤ tkN ((List.range b).map Int.ofNat) := by
  have hfar : Tk.far ((List.range b).map Int.ofNat) = false := by
    unfold Tk.far
    rw [List.any_eq_false]
    intro x hx
    obtain ⟨j, hj, rfl⟩ := List.mem_map.1 hx
    have := List.mem_range.1 hj
    have : (Int.ofNat j) = (j : Int) := rfl
    rw [this]
    simp; omega
  have hn : ((List.range b).map Int.ofNat).Nodup := by
    rw [List.Nodup, List.pairwise_map]
    exact (List.nodup_range (n := b)).imp fun h e => h (Int.ofNat.inj e)
  unfold tkN
  rw [hfar]
  have := dd_len_nodup hn
  rw [List.length_map, List.length_range] at this
  show (b : Int) ≤ ((Tk.count _ : Nat) : Int)
  unfold Tk.count
  omega
theorem tkN_small (m : Nat) (hm : m ≤ 2) : tkN ((List.range m).map Int.ofNat) = m := by
  rcases (show m = 0 ∨ m = 1 ∨ m = 2 by omega) with rfl | rfl | rfl <;> decide
/-- What is said of a listed thing. -/
structure Fits (x : Thing) (links names dirs : Nat) : Prop where
  kind : x.stat.kind = 1 ∨ x.stat.kind = 2 ∨ x.stat.kind = 3
  dir : x.stat.kind = 2 → links = 1 ∧ x.stat.links = 2 + dirs ∧ x.stat.size % 512 = 0 ∧ (names : Int) ≤ x.stat.size / 32 ∧ x.stat.size / 512 ≤ x.stat.blocks ∧ 0 ≤ x.stat.size
  file : x.stat.kind = 1 → x.stat.links = links ∧ (x.stat.size = 0 → x.stat.blocks = 0)
  link : x.stat.kind = 3 → x.stat.links = links ∧ x.stat.blocks = (x.stat.size + 511) / 512 ∧ 0 ≤ x.stat.size
  small : x.stat.size ≤ 1000000000 ∧ -1000000 ≤ x.stat.links ∧ x.stat.links ≤ 1000000 ∧ 0 ≤ x.stat.blocks ∧ x.stat.blocks ≤ 3000000
theorem things_fit (h : Inv n k s) (hk : k ≤ 1000) {j : Nat} {x : Thing} (hx : (things s)[j]? = some x) :
    Fits x ((things s).countP fun y => decide (y.stat.inode = x.stat.inode)) ((things s).countP fun y => decide (x.stat.kind = 2) && (decide (y.path ≠ x.path) && heldB x.path y.path)) ((things s).countP fun y => (decide (x.stat.kind = 2) && (decide (y.path ≠ x.path) && heldB x.path y.path)) && decide (y.stat.kind = 2)) := by
  obtain ⟨cs, i, hj, rfl⟩ := things_get hx
  have hw : Way s 1 cs i := h.lst_way (List.mem_of_getElem? hj)
  have hi := h.lst_there hw
  have hN := h.nd_at hi
  obtain ⟨y, hy⟩ : ∃ y, get s i = some y := by
    cases e : get s i with
    | none => exact absurd e hi
    | some y => exact ⟨y, rfl⟩
  have hlb := h.links_bound hy
  have hsz := (hN.size hk)
  have hok := blocksOf_bound (hN.ok hk)
  have hdf := h.links i hi
  have hlk : linksOf s i = (ndAt s i).links := by unfold linksOf; rw [hy, ndAt_of hy]; rfl
  have hlinks := links_count h i
  have hke := kind_ndAt s i
  unfold df at hdf
  rw [hlk] at hdf
  have hnm : namesOf s i = (ndAt s i).names := by rw [namesGet hy, ndAt_of hy]
  rw [← ndAt_of hy] at hlb
  show Fits ⟨pathOf cs, statN i (ndAt s i), dataOf (ndAt s i)⟩ _ _ _
  refine ⟨hN.kind, fun (hd : (ndAt s i).kind = 2) => ?_, fun (hd : (ndAt s i).kind = 1) => ?_, fun (hd : (ndAt s i).kind = 3) => ?_, ?_⟩
  · have hd' : kindOf s i = 2 := by rw [← hke]; exact hd
    obtain ⟨h1, h2, h3, h4, h5⟩ := hN.dir hd
    have hns := names_count h hw hd'
    have hds := dirs_count h hw hd'
    have ho := dir_once h hd'
    rw [if_pos hd'] at hdf
    have hb : ((ndAt s i).blocks.toNat : Int) ≤ blocksOf (ndAt s i) := by
      unfold blocksOf indices
      rw [if_neg (by omega), if_pos hd]
      exact tkN_range _ (by omega)
    show ((things s).countP fun y => decide (y.stat.inode = i)) = 1 ∧ (ndAt s i).links = 2 + (((things s).countP fun y => (decide ((ndAt s i).kind = 2) && (decide (y.path ≠ pathOf cs) && heldB (pathOf cs) y.path)) && decide (y.stat.kind = 2) : Nat) : Int) ∧ (ndAt s i).size % 512 = 0 ∧ (((things s).countP fun y => decide ((ndAt s i).kind = 2) && (decide (y.path ≠ pathOf cs) && heldB (pathOf cs) y.path) : Nat) : Int) ≤ (ndAt s i).size / 32 ∧ (ndAt s i).size / 512 ≤ blocksOf (ndAt s i) ∧ 0 ≤ (ndAt s i).size
    simp only [decide_eq_true hd, Bool.true_and]
    rw [hns, hds, hnm]
    refine ⟨by omega, by omega, by omega, by omega, by omega, by omega⟩
  · have hd' : kindOf s i ≠ 2 := by rw [← hke, hd]; decide
    rw [if_neg hd'] at hdf
    obtain ⟨h1, h2, h3, h4, h5, h6⟩ := hN.file hd
    have h1' : i ≠ 1 := fun e => by rw [e] at hd'; exact hd' h.shape.root
    refine ⟨?_, fun (hz : (ndAt s i).size = 0) => ?_⟩
    · show (ndAt s i).links = (((things s).countP fun y => decide (y.stat.inode = i) : Nat) : Int)
      rw [hlinks, if_neg (fun e => h1' e.symm)]
      omega
    · show blocksOf (ndAt s i) = 0
      unfold blocksOf indices
      rw [if_pos hd]
      have : (ndAt s i).pieces = [] := by
        cases hp : (ndAt s i).pieces with
        | nil => rfl
        | cons p r => have := h4 p (by rw [hp]; simp); omega
      rw [this]
      decide
  · have hd' : kindOf s i ≠ 2 := by rw [← hke, hd]; decide
    rw [if_neg hd'] at hdf
    obtain ⟨h1, h2, h3⟩ := hN.link hd
    have h1' : i ≠ 1 := fun e => by rw [e] at hd'; exact hd' h.shape.root
    have ht := hN.text
    refine ⟨?_, ?_, hsz.1⟩
    · show (ndAt s i).links = (((things s).countP fun y => decide (y.stat.inode = i) : Nat) : Int)
      rw [hlinks, if_neg (fun e => h1' e.symm)]
      omega
    · show blocksOf (ndAt s i) = ((ndAt s i).size + 511) / 512
      unfold blocksOf indices
      rw [if_neg (by omega), if_neg (by omega), if_pos hd, tkN_small _ (by omega), h3]
      omega
  · show (ndAt s i).size ≤ 1000000000 ∧ -1000000 ≤ (ndAt s i).links ∧ (ndAt s i).links ≤ 1000000 ∧ 0 ≤ blocksOf (ndAt s i) ∧ blocksOf (ndAt s i) ≤ 3000000
    refine ⟨by omega, by omega, by omega, hok.1, hok.2⟩
/-! Each inode once. -/
def inos (l : List Thing) : List Int := l.map fun x => x.stat.inode
/-- The first of an inode's names. -/
def bl (s : Tree) (i : Int) : Int := blocksOf (ndAt s i)
theorem inos_perm (h : Inv n k s) : (Tk.dd (inos (things s))).Perm (s.map (·.1)) := by
  have hs : (s.map (·.1)).Nodup := by rw [List.Nodup, List.pairwise_map]; exact h.rising.apart
  refine (List.perm_ext_iff_of_nodup (dd_nodup _ [] List.nodup_nil) hs).2 fun i => ?_
  show i ∈ Tk.dd _ ↔ _
  rw [Tk.mem_dd]
  have e : inos (things s) = (lst s 33 [] 1).map (·.2) := by unfold inos things; rw [List.map_map]; rfl
  rw [e]
  constructor
  · intro hi
    obtain ⟨⟨cs, j⟩, hm, rfl⟩ := List.mem_map.1 hi
    have hne := h.lst_there (h.lst_way hm)
    cases hg : get s j with
    | none => exact absurd hg hne
    | some y => exact List.mem_map.2 ⟨(j, y), h.rising.get.1 hg, rfl⟩
  · intro hi
    obtain ⟨⟨j, y⟩, hm, rfl⟩ := List.mem_map.1 hi
    have hg : get s j ≠ none := by rw [h.rising.get.2 hm]; simp
    show j ∈ _
    unfold lst
    rw [List.map_cons, List.map_map]
    by_cases h1 : j = 1
    · rw [h1]; simp
    · have hr := h.named j hg h1
      unfold refs at hr
      obtain ⟨x, hx, hxe⟩ := List.countP_pos_iff.1 hr
      obtain ⟨z, hz, rfl⟩ := List.mem_map.1 ((h.tre_perm (K := 33) (by omega)).mem_iff.2 hx)
      exact List.mem_cons_of_mem _ (List.mem_map.2 ⟨z, hz, of_decide_eq_true hxe⟩)
theorem many_all (h : Inv n k s) : (Tk.dd (inos (things s))).length = s.length := by rw [(inos_perm h).length_eq, List.length_map]
theorem blocks_all (h : Inv n k s) : ((Tk.dd (inos (things s))).map (bl s)).sum = taken s := by
  rw [sum_perm ((inos_perm h).map (bl s)), List.map_map]
  unfold taken
  congr 1
  refine List.map_congr_left fun p hp => ?_
  show blocksOf (ndAt s p.1) = blocksOf p.2
  rw [ndAt_of (h.rising.get.2 hp)]
theorem inos_more {j : Nat} {x : Thing} (hx : (things s)[j]? = some x) : (inos (things s)).take (j + 1) = (inos (things s)).take j ++ [x.stat.inode] := by
  have : (inos (things s))[j]? = some x.stat.inode := by unfold inos; rw [List.getElem?_map, hx]; rfl
  obtain ⟨hl, he⟩ := List.getElem?_eq_some_iff.1 this
  rw [List.take_succ_eq_append_getElem hl, he]
/-- A thing's inode is told once more, or for the first time. -/
theorem dd_more {j : Nat} {x : Thing} (hx : (things s)[j]? = some x) :
    (x.stat.inode ∈ (inos (things s)).take j → Tk.dd ((inos (things s)).take (j + 1)) = Tk.dd ((inos (things s)).take j)) ∧
    (x.stat.inode ∉ (inos (things s)).take j → Tk.dd ((inos (things s)).take (j + 1)) = Tk.dd ((inos (things s)).take j) ++ [x.stat.inode]) := by
  rw [inos_more hx, Tk.dd_snoc]
  unfold Tk.add
  constructor
  · intro h; rw [if_pos ((Tk.mem_dd _ _).2 h)]
  · intro h; rw [if_neg (fun c => h ((Tk.mem_dd _ _).1 c))]
theorem thing_blocks {j : Nat} {x : Thing} (hx : (things s)[j]? = some x) : x.stat.blocks = bl s x.stat.inode := by
  obtain ⟨cs, i, _, rfl⟩ := things_get hx
  rfl
theorem sums_bound (h : Inv n k s) (hk : k ≤ 1000) (j : Nat) : (Tk.dd ((inos (things s)).take j)).length ≤ j ∧ 0 ≤ ((Tk.dd ((inos (things s)).take j)).map (bl s)).sum ∧ ((Tk.dd ((inos (things s)).take j)).map (bl s)).sum ≤ 3000000 * j := by
  have hl : (Tk.dd ((inos (things s)).take j)).length ≤ j := Nat.le_trans (Tk.dd_len_le _) (List.length_take_le _ _)
  have hb : ∀ l : List Int, (∀ i ∈ l, 0 ≤ bl s i ∧ bl s i ≤ 3000000) → 0 ≤ (l.map (bl s)).sum ∧ (l.map (bl s)).sum ≤ 3000000 * l.length := by
    intro l
    induction l with
    | nil => intro _; simp
    | cons a r ih =>
      intro h
      have h1 := h a (by simp)
      have h2 := ih fun i hi => h i (by simp [hi])
      simp only [List.map_cons, List.sum_cons, List.length_cons]
      omega
  have := hb (Tk.dd ((inos (things s)).take j)) fun i hi => by
    have hm := List.mem_of_mem_take ((Tk.mem_dd _ _).1 hi)
    unfold inos at hm
    obtain ⟨x, hx, rfl⟩ := List.mem_map.1 hm
    obtain ⟨q, hq⟩ := List.mem_iff_getElem?.1 hx
    rw [← thing_blocks hq]
    exact (things_fit h hk hq).small.2.2.2
  omega
theorem nodup_bound : ∀ (m : Nat) {l : List Int}, l.Nodup → (∀ i ∈ l, 1 ≤ i ∧ i ≤ m) → l.length ≤ m
  | 0, l, _, hb => by
    cases l with
    | nil => simp
    | cons a r => have := hb a (by simp); omega
  | m + 1, l, hn, hb => by
    have h1 := nodup_bound m (l := l.filter fun i => !decide (i = ((m + 1 : Nat) : Int))) (hn.filter _) fun i hi => by
      rw [List.mem_filter] at hi
      have := hb i hi.1
      have h2 : i ≠ ((m + 1 : Nat) : Int) := by simpa using hi.2
      omega
    have h2 : l.countP (fun i => decide (i = ((m + 1 : Nat) : Int))) ≤ 1 := count_le_one hn fun a _ b _ ha hb => (of_decide_eq_true ha).trans (of_decide_eq_true hb).symm
    have h3 := List.length_eq_countP_add_countP (l := l) (fun i => decide (i = ((m + 1 : Nat) : Int)))
    rw [← List.countP_eq_length_filter] at h1
    have h4 : l.countP (fun i => !decide (i = ((m + 1 : Nat) : Int))) = l.countP (fun a => decide ¬ decide (a = ((m + 1 : Nat) : Int)) = true) := List.countP_congr fun i _ => by simp
    omega
/-- There are inodes enough. -/
theorem nodes_room (h : Inv n k s) : (s.length : Int) ≤ countOf n - 1 := by
  have hs : (s.map (·.1)).Nodup := by rw [List.Nodup, List.pairwise_map]; exact h.rising.apart
  have hm : ∀ i ∈ s.map (·.1), 1 ≤ i ∧ i < countOf n := fun i hi => by
    obtain ⟨p, hp, rfl⟩ := List.mem_map.1 hi
    exact h.keys _ _ (h.rising.get.2 hp)
  have h1 : 1 ≤ countOf n - 1 := by
    obtain ⟨y, hy⟩ : ∃ y, get s 1 = some y := by
      obtain ⟨y, hy, _⟩ := kindGet h.shape.root (by decide)
      exact ⟨y, hy⟩
    have := h.keys _ _ hy
    omega
  have hr := nodup_bound (countOf n - 1).toNat hs fun i hi => by have := hm i hi; omega
  rw [List.length_map] at hr
  omega
end
end Fs
end Go.Proofs.YtlnnbjgfpiefdaaGreat
/- held: does a path lie right inside another one? -/
namespace Go.Proofs.YtlnnbjgfpiefdaaGreat
open Go.RowKit Go.Maps Go.Shelf

namespace Fs
theorem mk_list (l : Tx) : (mk l).toList = l := toList_bs (mk l)
theorem slash_at {t : Tx} {j : Nat} (h : j < (mk t).size) : ((((mk t)[j]'h).toNat : Int) == 47) = decide (t[j]? = some 47) := by
  have h' : j < t.length := h
  have e : (mk t)[j]'h = t[j] := rfl
  rw [e, List.getElem?_eq_getElem h', Bool.eq_iff_iff]
  simp only [beq_iff_eq, decide_eq_true_eq, Option.some.injEq]
  constructor
  · intro e; exact UInt8.toNat_inj.1 (by show t[j].toNat = 47; omega)
  · intro e; rw [e]; rfl
theorem last_more {t : Tx} {j : Nat} : lastUpto t (j + 1) = if decide (t[j]? = some 47) = true then (j : Int) else lastUpto t j := by
  show (if t[j]? = some 47 then (j : Int) else lastUpto t j) = _
  simp only [decide_eq_true_eq]
set_option maxRecDepth 100000 in
set_option maxHeartbeats 1000000 in
theorem held_any (a t : Tx) (ht : t.length ≤ 1000000000000) (W : World) :
    Calls Tryz.prog 10 #[.string (mk a), .string (mk t)] W fun e W' => e = .returned (.bool (heldB a t)) ∧ W' = W := by
  have hsz : (mk t).size = t.length := rfl
  obtain ⟨r, hr⟩ : ∃ r, r = heldB a t := ⟨_, rfl⟩
  have HR := Lib.hid hr
  rw [← hr]
  clear hr
  go_enter Tryz.func10, Tryz.ntmps10
  go_wp2_with fail
  go_loop [5, 6] (fun av iv => ∃ (j : Nat) (q : Int), iv = .int .i64 (j : Int) ∧ av = .int .i64 q ∧ Hid (q = lastUpto t j) ∧ j ≤ t.length) (fun _ iv => (t.length - (intOf iv).toNat))
  case atStart => exact ⟨0, -1, rfl, rfl, rfl, Nat.zero_le _⟩
  case round =>
    obtain ⟨j, q, rfl, rfl, hq, hj⟩ := hrel
    by_cases c1 : (j : Int) < ((mk t).size : Int)
    · have hj' : j < (mk t).size := by omega
      have hs := slash_at hj'
      obtain ⟨b, hb⟩ : ∃ b, b = decide (t[j]? = some 47) := ⟨_, rfl⟩
      rw [← hb] at hs
      have hl : lastUpto t (j + 1) = if b = true then (j : Int) else q := by rw [last_more, hb]; rw [show q = lastUpto t j from hq]
      have hl := Lib.hid hl
      clear hb
      cases b with
      | true =>
        go_wp2_with fail
        exact ⟨⟨j + 1, _, rfl, rfl, hl.symm, by omega⟩, by simp only [intOf]; omega⟩
      | false =>
        go_wp2_with fail
        exact ⟨⟨j + 1, _, rfl, rfl, hl.symm, by omega⟩, by simp only [intOf]; omega⟩
    · have hjt : j = t.length := by omega
      have hr := lastUpto_range t j
      have hq' : q = lastUpto t t.length := by rw [← hjt]; exact hq
      rw [← show q = lastUpto t j from hq] at hr
      have hh : r = if q = 0 then decide (a = [47]) else decide (0 < q) && decide (t.take q.toNat = a) := by rw [show r = heldB a t from HR]; unfold heldB; rw [← hq']
      clear hq hq' hjt
      by_cases h0 : q = 0
      · have hh' := Lib.hid (hh.trans (if_pos h0))
        clear hh
        subst h0
        go_wp2_with fail
        go_ret
        refine ⟨ret_bool ?_, rfl⟩
        rw [show r = _ from hh', mk_list, Bool.eq_iff_iff]
        simp only [beq_iff_eq, decide_eq_true_eq]
      · by_cases h1 : 0 < q
        · have hh' := Lib.hid (hh.trans (if_neg h0))
          clear hh
          go_wp2_with fail
          go_ret
          refine ⟨ret_bool ?_, rfl⟩
          rw [show r = _ from hh', decide_eq_true h1, Bool.true_and, mk_list, show (mk t).extract 0 q.toNat = mk ((t.drop 0).take (q.toNat - 0)) from Lib.extract_mk t 0 q.toNat, mk_list, Bool.eq_iff_iff]
          simp only [beq_iff_eq, decide_eq_true_eq, List.drop_zero, Nat.sub_zero]
        · have hh' := Lib.hid (hh.trans (if_neg h0))
          clear hh
          go_wp2_with fail
          go_ret
          refine ⟨ret_bool ?_, rfl⟩
          rw [show r = _ from hh', decide_eq_false (by omega)]
          rfl
end Fs
end Go.Proofs.YtlnnbjgfpiefdaaGreat
/- RamRoom: its loops. -/
namespace Go.Proofs.YtlnnbjgfpiefdaaGreat
open Go.RowKit Go.Maps Go.Shelf

namespace Fs
theorem neq_stat_any (w : World) (a b c d e : Int) : (binOp .neq 32 (.agg #[.int .i64 a, .int .i64 b, .int .i64 c, .int .i64 d, .int .i64 e]) (.agg #[.int .i64 a, .int .i64 b, .int .i64 c, .int .i64 d, .int .i64 e])).run Tryz.prog w = .ok (.bool false) w := by
  simp [go_sem]
theorem thing_cells {w : World} {b : Nat} {x : Thing} {t : TypeId} (h : Blk w b #[.string (mk x.path), .int .i64 x.stat.inode, .int .i64 x.stat.kind, .int .i64 x.stat.links, .int .i64 x.stat.size, .int .i64 x.stat.blocks, .string (mk x.data)] t) :
    w.cell? ⟨b, 0, none⟩ = some (.string (mk x.path)) ∧ w.cell? ⟨b, 1, none⟩ = some (.int .i64 x.stat.inode) ∧ w.cell? ⟨b, 2, none⟩ = some (.int .i64 x.stat.kind) ∧ w.cell? ⟨b, 3, none⟩ = some (.int .i64 x.stat.links) ∧ w.cell? ⟨b, 4, none⟩ = some (.int .i64 x.stat.size) ∧ w.cell? ⟨b, 5, none⟩ = some (.int .i64 x.stat.blocks) ∧ w.cell? ⟨b, 6, none⟩ = some (.string (mk x.data)) :=
  ⟨h.cell 0, h.cell 1, h.cell 2, h.cell 3, h.cell 4, h.cell 5, h.cell 6⟩
/-- What the first inner loop has counted. -/
structure One (T : List Thing) (xi : Int) (j : Nat) (i : Nat) (o p : Int) (f : Bool) : Prop where
  o : o = (i : Int)
  p : p = ((T.take i).countP fun y => decide (y.stat.inode = xi) : Nat)
  f : f = decide (xi ∉ (inos T).take (min i j))
/-- What the second one has. -/
structure Two (T : List Thing) (x : Thing) (i : Nat) (o p q : Int) : Prop where
  o : o = (i : Int)
  p : p = ((T.take i).countP fun y => decide (x.stat.kind = 2) && (decide (y.path ≠ x.path) && heldB x.path y.path) : Nat)
  q : q = ((T.take i).countP fun y => (decide (x.stat.kind = 2) && (decide (y.path ≠ x.path) && heldB x.path y.path)) && decide (y.stat.kind = 2) : Nat)
/-- What the outer one has. -/
structure Sums (s : Tree) (j : Nat) (o p q : Int) : Prop where
  o : o = (j : Int)
  p : p = ((Tk.dd ((inos (things s)).take j)).length : Nat)
  q : q = ((Tk.dd ((inos (things s)).take j)).map (bl s)).sum
theorem take_more {T : List Thing} {i : Nat} {y : Thing} (h : T[i]? = some y) : T.take (i + 1) = T.take i ++ [y] := by
  obtain ⟨hl, he⟩ := List.getElem?_eq_some_iff.1 h
  rw [List.take_succ_eq_append_getElem hl, he]
theorem count_more {T : List Thing} {i : Nat} {y : Thing} (h : T[i]? = some y) (g : Thing → Bool) : (T.take (i + 1)).countP g = (T.take i).countP g + if g y = true then 1 else 0 := by
  rw [take_more h, List.countP_append, List.countP_singleton]
theorem inos_at {T : List Thing} {i : Nat} {y : Thing} (h : T[i]? = some y) : (inos T).take (i + 1) = (inos T).take i ++ [y.stat.inode] := by
  have : (inos T)[i]? = some y.stat.inode := by unfold inos; rw [List.getElem?_map, h]; rfl
  obtain ⟨hl, he⟩ := List.getElem?_eq_some_iff.1 this
  rw [List.take_succ_eq_append_getElem hl, he]
theorem One.start (T : List Thing) (xi : Int) (j : Nat) : One T xi j 0 0 0 true := ⟨rfl, rfl, by simp⟩
theorem One.le {T : List Thing} {xi : Int} {j i : Nat} {o p : Int} {f : Bool} (h : One T xi j i o p f) : 0 ≤ p ∧ p ≤ i := by
  have := List.countP_le_length (p := fun y : Thing => decide (y.stat.inode = xi)) (l := T.take i)
  have := List.length_take_le i T
  have := h.p
  omega
theorem One.yes {T : List Thing} {xi : Int} {j i : Nat} {o p : Int} {f : Bool} (h : One T xi j i o p f) {y : Thing} (hy : T[i]? = some y) (e : y.stat.inode = xi) : One T xi j (i + 1) (o + 1) (p + 1) (f && decide (j ≤ i)) := by
  refine ⟨by rw [h.o]; omega, ?_, ?_⟩
  · rw [h.p, count_more hy, if_pos (decide_eq_true e)]; omega
  · rw [h.f]
    by_cases c : j ≤ i
    · rw [decide_eq_true c, Bool.and_true, Nat.min_eq_right c, Nat.min_eq_right (by omega)]
    · rw [decide_eq_false c, Bool.and_false, Nat.min_eq_left (by omega), inos_at hy, e]
      simp
theorem One.no {T : List Thing} {xi : Int} {j i : Nat} {o p : Int} {f : Bool} (h : One T xi j i o p f) {y : Thing} (hy : T[i]? = some y) (e : y.stat.inode ≠ xi) : One T xi j (i + 1) (o + 1) p f := by
  refine ⟨by rw [h.o]; omega, ?_, ?_⟩
  · rw [h.p, count_more hy, if_neg (by simpa using e)]; omega
  · rw [h.f]
    by_cases c : j ≤ i
    · rw [Nat.min_eq_right c, Nat.min_eq_right (by omega)]
    · rw [Nat.min_eq_left (by omega), Nat.min_eq_left (by omega), inos_at hy]
      refine decide_eq_decide.2 (not_congr ?_)
      rw [List.mem_append, List.mem_singleton]
      exact ⟨.inl, fun h => h.resolve_right fun c => e c.symm⟩
theorem One.done {T : List Thing} {xi : Int} {j i : Nat} {o p : Int} {f : Bool} (h : One T xi j i o p f) (hi : i = T.length) (hj : j ≤ T.length) : p = (T.countP fun y => decide (y.stat.inode = xi) : Nat) ∧ f = decide (xi ∉ (inos T).take j) := by
  refine ⟨?_, ?_⟩
  · rw [h.p, hi, List.take_length]
  · rw [h.f, hi, Nat.min_eq_right hj]
theorem Two.start (T : List Thing) (x : Thing) : Two T x 0 0 0 0 := ⟨rfl, rfl, rfl⟩
theorem Two.le {T : List Thing} {x : Thing} {i : Nat} {o p q : Int} (h : Two T x i o p q) : 0 ≤ p ∧ p ≤ i ∧ 0 ≤ q ∧ q ≤ i := by
  have h1 := List.countP_le_length (p := fun y : Thing => decide (x.stat.kind = 2) && (decide (y.path ≠ x.path) && heldB x.path y.path)) (l := T.take i)
  have h2 := List.countP_le_length (p := fun y : Thing => (decide (x.stat.kind = 2) && (decide (y.path ≠ x.path) && heldB x.path y.path)) && decide (y.stat.kind = 2)) (l := T.take i)
  have h3 := List.length_take_le i T
  have h4 := h.p
  have h5 := h.q
  omega
theorem Two.more {T : List Thing} {x : Thing} {i : Nat} {o p q : Int} (h : Two T x i o p q) {y : Thing} (hy : T[i]? = some y) {b c : Bool} (hb : b = (decide (x.stat.kind = 2) && (decide (y.path ≠ x.path) && heldB x.path y.path))) (hc : c = decide (y.stat.kind = 2)) :
    Two T x (i + 1) (o + 1) (if b then p + 1 else p) (if b && c then q + 1 else q) := by
  refine ⟨by rw [h.o]; omega, ?_, ?_⟩
  · rw [count_more hy, ← hb, h.p]
    cases b <;> simp
  · rw [count_more hy, ← hb, ← hc, h.q]
    cases b <;> cases c <;> simp
theorem Two.done {T : List Thing} {x : Thing} {i : Nat} {o p q : Int} (h : Two T x i o p q) (hi : i = T.length) : p = (T.countP fun y => decide (x.stat.kind = 2) && (decide (y.path ≠ x.path) && heldB x.path y.path) : Nat) ∧ q = (T.countP fun y => (decide (x.stat.kind = 2) && (decide (y.path ≠ x.path) && heldB x.path y.path)) && decide (y.stat.kind = 2) : Nat) := by
  refine ⟨?_, ?_⟩
  · rw [h.p, hi, List.take_length]
  · rw [h.q, hi, List.take_length]
section
variable {n : Int} {k : Nat} {s : Tree}
theorem Sums.start (s : Tree) : Sums s 0 0 0 0 := ⟨rfl, rfl, rfl⟩
theorem Sums.more {j : Nat} {o p q : Int} (h : Sums s j o p q) {x : Thing} (hx : (things s)[j]? = some x) {f : Bool} (hf : f = decide (x.stat.inode ∉ (inos (things s)).take j)) :
    Sums s (j + 1) (o + 1) (if f then p + 1 else p) (if f then q + x.stat.blocks else q) := by
  obtain ⟨d1, d2⟩ := dd_more hx
  by_cases c : x.stat.inode ∈ (inos (things s)).take j
  · have : f = false := by rw [hf]; simpa using c
    subst this
    exact ⟨by rw [h.o]; omega, by rw [d1 c]; exact h.p, by rw [d1 c]; exact h.q⟩
  · have : f = true := by rw [hf]; simpa using c
    subst this
    refine ⟨by rw [h.o]; omega, ?_, ?_⟩
    · rw [if_pos rfl, d2 c, h.p]; simp
    · rw [if_pos rfl, d2 c, h.q, thing_blocks hx]; simp
theorem Sums.le (hI : Inv n k s) (hk : k ≤ 1000) {j : Nat} {o p q : Int} (h : Sums s j o p q) : 0 ≤ p ∧ p ≤ j ∧ 0 ≤ q ∧ q ≤ 3000000 * j := by
  obtain ⟨h1, h2, h3⟩ := sums_bound hI hk j
  have := h.p
  have := h.q
  omega
theorem Sums.done (hI : Inv n k s) {j : Nat} {o p q : Int} (h : Sums s j o p q) (hj : j = (things s).length) : p = (s.length : Nat) ∧ q = taken s := by
  have e : (inos (things s)).take j = inos (things s) := by rw [hj]; exact List.take_of_length_le (by unfold inos; rw [List.length_map]; omega)
  refine ⟨?_, ?_⟩
  · rw [h.p, e, many_all hI]
  · rw [h.q, e, blocks_all hI]
end
end Fs
end Go.Proofs.YtlnnbjgfpiefdaaGreat
