/- What every tree keeps gives what the walks ask; each call keeps it. -/
import Derived.Test.YtlnnbjgfpiefdaaGreatRamB31
import Derived.Test.YtlnnbjgfpiefdaaGreatRamB25
import Derived.Test.YtlnnbjgfpiefdaaGreatRamB22
import Derived.Test.YtlnnbjgfpiefdaaGreatRamB24
import Derived.Test.YtlnnbjgfpiefdaaGreatRamB28
namespace Go.Proofs.YtlnnbjgfpiefdaaGreat
namespace Fs
theorem doC_1 (n : Int) (s : Tree) {c : Call} (h : c.kind = 1) : doC n s c = ansN (fin n s (fresh n s c.path newFile)) := by
  unfold doC
  rw [if_pos h]
theorem doC_2 (n : Int) (s : Tree) {c : Call} (h : c.kind = 2) : doC n s c = ansN (fin n s (fresh n s c.path newDir)) := by
  unfold doC
  rw [if_neg (by rw [h]; decide), if_pos h]
theorem doC_10 (n : Int) (s : Tree) {c : Call} (h : c.kind = 10) : doC n s c = (match textP c.other with | .error e => (s, { err := e }) | .ok _ => ansN (fin n s (fresh n s c.path (newLink c.other)))) := by
  unfold doC
  rw [if_neg (by rw [h]; decide), if_neg (by rw [h]; decide), if_pos h]
  rfl
theorem doC_3 (n : Int) (s : Tree) {c : Call} (h : c.kind = 3) : doC n s c = (if c.off < 0 ∨ c.size < 0 ∨ 16384 < c.size then (s, { err := 1 }) else match fileP s c.path with | .error e => (s, { err := e }) | .ok i => (s, { data := readN (ndAt s i) c.off c.size, n := (readN (ndAt s i) c.off c.size).length })) := by
  unfold doC
  rw [if_neg (by rw [h]; decide), if_neg (by rw [h]; decide), if_neg (by rw [h]; decide), if_pos h]
  rfl
theorem doC_4 (n : Int) (s : Tree) {c : Call} (h : c.kind = 4) : doC n s c = (if c.off < 0 ∨ 16384 < c.data.length then (s, { err := 1 }) else match fileP s c.path with | .error e => (s, { err := e }) | .ok i => match openP s i with | .error e => (s, { err := e }) | .ok i => ansE c.data.length (fin n s (writeD s i c.off c.data))) := by
  unfold doC
  rw [if_neg (by rw [h]; decide), if_neg (by rw [h]; decide), if_neg (by rw [h]; decide), if_neg (by rw [h]; decide), if_pos h]
  rfl
theorem doC_5 (n : Int) (s : Tree) {c : Call} (h : c.kind = 5) : doC n s c = (if c.size < 0 then (s, { err := 1 }) else match fileP s c.path with | .error e => (s, { err := e }) | .ok i => match openP s i with | .error e => (s, { err := e }) | .ok i => ansE 0 (fin n s (cutD s i c.size))) := by
  unfold doC
  rw [if_neg (by rw [h]; decide), if_neg (by rw [h]; decide), if_neg (by rw [h]; decide), if_neg (by rw [h]; decide), if_neg (by rw [h]; decide), if_pos h]
  rfl
theorem doC_6 (n : Int) (s : Tree) {c : Call} (h : c.kind = 6) : doC n s c = ansE 0 (fin n s (unlinkD s c.path false)) := by
  unfold doC
  rw [if_neg (by rw [h]; decide), if_neg (by rw [h]; decide), if_neg (by rw [h]; decide), if_neg (by rw [h]; decide), if_neg (by rw [h]; decide), if_neg (by rw [h]; decide), if_pos h]
theorem doC_7 (n : Int) (s : Tree) {c : Call} (h : c.kind = 7) : doC n s c = ansE 0 (fin n s (rmdirD s c.path)) := by
  unfold doC
  rw [if_neg (by rw [h]; decide), if_neg (by rw [h]; decide), if_neg (by rw [h]; decide), if_neg (by rw [h]; decide), if_neg (by rw [h]; decide), if_neg (by rw [h]; decide), if_neg (by rw [h]; decide), if_pos h]
theorem doC_8 (n : Int) (s : Tree) {c : Call} (h : c.kind = 8) : doC n s c = ansE 0 (fin n s (renameD s c.path c.other false)) := by
  unfold doC
  rw [if_neg (by rw [h]; decide), if_neg (by rw [h]; decide), if_neg (by rw [h]; decide), if_neg (by rw [h]; decide), if_neg (by rw [h]; decide), if_neg (by rw [h]; decide), if_neg (by rw [h]; decide), if_neg (by rw [h]; decide), if_pos h]
theorem doC_9 (n : Int) (s : Tree) {c : Call} (h : c.kind = 9) : doC n s c = ansE 0 (fin n s (linkD s c.path c.other)) := by
  unfold doC
  rw [if_neg (by rw [h]; decide), if_neg (by rw [h]; decide), if_neg (by rw [h]; decide), if_neg (by rw [h]; decide), if_neg (by rw [h]; decide), if_neg (by rw [h]; decide), if_neg (by rw [h]; decide), if_neg (by rw [h]; decide), if_neg (by rw [h]; decide), if_pos h]
theorem doC_tell (n : Int) (s : Tree) {c : Call} (h : c.kind = 11 ∨ c.kind = 12 ∨ c.kind = 13 ∨ c.kind = 14) : doC n s c = (s, tell s c) := by
  unfold doC
  rw [if_neg (by omega), if_neg (by omega), if_neg (by omega), if_neg (by omega), if_neg (by omega), if_neg (by omega), if_neg (by omega), if_neg (by omega), if_neg (by omega), if_neg (by omega), if_pos h]
theorem doC_room (n : Int) (s : Tree) {c : Call} (h : c.kind = 15) : doC n s c = (s, { room := ⟨n - dataAt n - taken s, n - dataAt n, countOf n - 1 - s.length, countOf n - 1⟩ }) := by
  unfold doC
  rw [if_neg (by omega), if_neg (by omega), if_neg (by omega), if_neg (by omega), if_neg (by omega), if_neg (by omega), if_neg (by omega), if_neg (by omega), if_neg (by omega), if_neg (by omega), if_neg (by omega), if_pos h]
theorem doC_else (n : Int) (s : Tree) {c : Call} (h : c.kind < 1 ∨ 15 < c.kind) : doC n s c = (s, { err := 1 }) := by
  unfold doC
  rw [if_neg (by omega), if_neg (by omega), if_neg (by omega), if_neg (by omega), if_neg (by omega), if_neg (by omega), if_neg (by omega), if_neg (by omega), if_neg (by omega), if_neg (by omega), if_neg (by omega), if_neg (by omega)]
section
variable {n : Int} {k : Nat} {s : Tree}
theorem NdInv.ok {x : Nd} (h : NdInv k x) (hk : k ≤ 1000) : NdOk x := by
  refine ⟨h.kind, ?_, ?_, ?_, by have := h.text; omega⟩
  · rcases h.kind with e | e | e
    · obtain ⟨_, _, h3, h4, h5, h6⟩ := h.file e
      have := rising_len x.pieces 0 16523 (by omega) h3 (fun p hp => by have := h4 p hp; omega)
      omega
    · rw [(h.dir e).1]; simp
    · rw [(h.link e).2.1]; simp
  · intro p hp
    rcases h.kind with e | e | e
    · obtain ⟨_, _, h3, h4, h5, h6⟩ := h.file e
      have := h4 p hp; omega
    · rw [(h.dir e).1] at hp; cases hp
    · rw [(h.link e).2.1] at hp; cases hp
  · by_cases e : x.kind = 2
    · have := h.dir e; omega
    · rw [h.blk e]; omega
theorem NdInv.size {x : Nd} (h : NdInv k x) (hk : k ≤ 1000) : 0 ≤ x.size ∧ x.size ≤ 8459264 := by
  rcases h.kind with e | e | e
  · exact (h.file e).2.2.2.2
  · have := h.dir e; omega
  · have := h.link e; have := h.text; omega
theorem Inv.tok (h : Inv n k s) (hk : k ≤ 1000) : TOk s := ⟨fun i x hx => (h.nd i x hx).ok hk, by have := h.len; omega⟩
theorem Inv.links_bound (h : Inv n k s) {i : Int} {x : Nd} (hx : get s i = some x) : 0 ≤ x.links ∧ x.links ≤ k + 2 := by
  have h1 := h.links i (by rw [hx]; simp)
  have h2 : linksOf s i = x.links := by unfold linksOf; rw [hx]; rfl
  have h3 : refs s i ≤ k := Nat.le_trans List.countP_le_length h.total
  have h4 : subs s i ≤ k := Nat.le_trans List.countP_le_length h.total
  unfold df at h1
  rw [h2] at h1
  split at h1 <;> omega
theorem Inv.fit (h : Inv n k s) (hk : k ≤ 1000) (hn1 : 128 ≤ n) (hn2 : n ≤ 16384) : Fit s where
  closed := fun i p hp => by
    cases hx : get s i with
    | none => rw [names_none hx] at hp; cases hp
    | some x =>
      rw [namesGet hx] at hp
      have : nmF s i p.1 = some p.2 := by unfold nmF; rw [namesGet hx]; exact (h.rise i x hx).get.2 hp
      have := (h.dir_of this).2.1
      exact Option.isSome_iff_ne_none.2 this
  ids := fun i x hx => by
    have := h.keys i x hx
    unfold countOf at this
    omega
  kinds := fun i x hx => (h.nd i x hx).kind
  root := h.shape.root
  texts := fun i x hx => by have := (h.nd i x hx).text; omega
  many := fun i x hx => by
    have hd := h.nd i x hx
    have hl := h.links_bound hx
    have hb := (hd.ok hk).blocks
    refine ⟨?_, hb.1, hb.2, by omega, by omega⟩
    rcases hd.kind with e | e | e
    · rw [(hd.file e).1]; simp
    · have := hd.dir e; omega
    · rw [(hd.link e).1]; simp
  len := by have := h.len; omega
  pos := fun i x hx => by have := h.keys i x hx; omega
theorem Inv.deep_at (h : Inv n k s) : ∀ (j : Nat) (i : Int) (pre : List Int), Run (nmF s) (kindOf s) 1 pre i → 32 ≤ pre.length + j → Deep s j i
  | 0, i, pre, hr, hl => by
    unfold Deep
    cases hx : namesOf s i with
    | nil => rfl
    | cons p r =>
      have hi : kindOf s i = 2 := hr.kind h.shape.root
      obtain ⟨x, hgx, _⟩ := kindGet hi (by decide)
      have : nmF s i p.1 = some p.2 := by
        unfold nmF; rw [namesGet hgx]
        rw [namesGet hgx] at hx
        exact (h.rise i x hgx).get.2 (by rw [hx]; simp)
      have := h.shape.deep _ _ _ _ hr this
      omega
  | j + 1, i, pre, hr, hl => fun p hp hk => by
    have hi : kindOf s i = 2 := hr.kind h.shape.root
    obtain ⟨x, hgx, _⟩ := kindGet hi (by decide)
    rw [namesGet hgx] at hp
    have : nmF s i p.1 = some p.2 := by
      unfold nmF; rw [namesGet hgx]
      exact (h.rise i x hgx).get.2 hp
    exact h.deep_at j p.2 (pre ++ [i]) (hr.snoc this hk) (by rw [List.length_append, List.length_singleton]; omega)
theorem Inv.snug (h : Inv n k s) (hk : k ≤ 1000) (hn1 : 128 ≤ n) (hn2 : n ≤ 16384) : Snug s where
  toFit := h.fit hk hn1 hn2
  tight := fun i x hx => by have := h.links_bound hx; omega
  deep := fun i hi => by
    obtain ⟨pre, hr⟩ := h.shape.reach i hi
    exact h.deep_at 39 i pre hr (by omega)
theorem Inv.filed (h : Inv n k s) (hk : k ≤ 1000) : Filed s := fun i x hx => by
  have hd := h.nd i x hx
  refine ⟨hd.ok hk, fun e => ?_⟩
  obtain ⟨_, h2, h3, h4, h5, h6⟩ := hd.file e
  refine ⟨?_, h2⟩
  have := rising_len x.pieces 0 16523 (by omega) h3 (fun p hp => by have := h4 p hp; omega)
  omega
theorem taken_bound (hs : ∀ p ∈ s, NdOk p.2) : 0 ≤ taken s ∧ taken s ≤ 3000000 * s.length := by
  unfold taken
  induction s with
  | nil => simp
  | cons p r ih =>
    have h1 := ih fun q hq => hs q (List.mem_cons_of_mem _ hq)
    have h2 := blocksOf_bound (hs p (by simp))
    rw [List.map_cons, List.sum_cons, List.length_cons]
    omega
theorem Inv.taken (h : Inv n k s) (hk : k ≤ 1000) : 0 ≤ Fs.taken s ∧ Fs.taken s ≤ 1000000000000 := by
  have := taken_bound (s := s) fun p hp => (h.nd p.1 p.2 (h.rising.get.2 hp)).ok hk
  have := h.len
  omega
/-- There is room. -/
def Roomy (n : Int) (s : Tree) : Prop := Fs.taken s ≤ n - dataAt n
theorem fin_inv (h : Inv n k s) (hR : Roomy n s) {r : Did} (hr : ∀ s' t v, r = .ok (s', t, v) → Inv n (k + 1) s' ∧ (t = false → s' = s)) : Inv n (k + 1) (fin n s r).1 ∧ Roomy n (fin n s r).1 := by
  unfold fin
  cases r with
  | error e => exact ⟨h.mono (Nat.le_succ k), hR⟩
  | ok x =>
    obtain ⟨s', t, v⟩ := x
    dsimp only
    obtain ⟨h1, h2⟩ := hr s' t v rfl
    split
    · exact ⟨h.mono (Nat.le_succ k), hR⟩
    · rename_i hc
      refine ⟨h1, ?_⟩
      cases t with
      | false => rw [h2 rfl]; exact hR
      | true =>
        exact Int.not_lt.1 fun e => hc ⟨rfl, e⟩
theorem ansN_fst (r : Tree × Except Int Int) : (ansN r).1 = r.1 := by unfold ansN; split <;> rfl
theorem ansE_fst (v : Int) (r : Tree × Except Int Int) : (ansE v r).1 = r.1 := by unfold ansE; split <;> rfl
theorem newFile_inv : NdInv k newFile := ⟨.inl rfl, fun _ => ⟨rfl, (fun e he => by cases he), Rising.nil, (fun p hp => by cases hp), by decide, by decide⟩, (fun e => by cases e), (fun e => by cases e), by decide, fun _ => rfl⟩
theorem newDir_inv : NdInv k newDir := ⟨.inr (.inl rfl), (fun e => by cases e), fun _ => ⟨rfl, rfl, by decide, by show (0 : Int) ≤ k; omega, by decide⟩, (fun e => by cases e), by decide, fun e => absurd rfl e⟩
theorem newLink_inv {t : Tx} (ht : t.length ≤ 1024) : NdInv k (newLink t) := ⟨.inr (.inr rfl), (fun e => by cases e), (fun e => by cases e), fun _ => ⟨rfl, rfl, rfl⟩, ht, fun _ => rfl⟩
theorem textP_len {t : Tx} {r : List Tx × Bool} (h : textP t = .ok r) : t.length ≤ 1024 := by
  unfold textP at h
  split at h
  · cases h
  · split at h
    · cases h
    · rename_i l hc
      unfold comps at hc
      split at hc
      · rename_i hcc; exact hcc.1
      · cases hc
theorem fileP_some (h : Inv n k s) (hk : k ≤ 1000) (hn1 : 128 ≤ n) (hn2 : n ≤ 16384) {p : Tx} {i : Int} (hp : fileP s p = .ok i) : ∃ x, get s i = some x ∧ x.kind = 1 := fileP_kind (h.fit hk hn1 hn2) hp
/-- Which changes have been noted. -/
theorem fresh_true {p : Tx} {x : Nd} {s' : Tree} {t : Bool} {v : Int} (h : fresh n s p x = .ok (s', t, v)) : t = true := by
  unfold fresh at h
  split at h
  · cases h
  · split at h
    · cases h
    · split at h
      · cases h
      · split at h
        · cases h
        · cases h; rfl
theorem openP_same {i j : Int} (h : openP s i = .ok j) : j = i := by
  unfold openP at h
  repeat' split at h
  all_goals first | (cases h; rfl) | cases h
theorem moveD_true {a b : Place} {hold : Bool} {s' : Tree} {t : Bool} {v : Int} (h : moveD s a b hold = .ok (s', t, v)) : t = true := by
  unfold moveD at h
  by_cases c1 : b.inode ≠ 0 ∧ kindOf s b.inode = 2 ∧ kindOf s a.inode ≠ 2
  · rw [if_pos c1] at h; cases h
  rw [if_neg c1] at h
  by_cases c2 : b.inode ≠ 0 ∧ kindOf s b.inode ≠ 2 ∧ kindOf s a.inode = 2
  · rw [if_pos c2] at h; cases h
  rw [if_neg c2] at h
  by_cases c3 : kindOf s a.inode = 2 ∧ a.inode ∈ b.chain
  · rw [if_pos c3] at h; cases h
  rw [if_neg c3] at h
  by_cases c4 : b.inode ≠ 0 ∧ kindOf s b.inode = 2 ∧ 0 < (namesOf s b.inode).length
  · rw [if_pos c4] at h; cases h
  rw [if_neg c4] at h
  by_cases c5 : 32 < (b.chain.length : Int) + (if kindOf s a.inode = 2 then height s 40 a.inode else 0)
  · rw [if_pos c5] at h; cases h
  rw [if_neg c5] at h
  dsimp only at h
  generalize (if kindOf s a.inode = 2 then linksN (linksN s a.dir (-1)) b.dir 1 else s) = s1 at h
  by_cases c6 : b.inode = 0
  · rw [if_pos c6] at h; cases h; rfl
  · rw [if_neg c6] at h
    by_cases c7 : kindOf s b.inode = 2
    · rw [if_pos c7] at h; cases h; rfl
    · rw [if_neg c7] at h; cases h; rfl
theorem rename_false {old other : Tx} {hold : Bool} {s' : Tree} {v : Int} (h : renameD s old other hold = .ok (s', false, v)) : s' = s := by
  unfold renameD at h
  split at h
  · cases h
  · split at h
    · cases h
    · split at h
      · cases h
      · split at h
        · cases h
        · split at h
          · cases h
          · split at h
            · cases h
            · split at h
              · cases h; rfl
              · cases moveD_true h
/-- Every call keeps it. -/
theorem do_inv (h : Inv n k s) (hR : Roomy n s) (hk : k ≤ 1000) (hn1 : 128 ≤ n) (hn2 : n ≤ 16384) (c : Call) : Inv n (k + 1) (doC n s c).1 ∧ Roomy n (doC n s c).1 := by
  have same : Inv n (k + 1) s ∧ Roomy n s := ⟨h.mono (Nat.le_succ k), hR⟩
  by_cases c1 : c.kind = 1
  · rw [doC_1 n s c1, ansN_fst]
    exact fin_inv h hR fun s' t v e => ⟨fresh_inv h newFile_inv rfl rfl e, fun f => by rw [fresh_true e] at f; cases f⟩
  by_cases c2 : c.kind = 2
  · rw [doC_2 n s c2, ansN_fst]
    exact fin_inv h hR fun s' t v e => ⟨fresh_inv h newDir_inv rfl rfl e, fun f => by rw [fresh_true e] at f; cases f⟩
  by_cases c10 : c.kind = 10
  · rw [doC_10 n s c10]
    split
    · exact same
    · rename_i r hr
      rw [ansN_fst]
      exact fin_inv h hR fun s' t v e => ⟨fresh_inv h (newLink_inv (textP_len hr)) rfl rfl e, fun f => by rw [fresh_true e] at f; cases f⟩
  by_cases c3 : c.kind = 3
  · rw [doC_3 n s c3]
    split
    · exact same
    · split <;> exact same
  by_cases c4 : c.kind = 4
  · rw [doC_4 n s c4]
    split
    · exact same
    · rename_i h1
      split
      · exact same
      · rename_i i hi
        obtain ⟨x, hx, hxk⟩ := fileP_some h hk hn1 hn2 hi
        split
        · exact same
        · rename_i j hj
          rw [ansE_fst]
          rw [openP_same hj]
          refine fin_inv h hR fun s' t v e => ⟨write_inv h hx hxk (by omega) e, fun f => ?_⟩
          rw [f] at e
          unfold writeD at e
          repeat' split at e
          all_goals first | (cases e; rfl) | cases e
  by_cases c5 : c.kind = 5
  · rw [doC_5 n s c5]
    split
    · exact same
    · rename_i h1
      split
      · exact same
      · rename_i i hi
        obtain ⟨x, hx, hxk⟩ := fileP_some h hk hn1 hn2 hi
        split
        · exact same
        · rename_i j hj
          rw [ansE_fst]
          rw [openP_same hj]
          refine fin_inv h hR fun s' t v e => ⟨cut_inv h hx hxk (by omega) e, fun f => ?_⟩
          rw [f] at e
          unfold cutD at e
          repeat' split at e
          all_goals first | (cases e; rfl) | cases e
  by_cases c6 : c.kind = 6
  · rw [doC_6 n s c6, ansE_fst]
    refine fin_inv h hR fun s' t v e => ⟨unlink_inv h e, fun f => ?_⟩
    rw [f] at e
    unfold unlinkD at e
    repeat' split at e
    all_goals cases e
  by_cases c7 : c.kind = 7
  · rw [doC_7 n s c7, ansE_fst]
    refine fin_inv h hR fun s' t v e => ⟨rmdir_inv h e, fun f => ?_⟩
    rw [f] at e
    unfold rmdirD at e
    repeat' split at e
    all_goals cases e
  by_cases c8 : c.kind = 8
  · rw [doC_8 n s c8, ansE_fst]
    exact fin_inv h hR fun s' t v e => ⟨rename_inv h e, fun f => rename_false (f ▸ e)⟩
  by_cases c9 : c.kind = 9
  · rw [doC_9 n s c9, ansE_fst]
    refine fin_inv h hR fun s' t v e => ⟨link_inv h e, fun f => ?_⟩
    rw [f] at e
    unfold linkD at e
    repeat' split at e
    all_goals cases e
  by_cases ct : c.kind = 11 ∨ c.kind = 12 ∨ c.kind = 13 ∨ c.kind = 14
  · rw [doC_tell n s ct]; exact same
  by_cases c15 : c.kind = 15
  · rw [doC_room n s c15]; exact same
  · rw [doC_else n s (by omega)]; exact same
theorem root_inv (hn1 : 128 ≤ n) : Inv n 0 Fs.root where
  rising := List.pairwise_singleton _ _
  keys := fun i x hx => by
    unfold Fs.root get at hx
    simp only [List.find?_cons, List.find?_nil] at hx
    by_cases e : (1 : Int) = i
    · subst e; unfold countOf; omega
    · simp [e] at hx
  rise := fun i x hx => by
    have := get_mem hx
    simp only [Fs.root, List.mem_singleton, Prod.mk.injEq] at this
    rw [this.2]; exact Rising.nil
  nd := fun i x hx => by
    have := get_mem hx
    simp only [Fs.root, List.mem_singleton, Prod.mk.injEq] at this
    rw [this.2]; exact newDir_inv
  shape := by
    have hn : ∀ d c, nmF Fs.root d c = none := fun d c => by
      unfold nmF namesOf Fs.root get
      simp only [List.find?_cons, List.find?_nil]
      by_cases e : (1 : Int) = d <;> simp [e, newDir]
    have hk : ∀ d, kindOf Fs.root d = if d = 1 then 2 else 0 := fun d => by
      unfold kindOf Fs.root get
      simp only [List.find?_cons, List.find?_nil]
      by_cases e : (1 : Int) = d
      · subst e; rfl
      · simp [e, show ¬ d = 1 from fun c => e c.symm]
    refine ⟨by rw [hk]; rfl, fun d c m e => (by rw [hn] at e; cases e), fun d c d' c' m e => (by rw [hn] at e; cases e), fun d e => ?_, fun p d c m _ e => (by rw [hn] at e; cases e)⟩
    rw [hk] at e
    split at e
    · rename_i e1; rw [e1]; exact ⟨[], .nil⟩
    · cases e
  links := fun i hi => by
    cases hx : get Fs.root i with
    | none => exact absurd hx hi
    | some x =>
      have := get_mem hx
      simp only [Fs.root, List.mem_singleton, Prod.mk.injEq] at this
      rw [this.1]; rfl
  named := fun i hi h1 => by
    cases hx : get Fs.root i with
    | none => exact absurd hx hi
    | some x =>
      have := get_mem hx
      simp only [Fs.root, List.mem_singleton, Prod.mk.injEq] at this
      exact absurd this.1 h1
  total := by decide
  len := by decide
theorem root_room (hn1 : 128 ≤ n) (hn2 : n ≤ 16384) : Roomy n Fs.root := by
  unfold Roomy
  rw [show Fs.taken Fs.root = 0 by decide]
  unfold dataAt; omega
end
end Fs
end Go.Proofs.YtlnnbjgfpiefdaaGreat
/- Written and cut by a path: numbers below zero. -/
namespace Go.Proofs.YtlnnbjgfpiefdaaGreat
open Go.RowKit Go.Maps Go.Shelf

namespace Fs
section
variable {W : World} {L : Lay} {fb : Nat} {n : Int} {nb : Nat}
set_option maxRecDepth 100000 in
set_option maxHeartbeats 4000000 in
theorem writePath_neg (h : Sim W L fb n nb (.slice none 0 0) []) (hw : WF L nb) (c : Call) (c2 : c.off < 0) :
    Calls Tryz.prog 27 #[.pointer (some ⟨fb, 0, none⟩), .agg (callC c)] W fun e W' => Errd fb n nb W L (.slice none 0 0) (writePathR n (stOf L nb) c) e W' := by
  obtain ⟨W1, hW1⟩ : ∃ x, x = W.alloc (.cells (callC c) 38) := ⟨_, rfl⟩
  have hb1 : Below W.heap.size W W1 := by rw [hW1]; exact (Below.refl _ _).alloc (Nat.le_refl _) _
  have S1 := h.below hb1
  unfold callC at *
  unfold writePathR
  rw [if_pos (.inl c2)]
  unfold Errd
  go_enter Tryz.func27, Tryz.ntmps27
  go_wp2_with fail
  rw [← hW1]
  go_ret
  first | exact ⟨L, S1, hw, rfl, Step.of_below hb1, rfl, by decide⟩ | exact ⟨L, S1, hw, rfl, Step.of_below hb1, rfl⟩
set_option maxRecDepth 100000 in
set_option maxHeartbeats 4000000 in
theorem cutPath_neg (h : Sim W L fb n nb (.slice none 0 0) []) (hw : WF L nb) (c : Call) (c2 : c.size < 0) :
    Calls Tryz.prog 28 #[.pointer (some ⟨fb, 0, none⟩), .agg (callC c)] W fun e W' => Errd fb n nb W L (.slice none 0 0) (cutPathR n (stOf L nb) c) e W' := by
  obtain ⟨W1, hW1⟩ : ∃ x, x = W.alloc (.cells (callC c) 38) := ⟨_, rfl⟩
  have hb1 : Below W.heap.size W W1 := by rw [hW1]; exact (Below.refl _ _).alloc (Nat.le_refl _) _
  have S1 := h.below hb1
  unfold callC at *
  unfold cutPathR
  rw [if_pos c2]
  unfold Errd
  go_enter Tryz.func28, Tryz.ntmps28
  go_wp2_with fail
  rw [← hW1]
  go_ret
  first | exact ⟨L, S1, hw, rfl, Step.of_below hb1, rfl, by decide⟩ | exact ⟨L, S1, hw, rfl, Step.of_below hb1, rfl⟩
end
end Fs
end Go.Proofs.YtlnnbjgfpiefdaaGreat
/- answer: each kind of call. -/
namespace Go.Proofs.YtlnnbjgfpiefdaaGreat
open Go.RowKit Go.Maps Go.Shelf

namespace Fs
abbrev nilS : Value := .slice none 0 0
/-- What a call comes to. -/
def Answd (fb : Nat) (n : Int) (nb : Nat) (W : World) (L : Lay) (r : Tree × Ans) (e : Ending) (W' : World) : Prop :=
  ∃ L', Sim W' L' fb n nb (.slice none 0 0) [] ∧ WF L' nb ∧ stOf L' nb = r.1 ∧ Step W (Mine L (.slice none 0 0)) W' (Mine L' (.slice none 0 0)) ∧
    ∃ cs, e = .returned (.agg cs) ∧ cs.size = 13 ∧ cs[0]? = some (.int .i64 r.2.err) ∧ cs.all (·.oneCell') = true ∧
      (r.2.err = 0 → ∃ v, cs = ansC r.2 v ∧ W'.ownsRow W.heap.size 9 1 v r.2.names.length (strsV r.2.names) ∧ (v = .slice none 0 0 ↔ r.2.names = []) ∧ ∀ g, v.ownBlock = some g → ¬ Mine L' (.slice none 0 0) g)
/-- What all walks of a call ask. -/
structure Asked (n : Int) (s : Tree) : Prop where
  snug : Snug s
  filed : Filed s
  sizes : ∀ i x, get s i = some x → x.size ≤ 8459264
  len : s.length ≤ 1000000
  t1 : 0 ≤ taken s
  t2 : taken s ≤ 1000000000000
  n1 : 128 ≤ n
  n2 : n ≤ 16384
theorem Inv.asked {n : Int} {k : Nat} {s : Tree} (h : Inv n k s) (hk : k ≤ 1000) (hn1 : 128 ≤ n) (hn2 : n ≤ 16384) : Asked n s :=
  ⟨h.snug hk hn1 hn2, h.filed hk, fun i x hx => ((h.nd i x hx).size hk).2, by have := h.len; omega, (h.taken hk).1, (h.taken hk).2, hn1, hn2⟩
set_option maxRecDepth 100000 in
theorem answer_results {tmps : Array Value} {w : World} {b : Nat} {v0 v1 v2 v3 v4 v5 v6 v7 v8 v9 v10 v11 v12 : Value} {t : TypeId} (h4 : tmps[4]? = some (.pointer (some ⟨b, 0, none⟩))) (hb : Blk w b #[v0, v1, v2, v3, v4, v5, v6, v7, v8, v9, v10, v11, v12] t) :
    (results Tryz.f18 tmps).run Tryz.prog w = .ok (.agg #[v0, v1, v2, v3, v4, v5, v6, v7, v8, v9, v10, v11, v12]) w := by
  have c0 : w.cell? ⟨b, 0, none⟩ = some v0 := hb.cell 0
  have c1 : w.cell? ⟨b, 1, none⟩ = some v1 := hb.cell 1
  have c2 : w.cell? ⟨b, 2, none⟩ = some v2 := hb.cell 2
  have c3 : w.cell? ⟨b, 3, none⟩ = some v3 := hb.cell 3
  have c4 : w.cell? ⟨b, 4, none⟩ = some v4 := hb.cell 4
  have c5 : w.cell? ⟨b, 5, none⟩ = some v5 := hb.cell 5
  have c6 : w.cell? ⟨b, 6, none⟩ = some v6 := hb.cell 6
  have c7 : w.cell? ⟨b, 7, none⟩ = some v7 := hb.cell 7
  have c8 : w.cell? ⟨b, 8, none⟩ = some v8 := hb.cell 8
  have c9 : w.cell? ⟨b, 9, none⟩ = some v9 := hb.cell 9
  have c10 : w.cell? ⟨b, 10, none⟩ = some v10 := hb.cell 10
  have c11 : w.cell? ⟨b, 11, none⟩ = some v11 := hb.cell 11
  have c12 : w.cell? ⟨b, 12, none⟩ = some v12 := hb.cell 12
  simp [results, Tryz.results18, go_sem, h4, c0, c1, c2, c3, c4, c5, c6, c7, c8, c9, c10, c11, c12]
section
variable {W X w2 w3 : World} {L L2 : Lay} {fb : Nat} {n : Int} {nb : Nat} {uv : Value} {vals : List Value}
/-- The end of a walk: the answer's block was written, no other one. -/
theorem answ_end (hbX : Below W.heap.size W X) (hlt : W.heap.size + 1 < X.heap.size) (SX : Sim W L fb n nb (.slice none 0 0) []) (T2 : Step X (Mine L (.slice none 0 0)) w2 (Mine L2 (.slice none 0 0))) (S2 : Sim w2 L2 fb n nb (.slice none 0 0) [])
    (hos : w3.os = w2.os) (ht : w3.tape = w2.tape) (ho : w3.output = w2.output) (hsz : w3.heap.size = w2.heap.size) (hk : ∀ b, b ≠ W.heap.size + 1 → w3.heap[b]? = w2.heap[b]?) :
    Sim w3 L2 fb n nb (.slice none 0 0) [] ∧ Step W (Mine L (.slice none 0 0)) w3 (Mine L2 (.slice none 0 0)) := by
  have hm : ¬ Mine L (.slice none 0 0) (W.heap.size + 1) := SX.not_mine (by omega)
  have hm2 := (T2.block _ hlt hm).2
  refine ⟨S2.same (by omega) fun b hb => hk b fun e => hm2 (e ▸ hb), ?_⟩
  refine ⟨hos.trans (T2.os.trans hbX.os), ht.trans (T2.tape.trans hbX.tape), ho.trans (T2.output.trans hbX.output), by have := T2.size; have := hbX.size; omega, fun k hk1 hk2 => ?_⟩
  have h1 := T2.block k (Nat.lt_of_lt_of_le hk1 hbX.size) hk2
  exact ⟨(hk k (by omega)).trans (h1.1.trans (hbX.block k hk1)), h1.2⟩
theorem Step.of_below' {W W' : World} {P : Nat → Prop} (h : Below W.heap.size W W') : Step W P W' P := Step.of_below h
end
end Fs
end Go.Proofs.YtlnnbjgfpiefdaaGreat
/- All things of a tree, in the order of their names: which there are, how many. No program in sight. -/
namespace Go.Proofs.YtlnnbjgfpiefdaaGreat
namespace Fs
/-- What lies below an inode: its names from the root, and the name that leads to it. -/
def tre (s : Tree) : Nat → List Tx → Int → List (List Tx × En)
  | 0, _, _ => []
  | k + 1, cs, i => if kindOf s i = 2 then (namesOf s i).flatMap fun e => (cs ++ [e.1], (i, e.1, e.2)) :: tre s k (cs ++ [e.1]) e.2 else []
/-- An inode and what lies below it. -/
def lst (s : Tree) (k : Nat) (cs : List Tx) (i : Int) : List (List Tx × Int) := (cs, i) :: (tre s k cs i).map fun e => (e.1, e.2.2.2)
theorem lst_succ (s : Tree) (k : Nat) (cs : List Tx) (i : Int) : lst s (k + 1) cs i = (cs, i) :: if kindOf s i = 2 then (namesOf s i).flatMap (fun e => lst s k (cs ++ [e.1]) e.2) else [] := by
  unfold lst
  conv => lhs; rw [tre]
  split
  · rw [List.map_flatMap]; rfl
  · rfl
/-- By names from an inode to another one. -/
inductive Way (s : Tree) : Int → List Tx → Int → Prop
  | nil (d : Int) : Way s d [] d
  | cons {d : Int} {c : Tx} {x : Int} {cs : List Tx} {m : Int} : nmF s d c = some x → Way s x cs m → Way s d (c :: cs) m
section
variable {n : Int} {k : Nat} {s : Tree}
theorem Way.snoc {d : Int} {cs : List Tx} {x : Int} {c : Tx} {m : Int} (h : Way s d cs x) (hc : nmF s x c = some m) : Way s d (cs ++ [c]) m := by
  induction h with
  | nil => exact .cons hc (.nil _)
  | cons h1 _ ih => exact .cons h1 (ih hc)
theorem Way.last {d : Int} {cs : List Tx} {m : Int} (h : Way s d cs m) (hne : cs ≠ []) : ∃ ps x c, cs = ps ++ [c] ∧ Way s d ps x ∧ nmF s x c = some m := by
  induction h with
  | nil => exact absurd rfl hne
  | @cons d c x cs m h1 h2 ih =>
    cases cs with
    | nil => cases h2; exact ⟨[], d, c, rfl, .nil _, h1⟩
    | cons c' r =>
      obtain ⟨ps, y, e, h3, h4, h5⟩ := ih (by simp)
      exact ⟨c :: ps, y, e, by rw [h3]; rfl, .cons h1 h4, h5⟩
theorem Way.same {d : Int} {cs : List Tx} {m m' : Int} (h : Way s d cs m) (h' : Way s d cs m') : m = m' := by
  induction h with
  | nil => cases h'; rfl
  | cons h1 _ ih =>
    cases h' with
    | cons h1' h2' => rw [h1] at h1'; cases h1'; exact ih h2'
theorem Way.append {a b x : Int} {cs ds : List Tx} (h : Way s a cs b) (h' : Way s b ds x) : Way s a (cs ++ ds) x := by
  induction h with
  | nil => exact h'
  | cons h1 _ ih => exact .cons h1 (ih h')
/-- As a way over directories. -/
theorem Inv.way_run (h : Inv n k s) {cs : List Tx} {x : Int} : ∀ {d : Int}, Way s d cs x → kindOf s d = 2 → kindOf s x = 2 → ∃ l, Run (nmF s) (kindOf s) d l x ∧ l.length = cs.length := by
  induction cs with
  | nil => intro d hw _ _; cases hw; exact ⟨[], .nil, rfl⟩
  | cons c r ih =>
    intro d hw hd hx
    cases hw with
    | @cons _ _ y _ _ h1 h2 =>
      have hy : kindOf s y = 2 := by
        cases h2 with
        | nil => exact hx
        | cons h3 _ => exact (h.dir_of h3).1
      obtain ⟨l, h3, h4⟩ := ih h2 hy hx
      exact ⟨[d] ++ l, (Run.nil.snoc (pre := []) h1 hy).append h3, by simp [h4]⟩
/-- A way leads no deeper than 32. -/
theorem Inv.way_len (h : Inv n k s) {cs : List Tx} {x : Int} (hw : Way s 1 cs x) : cs.length ≤ 32 := by
  by_cases hne : cs = []
  · rw [hne]; simp
  · obtain ⟨ps, y, c, rfl, h1, h2⟩ := hw.last hne
    obtain ⟨l, h3, h4⟩ := h.way_run h1 h.shape.root (h.dir_of h2).1
    have := h.shape.deep _ _ _ _ h3 h2
    rw [List.length_append, List.length_singleton]; omega
theorem Inv.way_names (h : Inv n k s) {cs : List Tx} {d x : Int} (hw : Way s d cs x) : ∀ c ∈ cs, NameOk c := by
  induction hw with
  | nil => intro c hc; cases hc
  | cons h1 _ ih => intro c hc; rcases List.mem_cons.1 hc with e | e; · rw [e]; exact (h.shape.ent _ _ _ h1).1
                    · exact ih c e
/-- A directory has one way. -/
theorem Inv.way_one (h : Inv n k s) {ds : List Tx} : ∀ {cs : List Tx} {x : Int}, Way s 1 cs x → Way s 1 ds x → kindOf s x = 2 → cs = ds := by
  generalize hl : ds.length = l
  induction l generalizing ds with
  | zero =>
    intro cs x h1 h2 hx
    have e := List.eq_nil_of_length_eq_zero hl
    subst e
    cases h2
    by_cases hne : cs = []
    · exact hne
    · obtain ⟨ps, y, c, _, _, h3⟩ := h1.last hne
      exact absurd rfl (h.dir_of h3).2.2
  | succ l ih =>
    intro cs x h1 h2 hx
    have hne : ds ≠ [] := fun e => by rw [e] at hl; cases hl
    obtain ⟨ps, y, c, e, h3, h4⟩ := h2.last hne
    by_cases hne' : cs = []
    · rw [hne'] at h1; cases h1; exact absurd rfl (h.dir_of h4).2.2
    · obtain ⟨ps', y', c', e', h3', h4'⟩ := h1.last hne'
      obtain ⟨rfl, rfl⟩ := h.shape.one _ _ _ _ _ h4 h4' hx
      have hlp : ps.length = l := by rw [e, List.length_append, List.length_singleton] at hl; omega
      rw [e, e', ih hlp h3' h3 (h.dir_of h4).1]
theorem Inv.mem_names (h : Inv n k s) {d : Int} {e : Tx × Int} : e ∈ namesOf s d ↔ nmF s d e.1 = some e.2 := by
  unfold nmF
  cases hx : get s d with
  | none => rw [names_none hx]; simp [get_nil]
  | some x => rw [namesGet hx]; exact (h.rise d x hx).get.symm
/-- What is listed. -/
theorem Inv.mem_tre (h : Inv n k s) : ∀ (K : Nat) {cs : List Tx} {i : Int} {ds : List Tx} {d : Int} {c : Tx} {m : Int}, (ds, (d, c, m)) ∈ tre s K cs i → ∃ ps, ds = cs ++ (ps ++ [c]) ∧ Way s i ps d ∧ nmF s d c = some m ∧ kindOf s d = 2
  | 0, _, _, _, _, _, _, hm => by cases hm
  | K + 1, cs, i, ds, d, c, m, hm => by
    rw [tre] at hm
    split at hm
    · rename_i hi
      obtain ⟨e, he, hm⟩ := List.mem_flatMap.1 hm
      have hn := h.mem_names.1 he
      rcases List.mem_cons.1 hm with e' | e'
      · cases e'
        exact ⟨[], by simp, .nil _, hn, hi⟩
      · obtain ⟨ps, h1, h2, h3, h4⟩ := h.mem_tre K e'
        exact ⟨e.1 :: ps, by rw [h1]; simp, .cons hn h2, h3, h4⟩
    · cases hm
theorem Inv.tre_mem (h : Inv n k s) {c : Tx} {m : Int} {d : Int} (hc : nmF s d c = some m) : ∀ (K : Nat) {cs : List Tx} {i : Int} {ps : List Tx}, kindOf s i = 2 → Way s i ps d → ps.length < K → (cs ++ (ps ++ [c]), (d, c, m)) ∈ tre s K cs i
  | 0, _, _, _, _, _, hl => absurd hl (Nat.not_lt_zero _)
  | K + 1, cs, i, ps, hi, hw, hl => by
    rw [tre, if_pos hi]
    cases hw with
    | nil => exact List.mem_flatMap.2 ⟨(c, m), h.mem_names.2 hc, List.mem_cons.2 (.inl (by simp))⟩
    | @cons _ c' x r _ h1 h2 =>
      have hx : kindOf s x = 2 := by
        cases h2 with
        | nil => exact (h.dir_of hc).1
        | cons h3 _ => exact (h.dir_of h3).1
      refine List.mem_flatMap.2 ⟨(c', x), h.mem_names.2 h1, List.mem_cons_of_mem _ ?_⟩
      have := h.tre_mem hc K (cs := cs ++ [c']) hx h2 (by rw [List.length_cons] at hl; omega)
      simpa using this
theorem names_nodup (h : Inv n k s) (d : Int) : (namesOf s d).Pairwise fun p q => p.1 ≠ q.1 := by
  cases hx : get s d with
  | none => rw [names_none hx]; exact List.Pairwise.nil
  | some x => rw [namesGet hx]; exact (h.rise d x hx).apart
/-- Each name is listed once. -/
theorem Inv.tre_nodup (h : Inv n k s) : ∀ (K : Nat) {cs : List Tx} {i : Int}, Way s 1 cs i → ((tre s K cs i).map (·.2)).Nodup
  | 0, _, _, _ => List.nodup_nil
  | K + 1, cs, i, hw => by
    rw [tre]
    split
    · rename_i hi
      rw [List.map_flatMap]
      -- a name of a directory below is none of another's
      have key : ∀ e ∈ namesOf s i, ∀ x ∈ (tre s K (cs ++ [e.1]) e.2).map (·.2), x.1 ≠ i ∧ ∃ ps, Way s 1 (cs ++ (e.1 :: ps)) x.1 ∧ kindOf s x.1 = 2 := fun e he x hx => by
        obtain ⟨⟨ds, d, c, m⟩, hy, rfl⟩ := List.mem_map.1 hx
        obtain ⟨ps, h1, h2, h3, h4⟩ := h.mem_tre K hy
        have hwd : Way s 1 (cs ++ (e.1 :: ps)) d := hw.append (.cons (h.mem_names.1 he) h2)
        refine ⟨fun e' => ?_, ps, hwd, h4⟩
        have e' : d = i := e'
        rw [e'] at hwd
        have := congrArg List.length (h.way_one hwd hw hi)
        rw [List.length_append, List.length_cons] at this
        omega
      rw [List.Nodup, List.pairwise_flatMap]
      refine ⟨fun e he => ?_, ?_⟩
      · rw [List.map_cons, List.pairwise_cons]
        exact ⟨fun x hx c => (key e he x hx).1 (by rw [← c]), h.tre_nodup K (hw.snoc (h.mem_names.1 he))⟩
      · refine (List.Pairwise.imp_of_mem ?_ (names_nodup h i))
        intro e e' he he' hne x hx y hy c
        rw [List.map_cons] at hx hy
        rcases List.mem_cons.1 hx with ex | ex <;> rcases List.mem_cons.1 hy with ey | ey
        · rw [ex, ey] at c; simp only [Prod.mk.injEq] at c; exact hne c.2.1
        · exact (key e' he' y ey).1 (by rw [← c, ex])
        · exact (key e he x ex).1 (by rw [c, ey])
        · obtain ⟨p1, w1, k1⟩ := (key e he x ex).2
          obtain ⟨p2, w2, _⟩ := (key e' he' y ey).2
          rw [← c] at w2
          have := h.way_one w1 w2 k1
          rw [List.append_cancel_left_eq] at this
          exact hne (List.cons.inj this).1
    · exact List.nodup_nil
theorem allNames_nodup (h : Inv n k s) : (allNames s).Nodup := by
  unfold allNames
  rw [List.Nodup, List.pairwise_flatMap]
  refine ⟨fun p hp => ?_, ?_⟩
  · rw [List.pairwise_map]
    refine List.Pairwise.imp ?_ (h.rise p.1 p.2 (h.rising.get.2 hp)).apart
    intro a b hab c
    simp only [Prod.mk.injEq] at c
    exact hab c.2.1
  · refine List.Pairwise.imp ?_ h.rising.apart
    intro a b hab x hx y hy c
    obtain ⟨u, _, rfl⟩ := List.mem_map.1 hx
    obtain ⟨v, _, rfl⟩ := List.mem_map.1 hy
    simp only [Prod.mk.injEq] at c
    exact hab c.1
/-- All that is named is listed. -/
theorem Inv.tre_perm (h : Inv n k s) {K : Nat} (hK : 32 ≤ K) : ((tre s K [] 1).map (·.2)).Perm (allNames s) := by
  refine (List.perm_ext_iff_of_nodup (h.tre_nodup K (.nil 1)) (allNames_nodup h)).2 fun x => ?_
  obtain ⟨d, c, m⟩ := x
  rw [h.mem]
  constructor
  · intro hx
    obtain ⟨⟨ds, e⟩, hy, rfl⟩ := List.mem_map.1 hx
    obtain ⟨ps, _, _, h3, _⟩ := h.mem_tre K hy
    exact h3
  · intro hx
    obtain ⟨pre, hr⟩ := h.shape.reach d (h.dir_of hx).1
    have hway : ∀ {p : List Int} {e : Int}, Run (nmF s) (kindOf s) 1 p e → ∃ cs, Way s 1 cs e := fun hr => by
      induction hr with
      | nil => exact ⟨[], .nil 1⟩
      | snoc _ hc _ ih => obtain ⟨cs, hcs⟩ := ih; exact ⟨_, hcs.snoc hc⟩
    obtain ⟨cs, hcs⟩ := hway hr
    have hl := h.way_len (hcs.snoc hx)
    rw [List.length_append, List.length_singleton] at hl
    have := h.tre_mem hx K (cs := []) h.shape.root hcs (by omega)
    exact List.mem_map.2 ⟨_, this, rfl⟩
theorem Inv.lst_len (h : Inv n k s) {K : Nat} (hK : 32 ≤ K) : (lst s K [] 1).length ≤ k + 1 := by
  unfold lst
  have := (h.tre_perm hK).length_eq
  rw [List.length_map] at this
  rw [List.length_cons, List.length_map, this]
  have := h.total
  omega
/-- Each listed thing: a way leads to it. -/
theorem Inv.lst_way (h : Inv n k s) {K : Nat} {cs : List Tx} {i : Int} (hm : (cs, i) ∈ lst s K [] 1) : Way s 1 cs i := by
  unfold lst at hm
  rcases List.mem_cons.1 hm with e | e
  · cases e; exact .nil 1
  · obtain ⟨⟨ds, d, c, m⟩, hy, e'⟩ := List.mem_map.1 e
    obtain ⟨ps, h1, h2, h3, _⟩ := h.mem_tre K hy
    cases e'
    simp only at h1 ⊢
    rw [h1, List.nil_append]; exact h2.snoc h3
theorem Inv.lst_there (h : Inv n k s) {cs : List Tx} {i : Int} (hw : Way s 1 cs i) : get s i ≠ none := by
  by_cases hne : cs = []
  · rw [hne] at hw; cases hw; exact h.kind_ne.1 (by rw [h.shape.root]; decide)
  · obtain ⟨_, _, _, _, _, h3⟩ := hw.last hne
    exact (h.dir_of h3).2.1
/-- How often an inode is listed. -/
theorem Inv.lst_count (h : Inv n k s) {K : Nat} (hK : 32 ≤ K) (i : Int) : (lst s K [] 1).countP (fun e => decide (e.2 = i)) = refs s i + if 1 = i then 1 else 0 := by
  unfold lst
  rw [countP_cons']
  simp only [decide_eq_true_eq]
  congr 1
  rw [List.countP_map]
  unfold refs
  rw [← (h.tre_perm hK).countP_eq, List.countP_map]
  rfl
/-- What lies right inside a listed directory. -/
theorem Inv.lst_inside (h : Inv n k s) {K : Nat} {ps : List Tx} {d : Int} (hw : Way s 1 ps d) (hd : kindOf s d = 2) {e : List Tx × En} (he : e ∈ tre s K [] 1) : e.1.dropLast = ps ↔ e.2.1 = d := by
  obtain ⟨ds, d', c, m⟩ := e
  obtain ⟨qs, h1, h2, h3, h4⟩ := h.mem_tre K he
  rw [List.nil_append] at h1
  dsimp only
  rw [h1, List.dropLast_concat]
  constructor
  · intro e; rw [e] at h2; exact h2.same hw
  · intro e; rw [e] at h2; exact h.way_one h2 hw hd
theorem count_dir (h : Inv n k s) {d : Int} : (allNames s).countP (fun e => decide (e.1 = d)) = (namesOf s d).length := by
  cases hx : get s d with
  | none =>
    rw [names_none hx, List.length_nil, List.countP_eq_zero]
    intro e he c
    obtain ⟨a, b, m⟩ := e
    have c := of_decide_eq_true c
    dsimp only at c
    have := (h.dir_of (h.mem.1 he)).1
    rw [c] at this
    unfold kindOf at this
    rw [hx] at this
    cases this
  | some x =>
    rw [(allNames_at h.rising hx).countP_eq, List.countP_append, namesGet hx]
    rw [show (lay d x.names).countP (fun e => decide (e.1 = d)) = x.names.length by
      unfold lay
      rw [List.countP_map, List.countP_eq_length.2]
      intro e _
      simp]
    rw [show (allNames (del s d)).countP (fun e => decide (e.1 = d)) = 0 by
      rw [List.countP_eq_zero]
      intro e he c
      unfold allNames at he
      obtain ⟨p, hp, he⟩ := List.mem_flatMap.1 he
      obtain ⟨u, _, rfl⟩ := List.mem_map.1 he
      exact (mem_del.1 hp).2 (of_decide_eq_true c)]
    rfl
end
end Fs
end Go.Proofs.YtlnnbjgfpiefdaaGreat
