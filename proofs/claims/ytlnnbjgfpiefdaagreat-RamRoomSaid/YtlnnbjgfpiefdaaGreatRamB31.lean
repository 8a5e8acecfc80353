/- Each call that changes the tree: what it gives keeps what every tree keeps. No program in sight. -/
import Derived.Test.YtlnnbjgfpiefdaaGreatRamB30
namespace Go.Proofs.YtlnnbjgfpiefdaaGreat
namespace Fs
theorem cut_sub : ∀ (l : List UInt8), ∀ x ∈ Pk.cut l, ∀ c ∈ x, c ∈ l
  | [], x, hx, c, hc => by rw [Pk.cut] at hx; simp at hx; rw [hx] at hc; exact hc
  | b :: r, x, hx, c, hc => by
    by_cases hb : b = 47
    · rw [hb, Pk.cut_slash] at hx
      rcases List.mem_cons.1 hx with e | e
      · rw [e] at hc; cases hc
      · exact List.mem_cons_of_mem _ (cut_sub r x e c hc)
    · obtain ⟨y, ys, h1, h2⟩ := Pk.cut_other hb r
      rw [h2] at hx
      rcases List.mem_cons.1 hx with e | e
      · rw [e] at hc
        rcases List.mem_cons.1 hc with e' | e'
        · rw [e']; simp
        · exact List.mem_cons_of_mem _ (cut_sub r y (by rw [h1]; simp) c e')
      · exact List.mem_cons_of_mem _ (cut_sub r x (by rw [h1]; exact List.mem_cons_of_mem _ e) c hc)
theorem pcs_mem {t x : Tx} (h : x ∈ Pk.pcs t) : x ≠ [] ∧ (47 : UInt8) ∉ x ∧ ∀ c ∈ x, c ∈ t := by
  unfold Pk.pcs at h
  obtain ⟨h1, h2⟩ := List.mem_filter.1 h
  exact ⟨of_decide_eq_true h2, fun c => Pk.cut_mem _ _ h1 _ c rfl, cut_sub _ _ h1⟩
theorem wrongPath {t : Tx} (h : ¬ wrong t true = true) : t ≠ [] ∧ (0 : UInt8) ∉ t ∧ t.head? = some 47 := by
  unfold wrong at h
  have h := fun c => h (decide_eq_true c)
  refine ⟨fun c => h (.inl c), fun c => h (.inr (.inl c)), ?_⟩
  by_cases c : t.head? = some 47
  · exact c
  · exact absurd (.inr (.inr ⟨rfl, c⟩)) h
theorem filter_last {α : Type} (p : α → Bool) : ∀ (l : List α) (x : α), l.getLast? = some x → p x = true → (l.filter p).getLast? = some x := by
  intro l x hl hp
  obtain ⟨ys, rfl⟩ := List.getLast?_eq_some_iff.1 hl
  rw [List.filter_append, List.filter_cons_of_pos hp, List.filter_nil, List.getLast?_append]
  rfl
/-- A path's last name, if it has one, can be borne. -/
theorem make_name {t : Tx} {l : List Tx} {nm : Tx} (h : make t = .ok (l, nm)) (hn : nm ≠ []) : NameOk nm ∧ parse t = .ok (l ++ [nm]) := by
  unfold make at h
  split at h
  · cases h
  · rename_i hw
    split at h
    · cases h
    · rename_i hd
      split at h
      · cases h
      · rename_i cs hc
        cases h
        have hcs := hc
        unfold comps at hc
        split at hc
        · rename_i hcc
          cases hc
          obtain ⟨h1, h2, h3⟩ := wrongPath hw
          cases hl : (dotless (Pk.pcs t)).getLast? with
          | none => rw [hl] at hn; exact absurd rfl hn
          | some x =>
            rw [hl] at hn
            simp only [Option.getD_some] at hn ⊢
            have hm := List.mem_of_getLast? hl
            have hx := (List.mem_filter.1 hm).1
            obtain ⟨e1, e2, e3⟩ := pcs_mem hx
            have hlast : lastP t = x := by
              unfold lastP
              cases hp : (Pk.pcs t).getLast? with
              | none => rw [List.getLast?_eq_none_iff] at hp; rw [hp] at hx; cases hx
              | some y =>
                have hy : y ≠ [46] := fun c => hd (.inl (by unfold lastP; rw [hp, c]; rfl))
                have := filter_last (fun p => decide (p ≠ [46])) _ y hp (decide_eq_true hy)
                unfold dotless at hl
                rw [hl] at this
                exact (Option.some.inj this).symm
            refine ⟨⟨e1, hcc.2.1 x hx, of_decide_eq_true (List.mem_filter.1 hm).2, fun c => hd (.inr (hlast.trans c)), e2, fun c => h2 (e3 _ c)⟩, ?_⟩
            unfold parse
            rw [if_neg hw, hcs]
            dsimp only
            obtain ⟨ys, hys⟩ := List.getLast?_eq_some_iff.1 hl
            rw [hys, List.dropLast_concat]
        · cases hc
theorem Trail.run {s : Tree} {ch : List Int} (h : Trail s ch) : ∃ pre d, ch = pre ++ [d] ∧ Run (nmF s) (kindOf s) 1 pre d := by
  induction h with
  | one h => exact ⟨[], 1, rfl, .nil⟩
  | @snoc ch c m _ hc hk ih =>
    obtain ⟨pre, d, rfl, hr⟩ := ih
    rw [List.getLast?_concat] at hc
    exact ⟨pre ++ [d], m, rfl, hr.snoc (c := c) hc hk⟩
theorem last_concat (pre : List Int) (d : Int) : (pre ++ [d]).getLast?.getD 0 = d := by rw [List.getLast?_concat]; rfl
section
variable {n : Int} {k : Nat} {s : Tree}
theorem Inv.pos (h : Inv n k s) {d : Int} {c : Tx} {m : Int} (hc : nmF s d c = some m) : m ≠ 0 := by
  have h1 := (h.dir_of hc).2.1
  cases hx : get s m with
  | none => exact absurd hx h1
  | some x => have := (h.keys m x hx).1; omega
/-- Where a name stands, or is to be made. -/
theorem Inv.nameP (h : Inv n k s) {p : Tx} {q : Place} (hq : nameP s p = .ok q) (hne : q.name ≠ []) :
    NameOk q.name ∧ ∃ pre, q.chain = pre ++ [q.dir] ∧ Run (nmF s) (kindOf s) 1 pre q.dir ∧ (q.inode = 0 → nmF s q.dir q.name = none) ∧ (q.inode ≠ 0 → nmF s q.dir q.name = some q.inode) := by
  obtain ⟨h1, h2, h3, h4⟩ := nameP_ok hq h.shape.root
  obtain ⟨pre, d, hch, hr⟩ := h1.run
  have hd : q.dir = d := by unfold Place.dir; rw [hch, last_concat]
  have hin : q.inode = (nmF s q.dir q.name).getD 0 := by
    rcases h4 with e | e
    · exact absurd e.1 hne
    · exact e.2
  refine ⟨?_, pre, by rw [hd]; exact hch, by rw [hd]; exact hr, fun e => ?_, fun e => ?_⟩
  · unfold Fs.nameP at hq
    split at hq
    · cases hq
    · rename_i parts nm hp
      split at hq
      · rename_i e; cases hq; exact absurd rfl hne
      · rename_i e
        split at hq
        · cases hq
        · cases hq; exact (make_name hp e).1
  · cases hx : nmF s q.dir q.name with
    | none => rfl
    | some m => rw [hx] at hin; exact absurd (hin.symm.trans e) (h.pos hx)
  · cases hx : nmF s q.dir q.name with
    | none => rw [hx] at hin; exact absurd hin e
    | some m => rw [hx] at hin; rw [hin]; rfl
theorem Inv.inode_name (h : Inv n k s) {p : Tx} {q : Place} (hq : Fs.nameP s p = .ok q) (h0 : q.inode = 0) : q.name ≠ [] := by
  obtain ⟨_, _, _, h4⟩ := nameP_ok hq h.shape.root
  rcases h4 with e | e
  · rw [e.2.1] at h0; cases h0
  · exact e.1
theorem fresh_inv (h : Inv n k s) {p : Tx} {x : Nd} (hx : NdInv k x) (hxn : x.names = []) (hxl : x.links = if x.kind = 2 then 2 else 1) {s' : Tree} {t : Bool} {v : Int} (hf : fresh n s p x = .ok (s', t, v)) : Inv n (k + 1) s' := by
  unfold fresh at hf
  split at hf
  · cases hf
  · rename_i q hq
    split at hf
    · cases hf
    · rename_i h0
      split at hf
      · cases hf
      · rename_i hl
        split at hf
        · cases hf
        · rename_i i hi
          have h0 : q.inode = 0 := Decidable.of_not_not h0
          obtain ⟨hok, pre, hch, hr, hn, _⟩ := h.nameP hq (h.inode_name hq h0)
          obtain ⟨g1, g2, g3⟩ : get s i = none ∧ 1 ≤ i ∧ i < countOf n := by
            unfold freeN at hi
            obtain ⟨h1, h2, h3⟩ := freeFrom_some hi
            exact ⟨h1, h2, by omega⟩
          rw [hch, List.length_append, List.length_singleton] at hl
          have := h.fresh hr (by omega) hok (hn h0) g1 g2 g3 hx hxn hxl
          cases hf; exact this
theorem Inv.there (h : Inv n k s) {p : Tx} {follow : Bool} {q : Place} (hq : toP s p follow = .ok q) : get s q.inode ≠ none := by
  obtain ⟨h1, _, _, h4⟩ := toP_ok hq h.shape.root
  rcases h4 with e | e
  · rw [e.2]
    have hk : kindOf s q.dir = 2 := h1.dirs _ h1.last
    exact h.kind_ne.1 (by rw [hk]; decide)
  · exact e.2
theorem link_inv (h : Inv n k s) {old other : Tx} {s' : Tree} {t : Bool} {v : Int} (hf : linkD s old other = .ok (s', t, v)) : Inv n (k + 1) s' := by
  unfold linkD at hf
  split at hf
  · cases hf
  · split at hf
    · cases hf
    · split at hf
      · cases hf
      · rename_i a ha
        split at hf
        · cases hf
        · rename_i q hq
          split at hf
          · cases hf
          · rename_i hk
            split at hf
            · cases hf
            · rename_i h0
              split at hf
              · cases hf
              · split at hf
                · cases hf
                · rename_i hl
                  have h0 : q.inode = 0 := Decidable.of_not_not h0
                  obtain ⟨hok, pre, hch, hr, hn, _⟩ := h.nameP hq (h.inode_name hq h0)
                  rw [hch, List.length_append, List.length_singleton] at hl
                  have := h.link hr (by omega) hok (hn h0) (h.there ha) hk
                  cases hf; exact this
theorem unlink_inv (h : Inv n k s) {p : Tx} {s' : Tree} {t : Bool} {v : Int} (hf : unlinkD s p false = .ok (s', t, v)) : Inv n (k + 1) s' := by
  unfold unlinkD at hf
  split at hf
  · cases hf
  · rename_i q hq
    split at hf
    · cases hf
    · rename_i hne
      split at hf
      · cases hf
      · rename_i h0
        split at hf
        · cases hf
        · rename_i hk
          obtain ⟨hok, pre, hch, hr, _, hn⟩ := h.nameP hq hne
          have := (h.unlink (hn h0) hk).mono (Nat.le_succ k)
          cases hf; exact this
theorem rmdir_inv (h : Inv n k s) {p : Tx} {s' : Tree} {t : Bool} {v : Int} (hf : rmdirD s p = .ok (s', t, v)) : Inv n (k + 1) s' := by
  unfold rmdirD at hf
  split at hf
  · cases hf
  · rename_i q hq
    split at hf
    · cases hf
    · rename_i hne
      split at hf
      · cases hf
      · rename_i h0
        split at hf
        · cases hf
        · rename_i hk
          split at hf
          · cases hf
          · rename_i hl
            obtain ⟨hok, pre, hch, hr, _, hn⟩ := h.nameP hq hne
            have := (h.rmdir (hn h0) (Decidable.of_not_not hk) (List.eq_nil_of_length_eq_zero (Decidable.of_not_not hl))).mono (Nat.le_succ k)
            cases hf; exact this
theorem foldl_ge (g : Tx × Int → Int) : ∀ (l : Al Tx Int) (a : Int), a ≤ l.foldl (fun h p => max h (g p)) a ∧ ∀ p ∈ l, g p ≤ l.foldl (fun h p => max h (g p)) a
  | [], a => ⟨Int.le_refl _, fun p hp => by cases hp⟩
  | q :: r, a => by
    obtain ⟨h1, h2⟩ := foldl_ge g r (max a (g q))
    refine ⟨Int.le_trans (Int.le_max_left _ _) h1, fun p hp => ?_⟩
    rcases List.mem_cons.1 hp with e | e
    · rw [e]; exact Int.le_trans (Int.le_max_right _ _) h1
    · exact h2 p e
theorem height_pos (s : Tree) : ∀ (K : Nat) (m : Int), 0 ≤ height s K m
  | 0, _ => Int.le_refl _
  | _ + 1, _ => (foldl_ge _ _ 0).1
theorem run_height {kd : KdF} (hk : kd = kindOf s) : ∀ (K : Nat) {l : List Int} {m e : Int} {f : Tx} {x : Int}, Run (nmF s) kd m l e → nmF s e f = some x → ((min (l.length + 1) K : Nat) : Int) ≤ height s K m
  | 0, l, _, _, _, _, _, _ => by rw [Nat.min_zero]; exact Int.le_refl _
  | K + 1, l, m, e, f, x, hr, hx => by
    have hmem : ∀ {c y}, nmF s m c = some y → (c, y) ∈ namesOf s m := fun h => get_mem h
    have hge := foldl_ge (fun p => if ((get s p.2).map (·.kind)) = some 2 then 1 + height s K p.2 else 1) (namesOf s m) 0
    cases l with
    | nil =>
      have he := hr.none
      rw [he] at hx
      have := hge.2 _ (hmem hx)
      refine Int.le_trans ?_ this
      rw [show ((min (([] : List Int).length + 1) (K + 1) : Nat) : Int) = 1 by simp]
      have := height_pos s K x
      dsimp only
      split <;> omega
    | cons y l =>
      have hy := hr.head
      subst hy
      obtain ⟨c, z, h1, h2, h3⟩ := hr.step
      have ih := run_height hk K h3 hx
      have := hge.2 _ (hmem h1)
      refine Int.le_trans ?_ this
      dsimp only
      have hz : ((get s z).map (·.kind)) = some 2 := by
        rw [hk] at h2
        unfold kindOf at h2
        cases hg : get s z with
        | none => rw [hg] at h2; cases h2
        | some w => rw [hg] at h2; simp only [Option.map_some, Option.getD_some] at h2 ⊢; rw [h2]
      rw [if_pos hz, List.length_cons]
      omega
theorem rename_inv (h : Inv n k s) {old other : Tx} {s' : Tree} {t : Bool} {v : Int} (hf : renameD s old other false = .ok (s', t, v)) : Inv n (k + 1) s' := by
  unfold renameD at hf
  split at hf
  · cases hf
  · split at hf
    · cases hf
    · split at hf
      · cases hf
      · rename_i a ha
        split at hf
        · cases hf
        · rename_i ha0
          split at hf
          · cases hf
          · rename_i b hb
            split at hf
            · cases hf
            · rename_i hnn
              split at hf
              · cases hf; exact h.mono (Nat.le_succ k)
              · rename_i hab
                have han : a.name ≠ [] := fun e => hnn (.inl e)
                have hbn : b.name ≠ [] := fun e => hnn (.inr e)
                obtain ⟨aok, pa, ach, ar, _, aN⟩ := h.nameP ha han
                obtain ⟨bok, pb, bch, br, bZ, bN⟩ := h.nameP hb hbn
                have aN := aN ha0
                unfold moveD at hf
                split at hf
                · cases hf
                · rename_i c1
                  split at hf
                  · cases hf
                  · rename_i c2
                    split at hf
                    · cases hf
                    · rename_i c3
                      split at hf
                      · cases hf
                      · rename_i c4
                        by_cases c5 : 32 < (b.chain.length : Int) + (if kindOf s a.inode = 2 then height s 40 a.inode else 0)
                        · rw [if_pos c5] at hf; cases hf
                        · rw [if_neg c5] at hf
                          have hlen : b.chain.length = pb.length + 1 := by rw [bch, List.length_append, List.length_singleton]
                          have hpl : pb.length + 1 ≤ 32 := by
                            rw [hlen] at c5
                            have := height_pos s 40 a.inode
                            split at c5 <;> omega
                          by_cases ka : kindOf s a.inode = 2
                          · have hnp : a.inode ∉ pb ++ [b.dir] := fun e => c3 ⟨ka, by rw [bch]; exact e⟩
                            have hrun : ∀ l e f x, Run (nmF s) (kindOf s) a.inode l e → nmF s e f = some x → pb.length + 1 + (l.length + 1) ≤ 32 := fun l e f x hr hx => by
                              have h1 := run_height rfl 40 hr hx
                              rw [hlen, if_pos ka] at c5
                              omega
                            rw [if_pos ka] at hf
                            by_cases hb0 : b.inode = 0
                            · simp only [if_pos hb0] at hf
                              have := h.move2 aN ka (bZ hb0) br hnp hpl hrun bok
                              cases hf; exact this
                            · simp only [if_neg hb0] at hf
                              have kb : kindOf s b.inode = 2 := Decidable.byContradiction fun e => c2 ⟨hb0, e, ka⟩
                              rw [if_pos kb] at hf
                              have hbe : namesOf s b.inode = [] := List.eq_nil_of_length_eq_zero (by
                                have : ¬ 0 < (namesOf s b.inode).length := fun e => c4 ⟨hb0, kb, e⟩
                                omega)
                              have := (h.move4 aN ka (bN hb0) kb hbe hab br hnp hpl hrun bok).mono (Nat.le_succ k)
                              cases hf; exact this
                          · rw [if_neg ka] at hf
                            by_cases hb0 : b.inode = 0
                            · simp only [if_pos hb0] at hf
                              have := h.move1 aN ka (bZ hb0) br hpl bok
                              cases hf; exact this
                            · simp only [if_neg hb0] at hf
                              have kb : kindOf s b.inode ≠ 2 := fun e => c1 ⟨hb0, e, ka⟩
                              rw [if_neg kb] at hf
                              have := (h.move3 aN ka (bN hb0) kb hab br hpl bok).mono (Nat.le_succ k)
                              cases hf; exact this
end
end Fs
end Go.Proofs.YtlnnbjgfpiefdaaGreat
/- A file's bytes written and cut: every tree keeps what it kept. No program in sight. -/
namespace Go.Proofs.YtlnnbjgfpiefdaaGreat
namespace Fs
theorem writeGo_rising : ∀ (j : Nat) {l : Al Int Pc} (off : Nat) (t : Tx), Rising l → Rising (writeGo l j off t)
  | 0, _, _, _, h => h
  | j + 1, l, off, t, h => by
    by_cases ht : t = []
    · rw [ht, writeGo_nil]; exact h
    · rw [writeGo_step l j off ht]
      exact writeGo_rising j _ _ (h.put _ _)
theorem writeGo_keys : ∀ (j : Nat) {l : Al Int Pc} (off : Nat) (t : Tx), ∀ p ∈ writeGo l j off t, p.1 ∈ l.map (·.1) ∨ (0 ≤ p.1 ∧ p.1 * 512 < (off : Int) + t.length)
  | 0, l, _, _, p, hp => .inl (List.mem_map.2 ⟨p, hp, rfl⟩)
  | j + 1, l, off, t, p, hp => by
    by_cases ht : t = []
    · rw [ht, writeGo_nil] at hp; exact .inl (List.mem_map.2 ⟨p, hp, rfl⟩)
    · rw [writeGo_step l j off ht] at hp
      have h0 := List.length_pos_iff.2 ht
      have h1 : off % 512 < 512 := Nat.mod_lt _ (by omega)
      rcases writeGo_keys j _ _ p hp with e | ⟨e1, e2⟩
      · obtain ⟨q, hq, e⟩ := List.mem_map.1 e
        rcases mem_put.1 hq with rfl | ⟨hq, _⟩
        · right
          rw [← e]
          dsimp only
          constructor
          · omega
          · have := Nat.div_mul_le_self off 512
            omega
        · exact .inl (List.mem_map.2 ⟨q, hq, e⟩)
      · right
        refine ⟨e1, ?_⟩
        rw [List.length_drop, List.length_take] at e2
        omega
section
variable {n : Int} {k : Nat} {s : Tree}
theorem write_inv (h : Inv n k s) {i off : Int} {x : Nd} (hx : get s i = some x) (hk : x.kind = 1) (h0 : 0 ≤ off) {t : Tx} {s' : Tree} {b : Bool} {v : Int} (hf : writeD s i off t = .ok (s', b, v)) : Inv n (k + 1) s' := by
  unfold writeD at hf
  split at hf
  · cases hf
  · rename_i hsz
    split at hf
    · cases hf; exact h.mono (Nat.le_succ k)
    · rename_i ht
      have := (h.bytes (i := i) (fun x => { x with pieces := writeGo x.pieces (t.length + 1) off.toNat t, size := max x.size (off + t.length) }) (fun _ => ⟨rfl, rfl, rfl⟩) (fun y hy => by
        rw [hx] at hy; cases hy
        have hd := h.nd i x hx
        obtain ⟨h1, h2, h3, h4, h5, h6⟩ := hd.file hk
        refine ⟨hd.kind, fun _ => ⟨h1, h2.write, writeGo_rising _ _ _ h3, fun p hp => ?_, by show 0 ≤ max _ _; omega, by show max _ _ ≤ _; omega⟩, fun e => by have e : x.kind = 2 := e; omega, fun e => by have e : x.kind = 3 := e; omega, hd.text, hd.blk⟩
        show 0 ≤ p.1 ∧ p.1 * 512 < max x.size (off + t.length)
        rcases writeGo_keys _ _ _ p hp with e | ⟨e1, e2⟩
        · obtain ⟨q, hq, e⟩ := List.mem_map.1 e
          have := h4 q hq
          omega
        · omega)).mono (Nat.le_succ k)
      cases hf; exact this
theorem cut_inv (h : Inv n k s) {i size : Int} {x : Nd} (hx : get s i = some x) (hk : x.kind = 1) (h0 : 0 ≤ size) {s' : Tree} {b : Bool} {v : Int} (hf : cutD s i size = .ok (s', b, v)) : Inv n (k + 1) s' := by
  unfold cutD at hf
  split at hf
  · cases hf
  · rename_i hsz
    split at hf
    · cases hf; exact h.mono (Nat.le_succ k)
    · have := (h.bytes (i := i) (cutN · size) (fun y => by unfold cutN; split <;> exact ⟨rfl, rfl, rfl⟩) (fun y hy => by
        rw [hx] at hy; cases hy
        have hd := h.nd i x hx
        obtain ⟨h1, h2, h3, h4, h5, h6⟩ := hd.file hk
        unfold cutN
        split
        · rename_i hlt
          have c1 : Rising (cutPieces x.pieces size) := List.Pairwise.filter _ h3
          have c2 : Whole (cutPieces x.pieces size) := fun e he => h2 e (List.mem_filter.1 he).1
          have c3 : ∀ p ∈ cutPieces x.pieces size, 0 ≤ p.1 ∧ p.1 * 512 < size := fun p hp => ⟨(h4 p (List.mem_filter.1 hp).1).1, of_decide_eq_true (List.mem_filter.1 hp).2⟩
          refine ⟨hd.kind, fun _ => ⟨h1, ?_, ?_, fun p hp => ?_, h0, by show size ≤ _; omega⟩, fun e => by have e : x.kind = 2 := e; omega, fun e => by have e : x.kind = 3 := e; omega, hd.text, hd.blk⟩
          · dsimp only
            split
            · exact c2
            · rename_i p hp
              refine c2.put _ ?_
              have := c2 _ (get_mem hp)
              dsimp only at this
              rw [List.length_append, List.length_take, List.length_replicate]; omega
          · dsimp only
            split
            · exact c1
            · exact c1.put _ _
          · dsimp only at hp ⊢
            split at hp
            · exact c3 p hp
            · rename_i q hq
              rcases mem_put.1 hp with rfl | ⟨hp, _⟩
              · exact c3 (_, q) (get_mem hq)
              · exact c3 p hp
        · refine ⟨hd.kind, fun _ => ⟨h1, h2, h3, fun p hp => ?_, h0, by show size ≤ _; omega⟩, fun e => by have e : x.kind = 2 := e; omega, fun e => by have e : x.kind = 3 := e; omega, hd.text, hd.blk⟩
          have := h4 p hp
          show 0 ≤ p.1 ∧ p.1 * 512 < size
          omega)).mono (Nat.le_succ k)
      cases hf; exact this
/-- A rising row of numbers between two is no longer than these are apart. -/
theorem rising_len {ν : Type} : ∀ (l : Al Int ν) (a b : Int), a ≤ b → Rising l → (∀ p ∈ l, a ≤ p.1 ∧ p.1 < b) → (l.length : Int) ≤ b - a
  | [], a, b, h, _, _ => by simp; omega
  | p :: r, a, b, h, hr, hp => by
    have h1 := hp p (by simp)
    obtain ⟨h2, h3⟩ := List.pairwise_cons.1 hr
    have := rising_len r (p.1 + 1) b (by omega) h3 (fun q hq => by
      have h4 := h2 q hq
      have h5 := hp q (by simp [hq])
      have h6 : p.1 < q.1 := by
        unfold lt at h4
        simpa [Key.lit, Lit.before] using h4
      omega)
    rw [List.length_cons]
    omega
end
end Fs
end Go.Proofs.YtlnnbjgfpiefdaaGreat
