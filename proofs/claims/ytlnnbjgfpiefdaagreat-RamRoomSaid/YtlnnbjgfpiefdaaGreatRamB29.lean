/- What every tree keeps that calls have made. No program in sight. -/
import Derived.Test.YtlnnbjgfpiefdaaGreatRamB28
import Derived.Test.YtlnnbjgfpiefdaaGreatRamB14
namespace Go.Proofs.YtlnnbjgfpiefdaaGreat
namespace Fs
/-- What an inode keeps; k: at most so many calls. -/
structure NdInv (k : Nat) (x : Nd) : Prop where
  kind : x.kind = 1 ∨ x.kind = 2 ∨ x.kind = 3
  file : x.kind = 1 → x.names = [] ∧ Whole x.pieces ∧ Rising x.pieces ∧ (∀ p ∈ x.pieces, 0 ≤ p.1 ∧ p.1 * 512 < x.size) ∧ 0 ≤ x.size ∧ x.size ≤ 8459264
  dir : x.kind = 2 → x.pieces = [] ∧ x.size = x.blocks * 512 ∧ 0 ≤ x.blocks ∧ x.blocks ≤ k ∧ (x.names.length : Int) ≤ x.blocks * 16
  link : x.kind = 3 → x.names = [] ∧ x.pieces = [] ∧ x.size = x.text.length
  text : x.text.length ≤ 1024
  blk : x.kind ≠ 2 → x.blocks = 0
theorem NdInv.mono {k k' : Nat} {x : Nd} (h : NdInv k x) (hk : k ≤ k') : NdInv k' x := ⟨h.kind, h.file, fun e => by obtain ⟨h1, h2, h3, h4, h5⟩ := h.dir e; exact ⟨h1, h2, h3, by omega, h5⟩, h.link, h.text, h.blk⟩
theorem NdInv.links {k : Nat} {x : Nd} (h : NdInv k x) (v : Int) : NdInv k { x with links := v } := ⟨h.kind, h.file, h.dir, h.link, h.text, h.blk⟩
structure Pre (n : Int) (k : Nat) (s : Tree) : Prop where
  rising : Rising s
  keys : ∀ i x, get s i = some x → 1 ≤ i ∧ i < countOf n
  rise : ∀ i x, get s i = some x → Rising x.names
  nd : ∀ i x, get s i = some x → NdInv k x
/-- What every tree keeps. -/
structure Inv (n : Int) (k : Nat) (s : Tree) : Prop extends Pre n k s where
  shape : Shape (nmF s) (kindOf s)
  links : ∀ i, get s i ≠ none → df s i = 0
  named : ∀ i, get s i ≠ none → i ≠ 1 → 0 < refs s i
  total : (allNames s).length ≤ k
  len : s.length ≤ k + 1
section
variable {n : Int} {k : Nat} {s : Tree}
theorem Pre.mono (h : Pre n k s) {k' : Nat} (hk : k ≤ k') : Pre n k' s := ⟨h.rising, h.keys, h.rise, fun i x hx => (h.nd i x hx).mono hk⟩
theorem Pre.mod (h : Pre n k s) {k' : Nat} (hk : k ≤ k') (i : Int) (f : Nd → Nd) (hn : ∀ x, get s i = some x → Rising (f x).names) (hf : ∀ x, get s i = some x → NdInv k' (f x)) : Pre n k' (modN s i f) := by
  have hg : ∀ j y, get (modN s i f) j = some y → get s j = some y ∨ (j = i ∧ ∃ x, get s i = some x ∧ y = f x) := fun j y hy => by
    rw [get_mod] at hy
    split at hy
    · rename_i e
      cases hx : get s i with
      | none => rw [hx] at hy; cases hy
      | some x => rw [hx] at hy; cases hy; exact .inr ⟨e, x, rfl, rfl⟩
    · exact .inl hy
  refine ⟨h.rising.mod i f, fun j y hy => ?_, fun j y hy => ?_, fun j y hy => ?_⟩
  · rcases hg j y hy with e | ⟨rfl, x, hx, rfl⟩
    · exact h.keys j y e
    · exact h.keys j x hx
  · rcases hg j y hy with e | ⟨rfl, x, hx, rfl⟩
    · exact h.rise j y e
    · exact hn x hx
  · rcases hg j y hy with e | ⟨rfl, x, hx, rfl⟩
    · exact (h.nd j y e).mono hk
    · exact hf x hx
theorem Pre.links (h : Pre n k s) (i d : Int) : Pre n k (linksN s i d) := h.mod (Nat.le_refl _) i _ (fun x hx => h.rise i x hx) (fun x hx => (h.nd i x hx).links _)
theorem kind_of {i : Int} {x : Nd} (hx : get s i = some x) : kindOf s i = x.kind := by unfold kindOf; rw [hx]; rfl
theorem kindGet {i : Int} {z : Int} (h : kindOf s i = z) (hz : z ≠ 0) : ∃ x, get s i = some x ∧ x.kind = z := by
  cases hx : get s i with
  | none => unfold kindOf at h; rw [hx] at h; exact absurd h.symm hz
  | some x => exact ⟨x, rfl, by rw [← kind_of hx]; exact h⟩
theorem Pre.kind_ne (h : Pre n k s) {i : Int} : kindOf s i ≠ 0 ↔ get s i ≠ none := by
  constructor
  · intro e c; unfold kindOf at e; rw [c] at e; exact e rfl
  · intro e
    cases hx : get s i with
    | none => exact absurd hx e
    | some x => rw [kind_of hx]; have := (h.nd i x hx).kind; omega
theorem Pre.onPut (h : Pre n k s) {d : Int} (hd : kindOf s d = 2) {c : Tx} (hc : nmF s d c = none) (m : Int) : Pre n (k + 1) (putN s d c m) := by
  refine h.mod (Nat.le_succ _) d _ (fun x hx => ?_) (fun x hx => ?_)
  · split <;> exact (h.rise d x hx).put _ _
  · have hk : x.kind = 2 := by rw [← kind_of hx]; exact hd
    have hi := h.nd d x hx
    obtain ⟨h1, h2, h3, h4, h5⟩ := hi.dir hk
    have hcn : get x.names c = none := by unfold nmF at hc; rw [namesGet hx] at hc; exact hc
    have hlen : (put x.names c m).length = x.names.length + 1 := by rw [length_put', del_none hcn]
    split
    · exact ⟨hi.kind, (fun e => by rw [hk] at e; cases e), fun _ => ⟨h1, rfl, by show 0 ≤ x.blocks + 1; omega, by show x.blocks + 1 ≤ _; omega, by show ((put x.names c m).length : Int) ≤ (x.blocks + 1) * 16; rw [hlen]; omega⟩, (fun e => by rw [hk] at e; cases e), hi.text, fun e => absurd hk e⟩
    · rename_i hne
      exact ⟨hi.kind, (fun e => by rw [hk] at e; cases e), fun _ => ⟨h1, h2, h3, by show x.blocks ≤ _; omega, by show ((put x.names c m).length : Int) ≤ x.blocks * 16; rw [hlen]; omega⟩, (fun e => by rw [hk] at e; cases e), hi.text, fun e => absurd hk e⟩
theorem Pre.onTake (h : Pre n k s) (d : Int) (c : Tx) : Pre n k (takeN s d c) := by
  refine h.mod (Nat.le_refl _) d _ (fun x hx => (h.rise d x hx).del _) (fun x hx => ?_)
  have hi := h.nd d x hx
  have hl := length_del_le x.names c
  refine ⟨hi.kind, fun e => ?_, fun e => ?_, fun e => ?_, hi.text, hi.blk⟩
  · obtain ⟨h1, h2⟩ := hi.file e; exact ⟨by show del x.names c = []; rw [h1]; rfl, h2⟩
  · obtain ⟨h1, h2, h3, h4, h5⟩ := hi.dir e; exact ⟨h1, h2, h3, h4, by show ((del x.names c).length : Int) ≤ x.blocks * 16; omega⟩
  · obtain ⟨h1, h2⟩ := hi.link e; exact ⟨by show del x.names c = []; rw [h1]; rfl, h2⟩
theorem Pre.onRepl (h : Pre n k s) {d : Int} {c : Tx} {j : Int} (hc : nmF s d c = some j) (hd : kindOf s d = 2) (m : Int) : Pre n k (replN s d c m) := by
  refine h.mod (Nat.le_refl _) d _ (fun x hx => (h.rise d x hx).put _ _) (fun x hx => ?_)
  have hk : x.kind = 2 := by rw [← kind_of hx]; exact hd
  have hi := h.nd d x hx
  obtain ⟨h1, h2, h3, h4, h5⟩ := hi.dir hk
  have hcn : get x.names c = some j := by unfold nmF at hc; rw [namesGet hx] at hc; exact hc
  have hlen : (put x.names c m).length = x.names.length := by rw [length_put']; exact length_del _ (h.rise d x hx) hcn
  exact ⟨hi.kind, (fun e => by rw [hk] at e; cases e), fun _ => ⟨h1, h2, h3, h4, by show ((put x.names c m).length : Int) ≤ x.blocks * 16; rw [hlen]; exact h5⟩, (fun e => by rw [hk] at e; cases e), hi.text, fun e => absurd hk e⟩
theorem Pre.onNew (h : Pre n k s) {i : Int} {x : Nd} (h1 : 1 ≤ i) (h2 : i < countOf n) (hx : NdInv k x) (hr : Rising x.names) : Pre n k (Fs.put s i x) := by
  have hg : ∀ j y, get (Fs.put s i x) j = some y → get s j = some y ∨ (j = i ∧ y = x) := fun j y hy => by
    rw [get_put'] at hy
    split at hy
    · rename_i e; cases hy; exact .inr ⟨e, rfl⟩
    · exact .inl hy
  refine ⟨h.rising.put _ _, fun j y hy => ?_, fun j y hy => ?_, fun j y hy => ?_⟩ <;> rcases hg j y hy with e | ⟨rfl, rfl⟩
  · exact h.keys j y e
  · exact ⟨h1, h2⟩
  · exact h.rise j y e
  · exact hr
  · exact h.nd j y e
  · exact hx
theorem Pre.onDel (h : Pre n k s) (i : Int) : Pre n k (Fs.del s i) := by
  have hg : ∀ j y, get (Fs.del s i) j = some y → get s j = some y := fun j y hy => by
    rw [get_del'] at hy
    split at hy
    · cases hy
    · exact hy
  exact ⟨h.rising.del _, fun j y hy => h.keys j y (hg j y hy), fun j y hy => h.rise j y (hg j y hy), fun j y hy => h.nd j y (hg j y hy)⟩
theorem Inv.dir_of (h : Inv n k s) {d : Int} {c : Tx} {m : Int} (hc : nmF s d c = some m) : kindOf s d = 2 ∧ get s m ≠ none ∧ m ≠ 1 :=
  ⟨(h.shape.ent _ _ _ hc).2.1, h.kind_ne.1 (h.shape.ent _ _ _ hc).2.2.1, (h.shape.ent _ _ _ hc).2.2.2⟩
theorem Inv.mem (h : Inv n k s) {d : Int} {c : Tx} {m : Int} : (d, c, m) ∈ allNames s ↔ nmF s d c = some m := mem_allNames h.rising h.rise
theorem refs_zero {i : Int} : refs s i = 0 ↔ ∀ e ∈ allNames s, e.2.2 ≠ i := by
  unfold refs
  rw [List.countP_eq_zero]
  constructor
  · intro h e he c; exact h e he (decide_eq_true c)
  · intro h e he c; exact h e he (of_decide_eq_true c)
theorem refs_pos {d : Int} {c : Tx} {m : Int} (h : (d, c, m) ∈ allNames s) : 0 < refs s m := by
  unfold refs
  exact List.countP_pos_iff.2 ⟨_, h, decide_eq_true rfl⟩
/-- Where none is, none is named. -/
theorem Inv.none_refs (h : Inv n k s) {i : Int} (hi : get s i = none) : refs s i = 0 := refs_zero.2 fun e he c => by
  obtain ⟨d, t, m⟩ := e
  have c' : m = i := c
  exact (h.dir_of (h.mem.1 he)).2.1 (c' ▸ hi)
/-- The root has no name. -/
theorem Inv.root_refs (h : Inv n k s) : refs s 1 = 0 := refs_zero.2 fun e he c => by
  obtain ⟨d, t, m⟩ := e
  exact (h.dir_of (h.mem.1 he)).2.2 c
theorem len_perm {α : Type} {l m : List α} {a : α} (h : l.Perm (a :: m)) : l.length = m.length + 1 := by rw [h.length_eq, List.length_cons]
theorem refs_cons {t : Tree} {d : Int} {c : Tx} {m : Int} (h : (allNames t).Perm ((d, c, m) :: allNames s)) (j : Int) : refs t j = refs s j + if m = j then 1 else 0 := by
  unfold refs
  rw [h.countP_eq, countP_cons']
  simp only [decide_eq_true_eq]
theorem get_putN_none {d : Int} {c : Tx} {m : Int} {j : Int} : get (putN s d c m) j ≠ none ↔ get s j ≠ none := by
  have := isSome_mod s d j fun x => if (x.names.length : Int) = x.blocks * 16 then { x with blocks := x.blocks + 1, size := (x.blocks + 1) * 512, names := put x.names c m } else { x with names := put x.names c m }
  rw [← Option.isSome_iff_ne_none, ← Option.isSome_iff_ne_none]
  unfold putN; rw [this]
theorem get_mod_none {d : Int} {f : Nd → Nd} {j : Int} : get (modN s d f) j ≠ none ↔ get s j ≠ none := by
  rw [← Option.isSome_iff_ne_none, ← Option.isSome_iff_ne_none, isSome_mod]
theorem putN_length {d : Int} {c : Tx} {m : Int} : (putN s d c m).length = s.length := length_mod _ _ _
theorem refs_links (i d j : Int) : refs (linksN s i d) j = refs s j := by unfold refs; rw [show allNames (linksN s i d) = allNames s from allNames_keep _ _ _ fun _ => rfl]
theorem allNames_links (i d : Int) : allNames (linksN s i d) = allNames s := allNames_keep _ _ _ fun _ => rfl
theorem nameOk_ne {c : Tx} (h : NameOk c) : c ≠ [] := h.ne

/-- A new inode with a name. -/
theorem Inv.fresh (h : Inv n k s) {d : Int} {c : Tx} {i : Int} {x : Nd} {pre : List Int} (hp : Run (nmF s) (kindOf s) 1 pre d) (hpl : pre.length + 1 ≤ 32) (hc : NameOk c) (hn : nmF s d c = none) (hi : get s i = none) (h1 : 1 ≤ i) (h2 : i < countOf n)
    (hx : NdInv k x) (hxn : x.names = []) (hxl : x.links = if x.kind = 2 then 2 else 1) : Inv n (k + 1) (if x.kind = 2 then linksN (putN (put s i x) d c i) d 1 else putN (put s i x) d c i) := by
  have hd : kindOf s d = 2 := hp.kind h.shape.root
  have hi1 : i ≠ 1 := fun e => by rw [e] at hi; have := h.shape.root; unfold kindOf at this; rw [hi] at this; cases this
  have hdi : d ≠ i := fun e => by rw [e] at hd; unfold kindOf at hd; rw [hi] at hd; cases hd
  have P1 : Pre n k (put s i x) := h.toPre.onNew h1 h2 hx (by rw [hxn]; exact Rising.nil)
  have kd1 : kindOf (put s i x) d = 2 := by rw [kindOf_put', if_neg hdi]; exact hd
  have nm1 : nmF (put s i x) = nmF s := nmF_new hi hxn
  have nn1 : nmF (put s i x) d c = none := by rw [nm1]; exact hn
  obtain ⟨y, hy, _⟩ := kindGet kd1 (by decide)
  have P2 : Pre n (k + 1) (putN (put s i x) d c i) := P1.onPut kd1 nn1 i
  have A2 : (allNames (putN (put s i x) d c i)).Perm ((d, c, i) :: allNames s) := (allNames_put P1.rising hy nn1 i).trans ((allNames_new hi hxn).cons _)
  have r0 := h.none_refs hi
  have D2 : ∀ j, df (putN (put s i x) d c i) j = (if j = i then x.links - (if x.kind = 2 then 2 + (subs s i : Int) else 0) else df s j) - if x.kind = 2 then (if j = d then 1 else 0) else (if j = i then 1 else 0) := fun j => by
    rw [df_put P1.rising hy kd1 nn1 i j, df_new hi hxn r0, kindOf_put', if_pos rfl]
  have sb : subs s i = 0 := by
    unfold subs
    rw [List.countP_eq_zero]
    intro e he
    obtain ⟨a, b, m⟩ := e
    intro c'
    have c' := of_decide_eq_true c'
    dsimp only at c'
    have := h.dir_of (h.mem.1 he)
    rw [c'.1] at this
    unfold kindOf at this
    rw [hi] at this
    exact absurd this.1 (by decide)
  have kd2 : ∀ j, kindOf (putN (put s i x) d c i) j = if j = i then x.kind else kindOf s j := fun j => by rw [kindOf_putN, kindOf_put']
  have nf2 : ∀ e f, nmF (putN (put s i x) d c i) e f = if e = d ∧ f = c then some i else nmF s e f := fun e f => by rw [nmF_put hy, nm1]
  have g2 : ∀ j, get (putN (put s i x) d c i) j ≠ none ↔ j = i ∨ get s j ≠ none := fun j => by
    rw [get_putN_none, get_put']
    by_cases e : j = i
    · rw [if_pos e]; simp [e]
    · rw [if_neg e]; simp [e]
  have l2 : (putN (put s i x) d c i).length ≤ k + 1 + 1 := by
    rw [putN_length, length_put', del_none hi]
    have := h.len; omega
  have hun : ∀ pre, Run (nmF s) (kindOf s) 1 pre d → pre.length + 1 ≤ 32 := fun p hp' => by rw [h.shape.unique hp' hp]; exact hpl
  by_cases hk : x.kind = 2
  · rw [if_pos hk]
    rw [if_pos hk] at hxl
    refine ⟨P2.links _ _, ?_, fun j hj => ?_, fun j hj hj1 => ?_, ?_, ?_⟩
    · rw [nmF_links]
      refine h.shape.dir (d := d) (c := c) (m := i) hd hc hn hi1 ?_ (by unfold kindOf; rw [hi]; rfl) (fun j hj => ?_) nf2 hun
      · rw [kindOf_linksN, kd2, if_pos rfl]; exact hk
      · rw [kindOf_linksN, kd2, if_neg hj]
    · have hj' := (g2 j).1 (get_mod_none.1 hj)
      obtain ⟨z, hz⟩ : ∃ z, get (putN (put s i x) d c i) d = some z := Option.ne_none_iff_exists'.1 ((g2 d).2 (.inr (h.kind_ne.1 (by rw [hd]; decide))))
      rw [df_links hz, D2]
      by_cases e : j = i
      · have : j ≠ d := fun c => hdi (by rw [← c]; exact e)
        simp only [if_pos hk, if_pos e, if_neg this]
        rw [hxl, sb]; rfl
      · simp only [if_pos hk, if_neg e]
        rw [h.links j (hj'.resolve_left e)]
        by_cases e' : j = d
        · simp only [if_pos e']; rfl
        · simp only [if_neg e']; rfl
    · rw [refs_links, refs_cons A2]
      rcases (g2 j).1 (get_mod_none.1 hj) with e | e
      · rw [if_pos e.symm]; omega
      · have := h.named j e hj1; omega
    · rw [allNames_links, len_perm A2]; have := h.total; omega
    · unfold linksN; rw [length_mod]; exact l2
  · rw [if_neg hk]
    rw [if_neg hk] at hxl
    refine ⟨P2, ?_, fun j hj => ?_, fun j hj hj1 => ?_, ?_, l2⟩
    · refine h.shape.leaf (d := d) (c := c) (m := i) hd hc hn hi1 ?_ (by unfold kindOf; rw [hi]; decide) (fun j hj => ?_) nf2 hun
      · rw [kd2, if_pos rfl]; exact ⟨by have := hx.kind; omega, hk⟩
      · rw [kd2, if_neg hj]
    · have hj' := (g2 j).1 hj
      rw [D2]
      by_cases e : j = i
      · simp only [if_pos e, if_neg hk]; rw [hxl]; rfl
      · simp only [if_neg e, if_neg hk]; rw [h.links j (hj'.resolve_left e)]; rfl
    · rw [refs_cons A2]
      rcases (g2 j).1 hj with e | e
      · rw [if_pos e.symm]; omega
      · have := h.named j e hj1; omega
    · rw [len_perm A2]; have := h.total; omega
/-- A name more for what is no directory. -/
theorem Inv.link (h : Inv n k s) {d : Int} {c : Tx} {m : Int} {pre : List Int} (hp : Run (nmF s) (kindOf s) 1 pre d) (hpl : pre.length + 1 ≤ 32) (hc : NameOk c) (hn : nmF s d c = none) (hm : get s m ≠ none) (hm2 : kindOf s m ≠ 2) : Inv n (k + 1) (putN (linksN s m 1) d c m) := by
  have hd : kindOf s d = 2 := hp.kind h.shape.root
  obtain ⟨z, hz⟩ := Option.ne_none_iff_exists'.1 hm
  have P1 := h.toPre.links m 1
  have kd1 : kindOf (linksN s m 1) d = 2 := by rw [kindOf_linksN]; exact hd
  have nn1 : nmF (linksN s m 1) d c = none := by rw [nmF_links]; exact hn
  obtain ⟨y, hy, _⟩ := kindGet kd1 (by decide)
  have A2 : (allNames (putN (linksN s m 1) d c m)).Perm ((d, c, m) :: allNames s) := by have := allNames_put P1.rising hy nn1 m; rw [allNames_links] at this; exact this
  have hm1 : m ≠ 1 := fun e => hm2 (by rw [e]; exact h.shape.root)
  have hg : ∀ j, get (putN (linksN s m 1) d c m) j ≠ none → get s j ≠ none := fun j hj => get_mod_none.1 (get_putN_none.1 hj)
  refine ⟨P1.onPut kd1 nn1 m, ?_, fun j hj => ?_, fun j hj hj1 => ?_, ?_, ?_⟩
  · refine h.shape.leaf (d := d) (c := c) (m := m) hd hc hn hm1 ?_ hm2 (fun j hj => ?_) (fun e f => by rw [nmF_put hy, nmF_links]) (fun p hp' => by rw [h.shape.unique hp' hp]; exact hpl)
    · rw [kindOf_putN, kindOf_linksN]; exact ⟨h.kind_ne.2 hm, hm2⟩
    · rw [kindOf_putN, kindOf_linksN]
  · rw [df_put P1.rising hy kd1 nn1, df_links hz, kindOf_linksN, if_neg hm2, h.links j (hg j hj)]
    split <;> rfl
  · rw [refs_cons A2]; have := h.named j (hg j hj) hj1; omega
  · rw [len_perm A2]; have := h.total; omega
  · rw [putN_length]; unfold linksN; rw [length_mod]; have := h.len; omega
theorem Inv.mono (h : Inv n k s) {k' : Nat} (hk : k ≤ k') : Inv n k' s := ⟨h.toPre.mono hk, h.shape, h.links, h.named, Nat.le_trans h.total hk, by have := h.len; omega⟩
/-- A file's bytes are other ones. -/
theorem Inv.bytes (h : Inv n k s) {i : Int} (f : Nd → Nd) (hf : ∀ x, (f x).names = x.names ∧ (f x).kind = x.kind ∧ (f x).links = x.links) (hx : ∀ x, get s i = some x → NdInv k (f x)) : Inv n k (modN s i f) := by
  have A : allNames (modN s i f) = allNames s := allNames_keep _ _ _ fun x => (hf x).1
  have K : kindOf (modN s i f) = kindOf s := funext fun j => kindOf_mod _ _ _ _ fun x => (hf x).2.1
  have N : nmF (modN s i f) = nmF s := funext fun e => funext fun c => by unfold nmF; rw [namesOf_mod _ _ _ _ fun x => (hf x).1]
  refine ⟨h.toPre.mod (Nat.le_refl _) i f (fun x h' => by rw [(hf x).1]; exact h.rise i x h') hx, by rw [N, K]; exact h.shape, fun j hj => ?_, fun j hj hj1 => ?_, by rw [A]; exact h.total, by rw [length_mod]; exact h.len⟩
  · have := h.links j (get_mod_none.1 hj)
    unfold df subs refs at *
    rw [A, K, linksOf_mod _ _ _ _ fun x => (hf x).2.2]
    exact this
  · have := h.named j (get_mod_none.1 hj) hj1
    unfold refs at *
    rw [A]; exact this
end
end Fs
end Go.Proofs.YtlnnbjgfpiefdaaGreat
