/- Names taken away, things moved: every tree keeps what it kept. No program in sight. -/
import Derived.Test.YtlnnbjgfpiefdaaGreatRamB29
namespace Go.Proofs.YtlnnbjgfpiefdaaGreat
namespace Fs
section
variable {n : Int} {k : Nat} {s : Tree}
theorem Inv.leaf_names (h : Pre n k s) {i : Int} (hi : kindOf s i ≠ 2) : namesOf s i = [] := by
  cases hx : get s i with
  | none => exact names_none hx
  | some x =>
    rw [kind_of hx] at hi
    have hd := h.nd i x hx
    rw [namesGet hx]
    rcases hd.kind with e | e | e
    · exact (hd.file e).1
    · exact absurd e hi
    · exact (hd.link e).1
theorem Inv.links_eq (h : Inv n k s) {i : Int} (hi : get s i ≠ none) (h2 : kindOf s i ≠ 2) : linksOf s i = refs s i := by
  have := h.links i hi
  unfold df at this
  rw [if_neg h2] at this
  omega
theorem loseN_false (t : Tree) (i : Int) : (loseN t i false).1 = if 0 < linksOf t i - 1 then linksN t i (-1) else del (linksN t i (-1)) i := by
  unfold loseN
  split
  · rfl
  · rw [if_neg (by simp)]
theorem Pre.onLose {t : Tree} (h : Pre n k t) (i : Int) : Pre n k (loseN t i false).1 := by
  rw [loseN_false]
  split
  · exact h.links _ _
  · exact (h.links _ _).onDel _
theorem get_del_none {j i : Int} : get (del s i) j ≠ none ↔ j ≠ i ∧ get s j ≠ none := by
  rw [get_del']
  by_cases e : j = i
  · simp [e]
  · simp [e]
/-- One is let go: t has links too many at it, by one. -/
theorem lose_facts {t : Tree} (h : Pre n k t) {m : Int} (hm2 : kindOf t m ≠ 2) (hm : get t m ≠ none) (hd : ∀ j, get t j ≠ none → df t j = if j = m then 1 else 0) :
    nmF (loseN t m false).1 = nmF t ∧ (allNames (loseN t m false).1).Perm (allNames t) ∧ (∀ j, get (loseN t m false).1 j ≠ none → get t j ≠ none ∧ df (loseN t m false).1 j = 0) ∧
    (∀ j, j ≠ m → kindOf (loseN t m false).1 j = kindOf t j) ∧ kindOf (loseN t m false).1 m ≠ 2 ∧ (kindOf (loseN t m false).1 m ≠ 0 ∨ refs t m = 0) ∧ (get (loseN t m false).1 m ≠ none → 0 < refs t m) ∧ (loseN t m false).1.length ≤ t.length := by
  have hl : linksOf t m = refs t m + 1 := by
    have := hd m hm
    unfold df at this
    rw [if_neg hm2, if_pos rfl] at this
    omega
  obtain ⟨z, hz⟩ := Option.ne_none_iff_exists'.1 hm
  have hn : namesOf (linksN t m (-1)) m = [] := by rw [namesOf_linksN]; exact Inv.leaf_names h hm2
  have hd1 : ∀ j, get t j ≠ none → df (linksN t m (-1)) j = 0 := fun j hj => by
    rw [df_links hz, hd j hj]
    split <;> rfl
  rw [loseN_false]
  split
  · rename_i h0
    refine ⟨nmF_links _ _ _, by rw [allNames_links], fun j hj => ⟨get_mod_none.1 hj, hd1 j (get_mod_none.1 hj)⟩, fun j _ => kindOf_linksN _ _ _ _, by rw [kindOf_linksN]; exact hm2, .inl (by rw [kindOf_linksN]; exact h.kind_ne.2 hm), fun _ => by omega, ?_⟩
    unfold linksN; rw [length_mod]; exact Nat.le_refl _
  · rename_i h0
    refine ⟨by rw [nmF_del hn, nmF_links], ?_, fun j hj => ?_, fun j hj => ?_, ?_, .inr (by omega), fun hj => ?_, ?_⟩
    · have := allNames_del (h.links m (-1)).rising hn
      rw [allNames_links] at this; exact this
    · obtain ⟨h1, h2⟩ := get_del_none.1 hj
      refine ⟨get_mod_none.1 h2, ?_⟩
      rw [df_del (h.links m (-1)).rising hn (fun e => absurd e (by rw [kindOf_linksN]; exact hm2)) h1]
      exact hd1 j (get_mod_none.1 h2)
    · rw [kindOf_del, if_neg hj, kindOf_linksN]
    · rw [kindOf_del, if_pos rfl]; decide
    · exact absurd rfl (get_del_none.1 hj).1
    · refine Nat.le_trans (length_del_le _ _) ?_
      unfold linksN; rw [length_mod]; exact Nat.le_refl _
theorem get_takeN_none {d : Int} {c : Tx} {j : Int} : get (takeN s d c) j ≠ none ↔ get s j ≠ none := get_mod_none
theorem get_replN_none {d : Int} {c : Tx} {m j : Int} : get (replN s d c m) j ≠ none ↔ get s j ≠ none := get_mod_none
theorem get_linksN_none {i d j : Int} : get (linksN s i d) j ≠ none ↔ get s j ≠ none := get_mod_none
/-- A name is taken off. -/
theorem Inv.unlink (h : Inv n k s) {d : Int} {c : Tx} {m : Int} (hc : nmF s d c = some m) (hm2 : kindOf s m ≠ 2) : Inv n k (loseN (takeN s d c) m false).1 := by
  obtain ⟨hd, hm, hm1⟩ := h.dir_of hc
  have P1 := h.toPre.onTake d c
  have A1 := allNames_take h.rising h.rise hc
  have D1 : ∀ j, get (takeN s d c) j ≠ none → df (takeN s d c) j = if j = m then 1 else 0 := fun j hj => by
    rw [df_take h.rising h.rise hd hc, if_neg hm2, h.links j (get_takeN_none.1 hj)]; omega
  obtain ⟨F1, F2, F3, F4, F5, F6, F7, F8⟩ := lose_facts P1 (m := m) (by rw [kindOf_takeN]; exact hm2) (get_takeN_none.2 hm) D1
  refine ⟨P1.onLose m, ?_, fun j hj => (F3 j hj).2, fun j hj hj1 => ?_, ?_, ?_⟩
  · refine h.shape.unleaf (d := d) (c := c) (m := m) hc hm2 F5 (fun j hj => by rw [F4 j hj, kindOf_takeN]) ?_ (fun e f => by rw [F1, nmF_take])
    rcases F6 with e | e
    · exact .inl e
    · refine .inr fun e' f hf => ?_
      rw [F1] at hf
      have := (mem_allNames P1.rising P1.rise).2 hf
      exact absurd (refs_pos this) (by omega)
  · have hj' := get_takeN_none.1 (F3 j hj).1
    have e1 : refs (loseN (takeN s d c) m false).1 j = refs (takeN s d c) j := by unfold refs; rw [F2.countP_eq]
    rw [e1]
    by_cases e : j = m
    · rw [e]; exact F7 (e ▸ hj)
    · have h3 := h.named j hj' hj1
      rw [refs_cons A1, if_neg (fun c => e c.symm)] at h3
      exact h3
  · rw [F2.length_eq]; have := len_perm A1; have := h.total; omega
  · have h1 : (takeN s d c).length = s.length := length_mod _ _ _
    have := h.len; omega
theorem unique_name (h : Inv n k s) {d : Int} {c : Tx} {m : Int} (hc : nmF s d c = some m) (hm : kindOf s m = 2) : refs (takeN s d c) m = 0 := refs_zero.2 fun e he c' => by
  obtain ⟨a, b, x⟩ := e
  have c' : x = m := c'
  subst c'
  have P1 := h.toPre.onTake d c
  have := (mem_allNames P1.rising P1.rise).1 he
  rw [nmF_take] at this
  split at this
  · cases this
  · rename_i hne
    exact hne (h.shape.one _ _ _ _ _ this hc hm)
/-- A directory without names is taken away. -/
theorem Inv.rmdir (h : Inv n k s) {d : Int} {c : Tx} {m : Int} (hc : nmF s d c = some m) (hm2 : kindOf s m = 2) (he : namesOf s m = []) : Inv n k (del (linksN (takeN s d c) d (-1)) m) := by
  obtain ⟨hd, hm, hm1⟩ := h.dir_of hc
  have P1 := (h.toPre.onTake d c).links d (-1)
  have A1 := allNames_take h.rising h.rise hc
  have hdm : d ≠ m := fun e => by
    obtain ⟨x, hx, hg⟩ := names_some hc
    rw [e] at hx
    rw [namesGet hx] at he
    rw [he] at hg; cases hg
  have hn : namesOf (linksN (takeN s d c) d (-1)) m = [] := by rw [namesOf_linksN, namesOf_takeN, if_neg (fun e => hdm e.symm)]; exact he
  have hr : refs (linksN (takeN s d c) d (-1)) m = 0 := by rw [refs_links]; exact unique_name h hc hm2
  obtain ⟨z, hz⟩ : ∃ z, get (takeN s d c) d = some z := Option.ne_none_iff_exists'.1 (get_takeN_none.2 (h.kind_ne.1 (by rw [hd]; decide)))
  have N : nmF (del (linksN (takeN s d c) d (-1)) m) = nmF (takeN s d c) := by rw [nmF_del hn, nmF_links]
  have A : (allNames (del (linksN (takeN s d c) d (-1)) m)).Perm (allNames (takeN s d c)) := by have := allNames_del P1.rising hn; rw [allNames_links] at this; exact this
  have G : ∀ j, get (del (linksN (takeN s d c) d (-1)) m) j ≠ none → j ≠ m ∧ get s j ≠ none := fun j hj => by
    obtain ⟨h1, h2⟩ := get_del_none.1 hj
    exact ⟨h1, get_takeN_none.1 (get_linksN_none.1 h2)⟩
  refine ⟨P1.onDel m, ?_, fun j hj => ?_, fun j hj hj1 => ?_, ?_, ?_⟩
  · refine h.shape.undir (d := d) (c := c) (m := m) hc hm2 (fun f => ?_) ?_ (fun j hj => ?_) (fun e f => by rw [N, nmF_take])
    · unfold nmF; rw [he]; rfl
    · rw [kindOf_del, if_pos rfl]
    · rw [kindOf_del, if_neg hj, kindOf_linksN, kindOf_takeN]
  · obtain ⟨h1, h2⟩ := G j hj
    rw [df_del P1.rising hn (fun _ => hr) h1, df_links hz, df_take h.rising h.rise hd hc, if_pos hm2, h.links j h2]
    split <;> rfl
  · obtain ⟨h1, h2⟩ := G j hj
    have e1 : refs (del (linksN (takeN s d c) d (-1)) m) j = refs (takeN s d c) j := by unfold refs; rw [A.countP_eq]
    have h3 := h.named j h2 hj1
    rw [refs_cons A1, if_neg (fun c => h1 c.symm)] at h3
    rw [e1]; exact h3
  · rw [A.length_eq]; have := len_perm A1; have := h.total; omega
  · have h1 : (linksN (takeN s d c) d (-1)).length = s.length := (length_mod _ _ _).trans (length_mod _ _ _)
    have := length_del_le (linksN (takeN s d c) d (-1)) m
    have := h.len; omega

/-! Moves. -/
section
variable {ad bd a : Int} {an bn : Tx} {pre : List Int}
/-- What is no directory, to a new name. -/
theorem Inv.move1 (h : Inv n k s) (ha : nmF s ad an = some a) (ha2 : kindOf s a ≠ 2) (hb : nmF s bd bn = none) (hp : Run (nmF s) (kindOf s) 1 pre bd) (hpl : pre.length + 1 ≤ 32) (hc : NameOk bn) :
    Inv n (k + 1) (putN (takeN s ad an) bd bn a) := by
  obtain ⟨hd, hm, hm1⟩ := h.dir_of ha
  have hbd : kindOf s bd = 2 := hp.kind h.shape.root
  have P1 := h.toPre.onTake ad an
  have A1 := allNames_take h.rising h.rise ha
  have kd1 : kindOf (takeN s ad an) bd = 2 := by rw [kindOf_takeN]; exact hbd
  have nn1 : nmF (takeN s ad an) bd bn = none := by rw [nmF_take]; split; rfl; exact hb
  obtain ⟨y, hy, _⟩ := kindGet kd1 (by decide)
  have A2 := allNames_put P1.rising hy nn1 a
  have S1 : Shape (nmF (takeN s ad an)) (kindOf s) := h.shape.unleaf (d := ad) (c := an) (m := a) ha ha2 ha2 (fun _ _ => rfl) (.inl (h.kind_ne.2 hm)) (nmF_take s ad an)
  have R1 : ∀ p e, Run (nmF (takeN s ad an)) (kindOf s) 1 p e → Run (nmF s) (kindOf s) 1 p e := fun p e hr => hr.mono fun x y z hx hz => ⟨y, by
    rw [nmF_take] at hx
    split at hx
    · cases hx
    · exact hx, hz⟩
  have K : kindOf (putN (takeN s ad an) bd bn a) = kindOf s := funext fun j => by rw [kindOf_putN, kindOf_takeN]
  refine ⟨P1.onPut kd1 nn1 a, ?_, fun j hj => ?_, fun j hj hj1 => ?_, ?_, ?_⟩
  · rw [K]
    exact S1.leaf (d := bd) (c := bn) (m := a) hbd hc nn1 hm1 ⟨h.kind_ne.2 hm, ha2⟩ ha2 (fun _ _ => rfl) (fun e f => nmF_put hy _ _ _ _) (fun p hp' => by rw [h.shape.unique (R1 _ _ hp') hp]; exact hpl)
  · rw [df_put P1.rising hy kd1 nn1, df_take h.rising h.rise hd ha, kindOf_takeN, if_neg ha2, if_neg ha2, h.links j (get_takeN_none.1 (get_putN_none.1 hj))]; omega
  · have h3 := h.named j (get_takeN_none.1 (get_putN_none.1 hj)) hj1
    rw [refs_cons A1] at h3
    rw [refs_cons A2]; exact h3
  · rw [len_perm A2]; have := len_perm A1; have := h.total; omega
  · rw [putN_length]
    have h1 : (takeN s ad an).length = s.length := length_mod _ _ _
    have := h.len; omega
theorem base_two (h : Inv n k s) (x y : Int) : nmF (linksN (linksN s x (-1)) y 1) = nmF s ∧ allNames (linksN (linksN s x (-1)) y 1) = allNames s ∧ (∀ j, kindOf (linksN (linksN s x (-1)) y 1) j = kindOf s j) ∧ (∀ j, get (linksN (linksN s x (-1)) y 1) j ≠ none ↔ get s j ≠ none) ∧ Pre n k (linksN (linksN s x (-1)) y 1) ∧ (linksN (linksN s x (-1)) y 1).length = s.length :=
  ⟨by rw [nmF_links, nmF_links], by rw [allNames_links, allNames_links], fun j => by rw [kindOf_linksN, kindOf_linksN], fun j => get_linksN_none.trans get_linksN_none, (h.toPre.links _ _).links _ _, (length_mod _ _ _).trans (length_mod _ _ _)⟩
theorem df_two (h : Inv n k s) {x y : Int} (hx : kindOf s x = 2) (hy : kindOf s y = 2) (j : Int) : df (linksN (linksN s x (-1)) y 1) j = df s j - (if j = x then 1 else 0) + (if j = y then 1 else 0) := by
  obtain ⟨u, hu, _⟩ := kindGet hx (by decide)
  obtain ⟨v, hv⟩ : ∃ v, get (linksN s x (-1)) y = some v := Option.ne_none_iff_exists'.1 (get_linksN_none.2 (h.kind_ne.1 (by rw [hy]; decide)))
  rw [df_links hv, df_links hu]
  by_cases e : j = x
  · simp only [if_pos e]; omega
  · simp only [if_neg e]; omega
/-- A directory, to a new name. -/
theorem Inv.move2 (h : Inv n k s) (ha : nmF s ad an = some a) (ha2 : kindOf s a = 2) (hb : nmF s bd bn = none) (hp : Run (nmF s) (kindOf s) 1 pre bd) (hnp : a ∉ pre ++ [bd]) (hpl : pre.length + 1 ≤ 32)
    (hrun : ∀ l e f x, Run (nmF s) (kindOf s) a l e → nmF s e f = some x → pre.length + 1 + (l.length + 1) ≤ 32) (hc : NameOk bn) :
    Inv n (k + 1) (putN (takeN (linksN (linksN s ad (-1)) bd 1) ad an) bd bn a) := by
  obtain ⟨hd, hm, hm1⟩ := h.dir_of ha
  have hbd : kindOf s bd = 2 := hp.kind h.shape.root
  obtain ⟨N0, L0, K0, G0, P0, E0⟩ := base_two h ad bd
  have D0 := df_two h hd hbd
  generalize linksN (linksN s ad (-1)) bd 1 = t at *
  have ha' : nmF t ad an = some a := by rw [N0]; exact ha
  have P1 := P0.onTake ad an
  have A1 := allNames_take P0.rising P0.rise ha'
  have kd1 : kindOf (takeN t ad an) bd = 2 := by rw [kindOf_takeN, K0]; exact hbd
  have nn1 : nmF (takeN t ad an) bd bn = none := by rw [nmF_take]; split; rfl; rw [N0]; exact hb
  obtain ⟨y, hy, _⟩ := kindGet kd1 (by decide)
  have A2 := allNames_put P1.rising hy nn1 a
  have K : kindOf (putN (takeN t ad an) bd bn a) = kindOf s := funext fun j => by rw [kindOf_putN, kindOf_takeN, K0]
  have G : ∀ j, get (putN (takeN t ad an) bd bn a) j ≠ none → get s j ≠ none := fun j hj => (G0 j).1 (get_takeN_none.1 (get_putN_none.1 hj))
  refine ⟨P1.onPut kd1 nn1 a, ?_, fun j hj => ?_, fun j hj hj1 => ?_, ?_, ?_⟩
  · rw [K]
    exact h.shape.move (d := ad) (c := an) (d' := bd) (c' := bn) (m := a) ha ha2 hb hc hp hnp hpl hrun (fun e f => by rw [nmF_put hy, nmF_take, N0])
  · rw [df_put P1.rising hy kd1 nn1, df_take P0.rising P0.rise (by rw [K0]; exact hd) ha', kindOf_takeN, K0, if_pos ha2, if_pos ha2, D0, h.links j (G j hj)]; omega
  · have h3 := h.named j (G j hj) hj1
    have e0 : refs t j = refs s j := by unfold refs; rw [L0]
    rw [← e0, refs_cons A1] at h3
    rw [refs_cons A2]; exact h3
  · rw [len_perm A2]; have := len_perm A1; rw [L0] at this; have := h.total; omega
  · have h1 : (putN (takeN t ad an) bd bn a).length ≤ s.length := by
      rw [putN_length]
      have e1 : (takeN t ad an).length = t.length := length_mod _ _ _
      rw [e1, E0]; exact Nat.le_refl _
    have := h.len; omega
/-- What is no directory, in another's place. -/
theorem Inv.move3 (h : Inv n k s) {b : Int} (ha : nmF s ad an = some a) (ha2 : kindOf s a ≠ 2) (hb : nmF s bd bn = some b) (hb2 : kindOf s b ≠ 2) (hab : b ≠ a) (hp : Run (nmF s) (kindOf s) 1 pre bd) (hpl : pre.length + 1 ≤ 32) (hc : NameOk bn) :
    Inv n k (loseN (takeN (replN s bd bn a) ad an) b false).1 := by
  obtain ⟨hd, hm, hm1⟩ := h.dir_of ha
  obtain ⟨hbd, hbm, hbm1⟩ := h.dir_of hb
  have hne : ¬ (ad = bd ∧ an = bn) := fun e => by
    rw [e.1, e.2, hb] at ha; exact hab (Option.some.inj ha)
  have PR := h.toPre.onRepl hb hbd a
  obtain ⟨y, hy, _⟩ := names_some hb
  have NR := nmF_repl hy bn a
  have ha' : nmF (replN s bd bn a) ad an = some a := by rw [NR, if_neg hne]; exact ha
  have kdR : kindOf (replN s bd bn a) ad = 2 := by rw [kindOf_replN]; exact hd
  have P1 := PR.onTake ad an
  obtain ⟨A, A1, A2⟩ := allNames_repl h.rising h.rise hb a
  have A3 := allNames_take PR.rising PR.rise ha'
  have K : ∀ j, kindOf (takeN (replN s bd bn a) ad an) j = kindOf s j := fun j => by rw [kindOf_takeN, kindOf_replN]
  have N : ∀ e f, nmF (takeN (replN s bd bn a) ad an) e f = if e = bd ∧ f = bn then some a else if e = ad ∧ f = an then none else nmF s e f := fun e f => by
    rw [nmF_take, NR]
    by_cases e1 : e = ad ∧ f = an
    · rw [if_pos e1, if_neg (fun c => hne ⟨e1.1.symm.trans c.1, e1.2.symm.trans c.2⟩), if_pos e1]
    · rw [if_neg e1, if_neg e1]
  have G : ∀ j, get (takeN (replN s bd bn a) ad an) j ≠ none ↔ get s j ≠ none := fun j => get_takeN_none.trans get_replN_none
  have D1 : ∀ j, get (takeN (replN s bd bn a) ad an) j ≠ none → df (takeN (replN s bd bn a) ad an) j = if j = b then 1 else 0 := fun j hj => by
    rw [df_take PR.rising PR.rise kdR ha', df_repl h.rising h.rise hbd hb, kindOf_replN, if_neg ha2, if_neg hb2, h.links j ((G j).1 hj), if_neg ha2]; omega
  have RS : ∀ j, refs (takeN (replN s bd bn a) ad an) j + (if b = j then 1 else 0) = refs s j := fun j => by
    have e1 : refs s j = A.countP (fun e => decide (e.2.2 = j)) + if b = j then 1 else 0 := by
      unfold refs; rw [A1.countP_eq, countP_cons']; simp only [decide_eq_true_eq]
    have e2 : refs (replN s bd bn a) j = A.countP (fun e => decide (e.2.2 = j)) + if a = j then 1 else 0 := by
      unfold refs; rw [A2.countP_eq, countP_cons']; simp only [decide_eq_true_eq]
    rw [refs_cons A3] at e2
    omega
  have LS : (allNames (takeN (replN s bd bn a) ad an)).length ≤ k := by
    have := len_perm A1; have := len_perm A2; have := len_perm A3; have := h.total; omega
  have ES : (takeN (replN s bd bn a) ad an).length = s.length := (length_mod _ _ _).trans (length_mod _ _ _)
  generalize takeN (replN s bd bn a) ad an = t at *
  obtain ⟨F1, F2, F3, F4, F5, F6, F7, F8⟩ := lose_facts P1 (m := b) (by rw [K]; exact hb2) ((G b).2 hbm) D1
  have hK2 : ∀ j, kindOf (loseN t b false).1 j = 2 ↔ kindOf s j = 2 := fun j => by
    by_cases e : j = b
    · rw [e]; exact ⟨fun c => absurd c F5, fun c => absurd c hb2⟩
    · rw [F4 j e, K]
  refine ⟨P1.onLose b, ?_, fun j hj => (F3 j hj).2, fun j hj hj1 => ?_, by rw [F2.length_eq]; exact LS, by rw [ES] at F8; have := h.len; omega⟩
  · -- b's name away, then a's, then a's new one
    let nm1 : NmF := fun e f => if e = bd ∧ f = bn then none else nmF s e f
    let nm2 : NmF := fun e f => if e = ad ∧ f = an then none else nm1 e f
    have Nf : ∀ e f, nmF (loseN t b false).1 e f = if e = bd ∧ f = bn then some a else nm2 e f := fun e f => by
      rw [F1, N]
      by_cases e1 : e = bd ∧ f = bn
      · rw [if_pos e1, if_pos e1]
      · rw [if_neg e1, if_neg e1]
        show _ = if e = ad ∧ f = an then none else if e = bd ∧ f = bn then none else nmF s e f
        rw [if_neg e1]
    have hn1 : ∀ e f, nm1 e f = some b → refs t b ≠ 0 := fun e f hf => by
      have hf' : nmF t e f = some b := by
        show nmF t e f = some b
        have hf2 : (if e = bd ∧ f = bn then none else nmF s e f) = some b := hf
        split at hf2
        · cases hf2
        · rename_i e1
          rw [N, if_neg e1]
          split
          · rename_i e2; rw [e2.1, e2.2, ha] at hf2; cases hf2; exact absurd rfl hab
          · exact hf2
      have := refs_pos ((mem_allNames P1.rising P1.rise).2 hf')
      omega
    have S1 : Shape nm1 (kindOf (loseN t b false).1) := by
      refine h.shape.unleaf (d := bd) (c := bn) (m := b) hb hb2 F5 (fun j hj => by rw [F4 j hj, K]) ?_ (fun _ _ => rfl)
      rcases F6 with e | e
      · exact .inl e
      · exact .inr fun e' f hf => hn1 e' f hf e
    have ha1 : nm1 ad an = some a := by show (if ad = bd ∧ an = bn then none else nmF s ad an) = some a; rw [if_neg hne]; exact ha
    have ka : kindOf (loseN t b false).1 a = kindOf s a := by rw [F4 a (fun e => hab e.symm), K]
    have S2 : Shape nm2 (kindOf (loseN t b false).1) := S1.unleaf (d := ad) (c := an) (m := a) ha1 (by rw [ka]; exact ha2) (by rw [ka]; exact ha2) (fun _ _ => rfl) (.inl (by rw [ka]; exact h.kind_ne.2 hm)) (fun _ _ => rfl)
    have R2 : ∀ p e, Run nm2 (kindOf (loseN t b false).1) 1 p e → Run (nmF s) (kindOf s) 1 p e := fun p e hr => hr.mono fun x y z hx hz => ⟨y, by
      have hx2 : (if x = ad ∧ y = an then none else if x = bd ∧ y = bn then none else nmF s x y) = some z := hx
      split at hx2
      · cases hx2
      · split at hx2
        · cases hx2
        · exact hx2, (hK2 _).1 hz⟩
    refine S2.leaf (d := bd) (c := bn) (m := a) ((hK2 _).2 hbd) hc ?_ hm1 ⟨by rw [ka]; exact h.kind_ne.2 hm, by rw [ka]; exact ha2⟩ (by rw [ka]; exact ha2) (fun _ _ => rfl) Nf (fun p hp' => by rw [h.shape.unique (R2 _ _ hp') hp]; exact hpl)
    show (if bd = ad ∧ bn = an then none else if bd = bd ∧ bn = bn then none else nmF s bd bn) = none
    split
    · rfl
    · rw [if_pos ⟨rfl, rfl⟩]
  · have hj' := (G j).1 (F3 j hj).1
    have e1 : refs (loseN t b false).1 j = refs t j := by unfold refs; rw [F2.countP_eq]
    rw [e1]
    by_cases e : j = b
    · rw [e]; exact F7 (e ▸ hj)
    · have h3 := h.named j hj' hj1
      have := RS j
      rw [if_neg (fun c => e c.symm)] at this
      omega
/-- A directory, in the place of one without names. -/
theorem Inv.move4 (h : Inv n k s) {b : Int} (ha : nmF s ad an = some a) (ha2 : kindOf s a = 2) (hb : nmF s bd bn = some b) (hb2 : kindOf s b = 2) (hbe : namesOf s b = []) (hab : b ≠ a) (hp : Run (nmF s) (kindOf s) 1 pre bd) (hnp : a ∉ pre ++ [bd]) (hpl : pre.length + 1 ≤ 32)
    (hrun : ∀ l e f x, Run (nmF s) (kindOf s) a l e → nmF s e f = some x → pre.length + 1 + (l.length + 1) ≤ 32) (hc : NameOk bn) :
    Inv n k (del (linksN (takeN (replN (linksN (linksN s ad (-1)) bd 1) bd bn a) ad an) bd (-1)) b) := by
  obtain ⟨hd, hm, hm1⟩ := h.dir_of ha
  obtain ⟨hbd, hbm, hbm1⟩ := h.dir_of hb
  have hne : ¬ (ad = bd ∧ an = bn) := fun e => by
    rw [e.1, e.2, hb] at ha; exact hab (Option.some.inj ha)
  have hbf : ∀ f, nmF s b f = none := fun f => by unfold nmF; rw [hbe]; rfl
  have hdb : ad ≠ b := fun e => by rw [e, hbf] at ha; cases ha
  have hbb : bd ≠ b := fun e => by rw [e, hbf] at hb; cases hb
  obtain ⟨N0, L0, K0, G0, P0, E0⟩ := base_two h ad bd
  have D0 := df_two h hd hbd
  have hB0 : namesOf (linksN (linksN s ad (-1)) bd 1) b = [] := by rw [namesOf_linksN, namesOf_linksN]; exact hbe
  generalize linksN (linksN s ad (-1)) bd 1 = u at *
  have hbu : nmF u bd bn = some b := by rw [N0]; exact hb
  have kdu : kindOf u bd = 2 := by rw [K0]; exact hbd
  have PR := P0.onRepl hbu kdu a
  obtain ⟨y, hy, _⟩ := names_some hbu
  have NR := nmF_repl hy bn a
  have ha' : nmF (replN u bd bn a) ad an = some a := by rw [NR, if_neg hne, N0]; exact ha
  have kdR : kindOf (replN u bd bn a) ad = 2 := by rw [kindOf_replN, K0]; exact hd
  have P1 := PR.onTake ad an
  obtain ⟨A, A1, A2⟩ := allNames_repl P0.rising P0.rise hbu a
  have A3 := allNames_take PR.rising PR.rise ha'
  have K : ∀ j, kindOf (takeN (replN u bd bn a) ad an) j = kindOf s j := fun j => by rw [kindOf_takeN, kindOf_replN, K0]
  have N : ∀ e f, nmF (takeN (replN u bd bn a) ad an) e f = if e = bd ∧ f = bn then some a else if e = ad ∧ f = an then none else nmF s e f := fun e f => by
    rw [nmF_take, NR, N0]
    by_cases e1 : e = ad ∧ f = an
    · rw [if_pos e1, if_neg (fun c => hne ⟨e1.1.symm.trans c.1, e1.2.symm.trans c.2⟩), if_pos e1]
    · rw [if_neg e1, if_neg e1]
  have G : ∀ j, get (takeN (replN u bd bn a) ad an) j ≠ none ↔ get s j ≠ none := fun j => (get_takeN_none.trans get_replN_none).trans (G0 j)
  have D1 : ∀ j, get s j ≠ none → df (takeN (replN u bd bn a) ad an) j = if j = bd then 1 else 0 := fun j hj => by
    rw [df_take PR.rising PR.rise kdR ha', df_repl P0.rising P0.rise kdu hbu, kindOf_replN, K0, K0, if_pos ha2, if_pos hb2, if_pos ha2, D0, h.links j hj]; omega
  have RS : ∀ j, refs (takeN (replN u bd bn a) ad an) j + (if b = j then 1 else 0) = refs s j := fun j => by
    have e1 : refs u j = A.countP (fun e => decide (e.2.2 = j)) + if b = j then 1 else 0 := by
      unfold refs; rw [A1.countP_eq, countP_cons']; simp only [decide_eq_true_eq]
    have e2 : refs (replN u bd bn a) j = A.countP (fun e => decide (e.2.2 = j)) + if a = j then 1 else 0 := by
      unfold refs; rw [A2.countP_eq, countP_cons']; simp only [decide_eq_true_eq]
    have e3 : refs u j = refs s j := by unfold refs; rw [L0]
    rw [refs_cons A3] at e2
    omega
  have LS : (allNames (takeN (replN u bd bn a) ad an)).length ≤ k := by
    have := len_perm A1; have := len_perm A2; have := len_perm A3; rw [L0] at *; have := h.total; omega
  have ES : (takeN (replN u bd bn a) ad an).length = s.length := ((length_mod _ _ _).trans (length_mod _ _ _)).trans E0
  have hB : namesOf (takeN (replN u bd bn a) ad an) b = [] := by
    rw [namesOf_takeN, if_neg (fun e => hdb e.symm), namesOf_replN, if_neg (fun e => hbb e.1.symm)]; exact hB0
  generalize takeN (replN u bd bn a) ad an = t at *
  have P2 := P1.links bd (-1)
  have hn : namesOf (linksN t bd (-1)) b = [] := by rw [namesOf_linksN]; exact hB
  have hr : refs (linksN t bd (-1)) b = 0 := by
    rw [refs_links]
    have h1 := RS b
    rw [if_pos rfl] at h1
    have h2 := unique_name h hb hb2
    have h3 := refs_cons (allNames_take h.rising h.rise hb) b
    rw [if_pos rfl] at h3
    omega
  obtain ⟨z, hz⟩ : ∃ z, get t bd = some z := Option.ne_none_iff_exists'.1 ((G bd).2 (h.kind_ne.1 (by rw [hbd]; decide)))
  have NN : nmF (del (linksN t bd (-1)) b) = nmF t := by rw [nmF_del hn, nmF_links]
  have AA : (allNames (del (linksN t bd (-1)) b)).Perm (allNames t) := by have := allNames_del P2.rising hn; rw [allNames_links] at this; exact this
  have GG : ∀ j, get (del (linksN t bd (-1)) b) j ≠ none → j ≠ b ∧ get s j ≠ none := fun j hj => by
    obtain ⟨h1, h2⟩ := get_del_none.1 hj
    exact ⟨h1, (G j).1 (get_linksN_none.1 h2)⟩
  have KK : ∀ j, j ≠ b → kindOf (del (linksN t bd (-1)) b) j = kindOf s j := fun j hj => by rw [kindOf_del, if_neg hj, kindOf_linksN, K]
  have Kb : kindOf (del (linksN t bd (-1)) b) b = 0 := by rw [kindOf_del, if_pos rfl]
  refine ⟨P2.onDel b, ?_, fun j hj => ?_, fun j hj hj1 => ?_, by rw [AA.length_eq]; exact LS, ?_⟩
  · let nm1 : NmF := fun e f => if e = bd ∧ f = bn then none else nmF s e f
    have S1 : Shape nm1 (kindOf (del (linksN t bd (-1)) b)) := h.shape.undir (d := bd) (c := bn) (m := b) hb hb2 hbf Kb KK (fun _ _ => rfl)
    have ha1 : nm1 ad an = some a := by show (if ad = bd ∧ an = bn then none else nmF s ad an) = some a; rw [if_neg hne]; exact ha
    have down : ∀ r p e, Run nm1 (kindOf (del (linksN t bd (-1)) b)) r p e → Run (nmF s) (kindOf s) r p e := fun r p e hr => hr.mono fun x y z hx hz => ⟨y, by
      have hx2 : (if x = bd ∧ y = bn then none else nmF s x y) = some z := hx
      split at hx2
      · cases hx2
      · exact hx2, by
      have : z ≠ b := fun e => by rw [e, Kb] at hz; cases hz
      rw [← KK z this]; exact hz⟩
    obtain ⟨p1, hp1⟩ := S1.reach bd (by rw [KK bd hbb]; exact hbd)
    have hpe : p1 = pre := h.shape.unique (down _ _ _ hp1) hp
    rw [hpe] at hp1
    refine S1.move (d := ad) (c := an) (d' := bd) (c' := bn) (m := a) ha1 (by rw [KK a (fun e => hab e.symm)]; exact ha2) ?_ hc hp1 hnp hpl (fun l e f x hr hx => ?_) (fun e f => ?_)
    · show (if bd = bd ∧ bn = bn then none else nmF s bd bn) = none
      rw [if_pos ⟨rfl, rfl⟩]
    · refine hrun l e f x (down _ _ _ hr) ?_
      have hx2 : (if e = bd ∧ f = bn then none else nmF s e f) = some x := hx
      split at hx2
      · cases hx2
      · exact hx2
    · rw [NN, N]
      by_cases e1 : e = bd ∧ f = bn
      · rw [if_pos e1, if_pos e1]
      · rw [if_neg e1, if_neg e1]
        show _ = if e = ad ∧ f = an then none else if e = bd ∧ f = bn then none else nmF s e f
        rw [if_neg e1]
  · obtain ⟨h1, h2⟩ := GG j hj
    rw [df_del P2.rising hn (fun _ => hr) h1, df_links hz, D1 j h2]
    split <;> rfl
  · obtain ⟨h1, h2⟩ := GG j hj
    have e1 : refs (del (linksN t bd (-1)) b) j = refs t j := by unfold refs; rw [AA.countP_eq]
    have h3 := h.named j h2 hj1
    have := RS j
    rw [if_neg (fun c => h1 c.symm)] at this
    rw [e1]; omega
  · have h1 : (linksN t bd (-1)).length = s.length := (length_mod _ _ _).trans ES
    have := length_del_le (linksN t bd (-1)) b
    have := h.len; omega
end
end
end Fs
end Go.Proofs.YtlnnbjgfpiefdaaGreat
