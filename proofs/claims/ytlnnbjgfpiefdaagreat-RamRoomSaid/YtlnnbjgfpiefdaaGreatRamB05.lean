/- The tree that a layout means; what keeps it. No walk. -/
import Derived.Test.YtlnnbjgfpiefdaaGreatRamB04
import Derived.Defers
namespace Go.Proofs.YtlnnbjgfpiefdaaGreat
open Go.RowKit Go.Maps

namespace Fs
def piecesAt (L : Lay) : Option Nat → Al Int Pc
  | none => []
  | some p => match L p with
    | some (.pieces m) => m
    | _ => []
def namesAt (L : Lay) : Option Nat → Al Tx Int
  | none => []
  | some p => match L p with
    | some (.names m) => m
    | _ => []
def ndOf (L : Lay) (h : Hd) : Nd := ⟨h.kind, h.links, h.size, piecesAt L h.pm, namesAt L h.nm, h.blocks, h.text⟩
def ndAtB (L : Lay) (b : Nat) : Nd := match L b with
  | some (.node h) => ndOf L h
  | _ => ⟨0, 0, 0, [], [], 0, []⟩
def nodesOf (L : Lay) (nb : Nat) : Al Int Nat := match L nb with
  | some (.nodes m) => m
  | _ => []
/-- The tree. -/
def stOf (L : Lay) (nb : Nat) : Tree := (nodesOf L nb).map fun p => (p.1, ndAtB L p.2)
/-- Where an inode lies. -/
def Adr (L : Lay) (nb : Nat) (i : Int) (b : Nat) : Prop := get (nodesOf L nb) i = some b

structure WF (L : Lay) (nb : Nat) : Prop where
  nodes : ∃ m, L nb = some (.nodes m) ∧ Rising m
  node : ∀ p ∈ nodesOf L nb, ∃ h, L p.2 = some (.node h)
  inj : ∀ p ∈ nodesOf L nb, ∀ q ∈ nodesOf L nb, p.2 = q.2 → p.1 = q.1
  pm : ∀ b h p, L b = some (.node h) → h.pm = some p → ∃ m, L p = some (.pieces m)
  nm : ∀ b h p, L b = some (.node h) → h.nm = some p → ∃ m, L p = some (.names m)
  pinj : ∀ b h b' h' p, L b = some (.node h) → L b' = some (.node h') → h.pm = some p → h'.pm = some p → b = b'
  ninj : ∀ b h b' h' p, L b = some (.node h) → L b' = some (.node h') → h.nm = some p → h'.nm = some p → b = b'
  dir : ∀ b h, L b = some (.node h) → h.kind = 2 → ∃ q, h.nm = some q
  file : ∀ b h, L b = some (.node h) → h.kind = 1 → ∃ q, h.pm = some q

theorem get_map {κ ν μ : Type} [DecidableEq κ] (l : Al κ ν) (f : ν → μ) (k : κ) : get (l.map fun p => (p.1, f p.2)) k = (get l k).map f := by
  unfold get
  rw [List.find?_map]
  simp only [Function.comp_def, Option.map_map]
theorem get_modN (s : Tree) (i j : Int) (f : Nd → Nd) : get (modN s i f) j = if j = i then (get s i).map f else get s j := by
  unfold modN get
  rw [List.find?_map]
  have : ((fun p : Int × Nd => decide (p.1 = j)) ∘ fun p : Int × Nd => if p.1 = i then (p.1, f p.2) else p) = fun p => decide (p.1 = j) := funext fun p => by
    simp only [Function.comp]; split <;> rfl
  rw [this]
  split
  · rename_i e
    subst e
    cases hf : s.find? (fun p => decide (p.1 = j)) with
    | none => rfl
    | some p =>
      have := List.find?_some hf
      simp only [decide_eq_true_eq] at this
      simp [this]
  · rename_i e
    cases hf : s.find? (fun p => decide (p.1 = j)) with
    | none => rfl
    | some p =>
      have := List.find?_some hf
      simp only [decide_eq_true_eq] at this
      simp [this, e]
theorem Adr.st {L : Lay} {nb : Nat} {i : Int} {b : Nat} (h : Adr L nb i b) : get (stOf L nb) i = some (ndAtB L b) := by
  unfold stOf
  rw [get_map, h]; rfl
theorem Adr.of_st {L : Lay} {nb : Nat} {i : Int} {x : Nd} (h : get (stOf L nb) i = some x) : ∃ b, Adr L nb i b ∧ ndAtB L b = x := by
  unfold stOf at h
  rw [get_map] at h
  cases hg : get (nodesOf L nb) i with
  | none => rw [hg] at h; cases h
  | some b => rw [hg] at h; cases h; exact ⟨b, hg, rfl⟩
theorem Adr.none {L : Lay} {nb : Nat} {i : Int} : get (stOf L nb) i = none ↔ get (nodesOf L nb) i = none := by
  unfold stOf
  rw [get_map]; simp
theorem WF.rising {L : Lay} {nb : Nat} (h : WF L nb) : Rising (nodesOf L nb) := by
  obtain ⟨m, e, hr⟩ := h.nodes
  unfold nodesOf; rw [e]; exact hr
theorem WF.at {L : Lay} {nb : Nat} (h : WF L nb) {i : Int} {b : Nat} (ha : Adr L nb i b) : ∃ hd, L b = some (.node hd) := h.node (i, b) (h.rising.get.1 ha)
theorem WF.one {L : Lay} {nb : Nat} (h : WF L nb) {i j : Int} {b : Nat} (ha : Adr L nb i b) (hb : Adr L nb j b) : i = j := h.inj _ (h.rising.get.1 ha) _ (h.rising.get.1 hb) rfl
theorem WF.nodesOf_eq {L : Lay} {nb : Nat} (h : WF L nb) : L nb = some (.nodes (nodesOf L nb)) := by
  obtain ⟨m, e, _⟩ := h.nodes
  unfold nodesOf; rw [e]

/-- A layout that says more means the same tree. -/
theorem WF.ex {L L' : Lay} {nb : Nat} (h : WF L nb) (k : Ex L L') : stOf L' nb = stOf L nb := by
  have hn : nodesOf L' nb = nodesOf L nb := by
    conv => lhs; unfold nodesOf
    rw [k _ _ h.nodesOf_eq]
  unfold stOf
  rw [hn]
  refine List.map_congr_left fun p hp => ?_
  obtain ⟨hd, e⟩ := h.node p hp
  have e1 : ndAtB L p.2 = ndOf L hd := by unfold ndAtB; rw [e]
  have e2 : ndAtB L' p.2 = ndOf L' hd := by unfold ndAtB; rw [k _ _ e]
  rw [e1, e2]
  unfold ndOf
  have e3 : piecesAt L' hd.pm = piecesAt L hd.pm := by
    cases hp : hd.pm with
    | none => rfl
    | some q =>
      obtain ⟨m, hm⟩ := h.pm _ _ _ e hp
      unfold piecesAt; dsimp only; rw [hm, k _ _ hm]
  have e4 : namesAt L' hd.nm = namesAt L hd.nm := by
    cases hp : hd.nm with
    | none => rfl
    | some q =>
      obtain ⟨m, hm⟩ := h.nm _ _ _ e hp
      unfold namesAt; dsimp only; rw [hm, k _ _ hm]
  rw [e3, e4]

/-! New blocks. -/
/-- A layout with a block more that is no node. -/
theorem WF.more {L : Lay} {nb : Nat} (h : WF L nb) {x : Nat} {r : Ro} (hr : ∀ y, r ≠ .node y) (hx : L x = none) : WF (upd L x r) nb ∧ stOf (upd L x r) nb = stOf L nb ∧ nodesOf (upd L x r) nb = nodesOf L nb := by
  have hk : Ex L (upd L x r) := (Ex.refl L).upd_new _ hx
  have hb : ∀ b y, upd L x r b = some (.node y) → L b = some (.node y) := fun b y e => by
    unfold upd at e; split at e
    · cases e; exact absurd rfl (hr _)
    · exact e
  have hn : nodesOf (upd L x r) nb = nodesOf L nb := by
    conv => lhs; unfold nodesOf
    rw [hk _ _ h.nodesOf_eq]
  refine ⟨⟨?_, ?_, ?_, ?_, ?_, ?_, ?_, ?_, ?_⟩, h.ex hk, hn⟩
  · obtain ⟨m, e, hr⟩ := h.nodes; exact ⟨m, hk _ _ e, hr⟩
  · rw [hn]; intro p hp; obtain ⟨hd, e⟩ := h.node p hp; exact ⟨hd, hk _ _ e⟩
  · rw [hn]; exact h.inj
  · intro b hd p e hp; obtain ⟨m, hm⟩ := h.pm b hd p (hb _ _ e) hp; exact ⟨m, hk _ _ hm⟩
  · intro b hd p e hp; obtain ⟨m, hm⟩ := h.nm b hd p (hb _ _ e) hp; exact ⟨m, hk _ _ hm⟩
  · intro b hd b' hd' p e e' hp hp'; exact h.pinj b hd b' hd' p (hb _ _ e) (hb _ _ e') hp hp'
  · intro b hd b' hd' p e e' hp hp'; exact h.ninj b hd b' hd' p (hb _ _ e) (hb _ _ e') hp hp'
  · intro b y e; exact h.dir b y (hb _ _ e)
  · intro b y e; exact h.file b y (hb _ _ e)
/-- Boxes more. -/
inductive Boxed : Lay → Lay → Prop
  | refl (L : Lay) : Boxed L L
  | box (L L' : Lay) (x : Nat) (t : TypeId) (v : Value) (h : Boxed L L') (hx : L' x = none) : Boxed L (upd L' x (.box t v))
theorem Boxed.ex {L L' : Lay} (h : Boxed L L') : Ex L L' := by
  induction h with
  | refl => exact Ex.refl _
  | box L' x t v h hx ih => exact ih.trans ((Ex.refl _).upd_new _ hx)
theorem Boxed.wf {L L' : Lay} {nb : Nat} (h : Boxed L L') (hw : WF L nb) : WF L' nb ∧ stOf L' nb = stOf L nb ∧ nodesOf L' nb = nodesOf L nb := by
  induction h with
  | refl => exact ⟨hw, rfl, rfl⟩
  | box L' x t v h hx ih =>
    obtain ⟨k1, k2, k3⟩ := ih
    obtain ⟨j1, j2, j3⟩ := k1.more (r := .box t v) (fun _ c => by cases c) hx
    exact ⟨j1, j2.trans k2, j3.trans k3⟩
theorem upd_comm (L : Lay) {b c : Nat} (r s : Ro) (h : b ≠ c) : upd (upd L b r) c s = upd (upd L c s) b r := by
  funext x
  unfold upd
  by_cases e1 : x = c
  · subst e1; rw [if_pos rfl, if_neg (fun e => h e.symm), if_pos rfl]
  · rw [if_neg e1, if_neg e1]

/-! A node's own cells turn. -/
theorem WF.node_ne {L : Lay} {nb : Nat} (h : WF L nb) {b : Nat} {hd : Hd} (hb : L b = some (.node hd)) : b ≠ nb := by
  rintro rfl; obtain ⟨m, e, _⟩ := h.nodes; rw [e] at hb; cases hb
theorem WF.field {L : Lay} {nb : Nat} (h : WF L nb) {b : Nat} {hd hd' : Hd} (hb : L b = some (.node hd)) (hp : hd'.pm = hd.pm) (hn : hd'.nm = hd.nm) (hk : hd'.kind = hd.kind) :
    WF (upd L b (.node hd')) nb ∧ nodesOf (upd L b (.node hd')) nb = nodesOf L nb ∧ (∀ x, ndAtB (upd L b (.node hd')) x = if x = b then { ndAtB L b with kind := hd'.kind, links := hd'.links, size := hd'.size, blocks := hd'.blocks, text := hd'.text } else ndAtB L x) := by
  have hbn := h.node_ne hb
  have hno : nodesOf (upd L b (.node hd')) nb = nodesOf L nb := by unfold nodesOf; rw [upd_other _ _ hbn.symm]
  have hup : ∀ x y, upd L b (.node hd') x = some (.node y) → ∃ y', L x = some (.node y') ∧ y'.pm = y.pm ∧ y'.nm = y.nm ∧ y'.kind = y.kind := fun x y e => by
    unfold upd at e; split at e
    · rename_i e'; cases e; exact ⟨hd, by rw [e']; exact hb, hp.symm, hn.symm, hk.symm⟩
    · exact ⟨y, e, rfl, rfl, rfl⟩
  have hst : ∀ x r, L x = some r → (∀ y, r ≠ .node y) → upd L b (.node hd') x = some r := fun x r e hr => by
    rw [upd_other _ _ (fun c => by rw [c, hb] at e; cases e; exact hr _ rfl)]; exact e
  have hpa : ∀ o, piecesAt (upd L b (.node hd')) o = piecesAt L o := fun o => by
    cases o with
    | none => rfl
    | some q =>
      unfold piecesAt
      dsimp only
      by_cases e : q = b
      · subst e; rw [upd_same, hb]
      · rw [upd_other _ _ e]
  have hna : ∀ o, namesAt (upd L b (.node hd')) o = namesAt L o := fun o => by
    cases o with
    | none => rfl
    | some q =>
      unfold namesAt
      dsimp only
      by_cases e : q = b
      · subst e; rw [upd_same, hb]
      · rw [upd_other _ _ e]
  refine ⟨⟨?_, ?_, ?_, ?_, ?_, ?_, ?_, ?_, ?_⟩, hno, fun x => ?_⟩
  · obtain ⟨m, e, hr⟩ := h.nodes; exact ⟨m, hst _ _ e (fun _ c => by cases c), hr⟩
  · rw [hno]; intro p hp'; obtain ⟨y, e⟩ := h.node p hp'
    by_cases c : p.2 = b
    · exact ⟨hd', by rw [c, upd_same]⟩
    · exact ⟨y, by rw [upd_other _ _ c]; exact e⟩
  · rw [hno]; exact h.inj
  · intro x y p e hp'; obtain ⟨y', e', k1, k2, _⟩ := hup x y e; obtain ⟨m, hm⟩ := h.pm x y' p e' (k1.trans hp'); exact ⟨m, hst _ _ hm (fun _ c => by cases c)⟩
  · intro x y p e hp'; obtain ⟨y', e', k1, k2, _⟩ := hup x y e; obtain ⟨m, hm⟩ := h.nm x y' p e' (k2.trans hp'); exact ⟨m, hst _ _ hm (fun _ c => by cases c)⟩
  · intro x y x2 y2 p e e2 hp' hp2; obtain ⟨y', e', k1, k2, _⟩ := hup x y e; obtain ⟨y3, e3, k3, k4, _⟩ := hup x2 y2 e2; exact h.pinj x y' x2 y3 p e' e3 (k1.trans hp') (k3.trans hp2)
  · intro x y x2 y2 p e e2 hp' hp2; obtain ⟨y', e', k1, k2, _⟩ := hup x y e; obtain ⟨y3, e3, k3, k4, _⟩ := hup x2 y2 e2; exact h.ninj x y' x2 y3 p e' e3 (k2.trans hp') (k4.trans hp2)
  · intro x y e hk'; obtain ⟨y', e', k1, k2, k3⟩ := hup x y e; rw [← k2]; exact h.dir x y' e' (k3.trans hk')
  · intro x y e hk'; obtain ⟨y', e', k1, k2, k3⟩ := hup x y e; rw [← k1]; exact h.file x y' e' (k3.trans hk')
  · unfold ndAtB
    by_cases c : x = b
    · subst c; rw [upd_same, hb, if_pos rfl]; unfold ndOf; dsimp only; rw [hpa, hna, hp, hn]
    · rw [upd_other _ _ c, if_neg c]
      cases L x with
      | none => rfl
      | some r =>
        cases r with
        | node y => dsimp only; unfold ndOf; rw [hpa, hna]
        | _ => rfl
/-- What a node is then. -/
theorem st_of_at {L L' : Lay} {nb : Nat} (h : WF L nb) {i : Int} {b : Nat} (ha : Adr L nb i b) (f : Nd → Nd) (hn : nodesOf L' nb = nodesOf L nb) (hx : ∀ x, (∃ j, Adr L nb j x) → ndAtB L' x = if x = b then f (ndAtB L b) else ndAtB L x) :
    stOf L' nb = modN (stOf L nb) i f := by
  unfold stOf modN
  rw [hn, List.map_map]
  refine List.map_congr_left fun p hp => ?_
  have hap : Adr L nb p.1 p.2 := h.rising.get.2 hp
  simp only [Function.comp]
  rw [hx _ ⟨_, hap⟩]
  by_cases c : p.2 = b
  · have : p.1 = i := h.one hap (by rw [c]; exact ha)
    rw [if_pos c, if_pos this, c]
  · have : p.1 ≠ i := fun e => c (by unfold Adr at ha hap; rw [e, ha] at hap; cases hap; rfl)
    rw [if_neg c, if_neg this]

/-! A map of a node turns. -/
theorem WF.names {L : Lay} {nb : Nat} (h : WF L nb) {d q : Nat} {hd : Hd} {m : Al Tx Int} (hd1 : L d = some (.node hd)) (hd2 : hd.nm = some q) (hq : L q = some (.names m)) (m' : Al Tx Int) :
    WF (upd L q (.names m')) nb ∧ nodesOf (upd L q (.names m')) nb = nodesOf L nb ∧ (∀ x, ndAtB (upd L q (.names m')) x = if x = d then { ndAtB L d with names := m' } else ndAtB L x) := by
  have hqn : q ≠ nb := by rintro rfl; obtain ⟨m, e, _⟩ := h.nodes; rw [e] at hq; cases hq
  have hno : nodesOf (upd L q (.names m')) nb = nodesOf L nb := by unfold nodesOf; rw [upd_other _ _ hqn.symm]
  have hnd : ∀ x y, upd L q (.names m') x = some (.node y) → L x = some (.node y) := fun x y e => by
    unfold upd at e; split at e
    · cases e
    · exact e
  have hst : ∀ x r, L x = some r → (∀ y, r ≠ .names y) → upd L q (.names m') x = some r := fun x r e hr => by
    rw [upd_other _ _ (fun c => by rw [c, hq] at e; cases e; exact hr _ rfl)]; exact e
  have hpa : ∀ o, piecesAt (upd L q (.names m')) o = piecesAt L o := fun o => by
    cases o with
    | none => rfl
    | some p =>
      unfold piecesAt
      dsimp only
      by_cases e : p = q
      · subst e; rw [upd_same, hq]
      · rw [upd_other _ _ e]
  have hna : ∀ o, o ≠ some q → namesAt (upd L q (.names m')) o = namesAt L o := fun o ho => by
    cases o with
    | none => rfl
    | some p =>
      unfold namesAt
      dsimp only
      rw [upd_other _ _ (fun e => ho (by rw [e]))]
  refine ⟨⟨?_, ?_, ?_, ?_, ?_, ?_, ?_, ?_, ?_⟩, hno, fun x => ?_⟩
  · obtain ⟨y, e, hr⟩ := h.nodes; exact ⟨y, hst _ _ e (fun _ c => by cases c), hr⟩
  · rw [hno]; intro p hp'; obtain ⟨y, e⟩ := h.node p hp'; exact ⟨y, hst _ _ e (fun _ c => by cases c)⟩
  · rw [hno]; exact h.inj
  · intro x y p e hp'; obtain ⟨z, hz⟩ := h.pm x y p (hnd _ _ e) hp'; exact ⟨z, hst _ _ hz (fun _ c => by cases c)⟩
  · intro x y p e hp'; obtain ⟨z, hz⟩ := h.nm x y p (hnd _ _ e) hp'
    by_cases c : p = q
    · exact ⟨m', by rw [c, upd_same]⟩
    · exact ⟨z, by rw [upd_other _ _ c]; exact hz⟩
  · intro x y x2 y2 p e e2 hp' hp2; exact h.pinj x y x2 y2 p (hnd _ _ e) (hnd _ _ e2) hp' hp2
  · intro x y x2 y2 p e e2 hp' hp2; exact h.ninj x y x2 y2 p (hnd _ _ e) (hnd _ _ e2) hp' hp2
  · intro x y e; exact h.dir x y (hnd _ _ e)
  · intro x y e; exact h.file x y (hnd _ _ e)
  · by_cases c : x = d
    · subst c
      rw [if_pos rfl]
      unfold ndAtB
      rw [hst _ _ hd1 (fun _ c => by cases c), hd1]
      unfold ndOf
      dsimp only
      rw [hpa, hd2]
      unfold namesAt
      dsimp only
      rw [upd_same]
    · rw [if_neg c]
      unfold ndAtB
      by_cases e : x = q
      · subst e; rw [upd_same, hq]
      · rw [upd_other _ _ e]
        cases hr : L x with
        | none => rfl
        | some r =>
          cases r with
          | node y =>
            dsimp only; unfold ndOf
            rw [hpa, hna _ (fun e => c (h.ninj _ _ _ _ _ hr hd1 e hd2))]
          | _ => rfl
theorem WF.pieces {L : Lay} {nb : Nat} (h : WF L nb) {d q : Nat} {hd : Hd} {m : Al Int Pc} (hd1 : L d = some (.node hd)) (hd2 : hd.pm = some q) (hq : L q = some (.pieces m)) (m' : Al Int Pc) :
    WF (upd L q (.pieces m')) nb ∧ nodesOf (upd L q (.pieces m')) nb = nodesOf L nb ∧ (∀ x, ndAtB (upd L q (.pieces m')) x = if x = d then { ndAtB L d with pieces := m' } else ndAtB L x) := by
  have hqn : q ≠ nb := by rintro rfl; obtain ⟨m, e, _⟩ := h.nodes; rw [e] at hq; cases hq
  have hno : nodesOf (upd L q (.pieces m')) nb = nodesOf L nb := by unfold nodesOf; rw [upd_other _ _ hqn.symm]
  have hnd : ∀ x y, upd L q (.pieces m') x = some (.node y) → L x = some (.node y) := fun x y e => by
    unfold upd at e; split at e
    · cases e
    · exact e
  have hst : ∀ x r, L x = some r → (∀ y, r ≠ .pieces y) → upd L q (.pieces m') x = some r := fun x r e hr => by
    rw [upd_other _ _ (fun c => by rw [c, hq] at e; cases e; exact hr _ rfl)]; exact e
  have hna : ∀ o, namesAt (upd L q (.pieces m')) o = namesAt L o := fun o => by
    cases o with
    | none => rfl
    | some p =>
      unfold namesAt
      dsimp only
      by_cases e : p = q
      · subst e; rw [upd_same, hq]
      · rw [upd_other _ _ e]
  have hpa : ∀ o, o ≠ some q → piecesAt (upd L q (.pieces m')) o = piecesAt L o := fun o ho => by
    cases o with
    | none => rfl
    | some p =>
      unfold piecesAt
      dsimp only
      rw [upd_other _ _ (fun e => ho (by rw [e]))]
  refine ⟨⟨?_, ?_, ?_, ?_, ?_, ?_, ?_, ?_, ?_⟩, hno, fun x => ?_⟩
  · obtain ⟨y, e, hr⟩ := h.nodes; exact ⟨y, hst _ _ e (fun _ c => by cases c), hr⟩
  · rw [hno]; intro p hp'; obtain ⟨y, e⟩ := h.node p hp'; exact ⟨y, hst _ _ e (fun _ c => by cases c)⟩
  · rw [hno]; exact h.inj
  · intro x y p e hp'; obtain ⟨z, hz⟩ := h.pm x y p (hnd _ _ e) hp'
    by_cases c : p = q
    · exact ⟨m', by rw [c, upd_same]⟩
    · exact ⟨z, by rw [upd_other _ _ c]; exact hz⟩
  · intro x y p e hp'; obtain ⟨z, hz⟩ := h.nm x y p (hnd _ _ e) hp'; exact ⟨z, hst _ _ hz (fun _ c => by cases c)⟩
  · intro x y x2 y2 p e e2 hp' hp2; exact h.pinj x y x2 y2 p (hnd _ _ e) (hnd _ _ e2) hp' hp2
  · intro x y x2 y2 p e e2 hp' hp2; exact h.ninj x y x2 y2 p (hnd _ _ e) (hnd _ _ e2) hp' hp2
  · intro x y e; exact h.dir x y (hnd _ _ e)
  · intro x y e; exact h.file x y (hnd _ _ e)
  · by_cases c : x = d
    · subst c
      rw [if_pos rfl]
      unfold ndAtB
      rw [hst _ _ hd1 (fun _ c => by cases c), hd1]
      unfold ndOf
      dsimp only
      rw [hna, hd2]
      unfold piecesAt
      dsimp only
      rw [upd_same]
    · rw [if_neg c]
      unfold ndAtB
      by_cases e : x = q
      · subst e; rw [upd_same, hq]
      · rw [upd_other _ _ e]
        cases hr : L x with
        | none => rfl
        | some r =>
          cases r with
          | node y =>
            dsimp only; unfold ndOf
            rw [hna, hpa _ (fun e => c (h.pinj _ _ _ _ _ hr hd1 e hd2))]
          | _ => rfl
/-- The table of nodes turns. -/
theorem WF.table {L : Lay} {nb : Nat} (h : WF L nb) (m : Al Int Nat) (hr : Rising m) (hn : ∀ p ∈ m, ∃ hd, L p.2 = some (.node hd)) (hi : ∀ p ∈ m, ∀ q ∈ m, p.2 = q.2 → p.1 = q.1) :
    WF (upd L nb (.nodes m)) nb ∧ nodesOf (upd L nb (.nodes m)) nb = m ∧ ∀ x, ndAtB (upd L nb (.nodes m)) x = ndAtB L x := by
  have hno : nodesOf (upd L nb (.nodes m)) nb = m := by unfold nodesOf; rw [upd_same]
  have h0 := h.nodesOf_eq
  have hnd : ∀ x y, upd L nb (.nodes m) x = some (.node y) → L x = some (.node y) := fun x y e => by
    unfold upd at e; split at e
    · cases e
    · exact e
  have hst : ∀ x r, L x = some r → (∀ y, r ≠ .nodes y) → upd L nb (.nodes m) x = some r := fun x r e hr => by
    rw [upd_other _ _ (fun c => by rw [c, h0] at e; cases e; exact hr _ rfl)]; exact e
  have hpa : ∀ o, piecesAt (upd L nb (.nodes m)) o = piecesAt L o := fun o => by
    cases o with
    | none => rfl
    | some p =>
      unfold piecesAt
      dsimp only
      by_cases e : p = nb
      · subst e; rw [upd_same, h0]
      · rw [upd_other _ _ e]
  have hna : ∀ o, namesAt (upd L nb (.nodes m)) o = namesAt L o := fun o => by
    cases o with
    | none => rfl
    | some p =>
      unfold namesAt
      dsimp only
      by_cases e : p = nb
      · subst e; rw [upd_same, h0]
      · rw [upd_other _ _ e]
  refine ⟨⟨⟨m, upd_same _ _ _, hr⟩, ?_, ?_, ?_, ?_, ?_, ?_, ?_, ?_⟩, hno, fun x => ?_⟩
  · rw [hno]; intro p hp'; obtain ⟨y, e⟩ := hn p hp'; exact ⟨y, hst _ _ e (fun _ c => by cases c)⟩
  · rw [hno]; exact hi
  · intro x y p e hp'; obtain ⟨z, hz⟩ := h.pm x y p (hnd _ _ e) hp'; exact ⟨z, hst _ _ hz (fun _ c => by cases c)⟩
  · intro x y p e hp'; obtain ⟨z, hz⟩ := h.nm x y p (hnd _ _ e) hp'; exact ⟨z, hst _ _ hz (fun _ c => by cases c)⟩
  · intro x y x2 y2 p e e2 hp' hp2; exact h.pinj x y x2 y2 p (hnd _ _ e) (hnd _ _ e2) hp' hp2
  · intro x y x2 y2 p e e2 hp' hp2; exact h.ninj x y x2 y2 p (hnd _ _ e) (hnd _ _ e2) hp' hp2
  · intro x y e; exact h.dir x y (hnd _ _ e)
  · intro x y e; exact h.file x y (hnd _ _ e)
  · unfold ndAtB
    by_cases e : x = nb
    · subst e; rw [upd_same, h0]
    · rw [upd_other _ _ e]
      cases hr : L x with
      | none => rfl
      | some r =>
        cases r with
        | node y => dsimp only; unfold ndOf; rw [hpa, hna]
        | _ => rfl
/-- A node more, that is in no table yet. -/
theorem WF.node_more {L : Lay} {nb : Nat} (h : WF L nb) {x : Nat} {hd : Hd} (hx : L x = none) (hp : ∀ p, hd.pm = some p → (∃ m, L p = some (.pieces m)) ∧ ∀ b y, L b = some (.node y) → y.pm ≠ some p)
    (hn : ∀ p, hd.nm = some p → (∃ m, L p = some (.names m)) ∧ ∀ b y, L b = some (.node y) → y.nm ≠ some p) (hd2 : hd.kind = 2 → ∃ q, hd.nm = some q) (hd1 : hd.kind = 1 → ∃ q, hd.pm = some q) : WF (upd L x (.node hd)) nb ∧ stOf (upd L x (.node hd)) nb = stOf L nb ∧ nodesOf (upd L x (.node hd)) nb = nodesOf L nb := by
  have hk : Ex L (upd L x (.node hd)) := (Ex.refl L).upd_new _ hx
  have hno : nodesOf (upd L x (.node hd)) nb = nodesOf L nb := by
    conv => lhs; unfold nodesOf
    rw [hk _ _ h.nodesOf_eq]
  have hnd : ∀ b y, upd L x (.node hd) b = some (.node y) → (b = x ∧ y = hd) ∨ L b = some (.node y) := fun b y e => by
    unfold upd at e; split at e
    · rename_i c; cases e; exact .inl ⟨c, rfl⟩
    · exact .inr e
  refine ⟨⟨?_, ?_, ?_, ?_, ?_, ?_, ?_, ?_, ?_⟩, h.ex hk, hno⟩
  · obtain ⟨m, e, hr⟩ := h.nodes; exact ⟨m, hk _ _ e, hr⟩
  · rw [hno]; intro p hp'; obtain ⟨y, e⟩ := h.node p hp'; exact ⟨y, hk _ _ e⟩
  · rw [hno]; exact h.inj
  · intro b y p e hp'
    rcases hnd b y e with ⟨_, rfl⟩ | e
    · obtain ⟨m, hm⟩ := (hp p hp').1; exact ⟨m, hk _ _ hm⟩
    · obtain ⟨m, hm⟩ := h.pm b y p e hp'; exact ⟨m, hk _ _ hm⟩
  · intro b y p e hp'
    rcases hnd b y e with ⟨_, rfl⟩ | e
    · obtain ⟨m, hm⟩ := (hn p hp').1; exact ⟨m, hk _ _ hm⟩
    · obtain ⟨m, hm⟩ := h.nm b y p e hp'; exact ⟨m, hk _ _ hm⟩
  · intro b y b' y' p e e' hp1 hp2
    rcases hnd b y e with ⟨r1, rfl⟩ | e0 <;> rcases hnd b' y' e' with ⟨r2, c2⟩ | e1
    · rw [r1, r2]
    · exact absurd hp2 ((hp p hp1).2 _ _ e1)
    · subst c2; exact absurd hp1 ((hp p hp2).2 _ _ e0)
    · exact h.pinj b y b' y' p e0 e1 hp1 hp2
  · intro b y b' y' p e e' hp1 hp2
    rcases hnd b y e with ⟨r1, rfl⟩ | e0 <;> rcases hnd b' y' e' with ⟨r2, c2⟩ | e1
    · rw [r1, r2]
    · exact absurd hp2 ((hn p hp1).2 _ _ e1)
    · subst c2; exact absurd hp1 ((hn p hp2).2 _ _ e0)
    · exact h.ninj b y b' y' p e0 e1 hp1 hp2
  · intro b y e
    rcases hnd b y e with ⟨_, rfl⟩ | e
    · exact hd2
    · exact h.dir b y e
  · intro b y e
    rcases hnd b y e with ⟨_, rfl⟩ | e
    · exact hd1
    · exact h.file b y e

theorem st_table {L L' : Lay} {nb : Nat} {m : Al Int Nat} (h : nodesOf L' nb = m) (hx : ∀ x, ndAtB L' x = ndAtB L x) : stOf L' nb = m.map fun p => (p.1, ndAtB L p.2) := by
  unfold stOf
  rw [h]
  exact List.map_congr_left fun p _ => by rw [hx]
theorem del_map {κ ν μ : Type} [DecidableEq κ] (l : Al κ ν) (f : ν → μ) (k : κ) : del (l.map fun p => (p.1, f p.2)) k = (del l k).map fun p => (p.1, f p.2) := by
  unfold del
  rw [List.filter_map]
  rfl
theorem ins_map {κ ν μ : Type} [DecidableEq κ] [Key κ] (f : ν → μ) (k : κ) (v : ν) : ∀ l : Al κ ν, ins (k, f v) (l.map fun p => (p.1, f p.2)) = (ins (k, v) l).map fun p => (p.1, f p.2)
  | [] => rfl
  | y :: r => by
    rw [List.map_cons]
    unfold ins
    dsimp only
    split
    · rfl
    · rw [List.map_cons, ins_map f k v r]
theorem put_map {κ ν μ : Type} [DecidableEq κ] [Key κ] (l : Al κ ν) (f : ν → μ) (k : κ) (v : ν) : put (l.map fun p => (p.1, f p.2)) k (f v) = (put l k v).map fun p => (p.1, f p.2) := by
  unfold put
  rw [del_map, ins_map]

/-! What of a layout's rightness every closure that takes back keeps. -/
structure WFs (L : Lay) : Prop where
  pm : ∀ b h p, L b = some (.node h) → h.pm = some p → ∃ m, L p = some (.pieces m)
  nm : ∀ b h p, L b = some (.node h) → h.nm = some p → ∃ m, L p = some (.names m)
  pinj : ∀ b h b' h' p, L b = some (.node h) → L b' = some (.node h') → h.pm = some p → h'.pm = some p → b = b'
  ninj : ∀ b h b' h' p, L b = some (.node h) → L b' = some (.node h') → h.nm = some p → h'.nm = some p → b = b'
  dir : ∀ b h, L b = some (.node h) → h.kind = 2 → ∃ q, h.nm = some q
  file : ∀ b h, L b = some (.node h) → h.kind = 1 → ∃ q, h.pm = some q
theorem WF.s {L : Lay} {nb : Nat} (h : WF L nb) : WFs L := ⟨h.pm, h.nm, h.pinj, h.ninj, h.dir, h.file⟩
/-- Two things of one kind. -/
inductive Kin : Ro → Ro → Prop
  | node (h h' : Hd) (k : h.kind = h'.kind) (p : h.pm = h'.pm) (n : h.nm = h'.nm) : Kin (.node h) (.node h')
  | nodes (m m' : Al Int Nat) : Kin (.nodes m) (.nodes m')
  | names (m m' : Al Tx Int) : Kin (.names m) (.names m')
  | pieces (m m' : Al Int Pc) : Kin (.pieces m) (.pieces m')
theorem Und.kin {fb nb : Nat} {L : Lay} {v : Value} {b : Nat} {r r' : Ro} (h : Und fb nb L v b r r') : Kin r r' := by
  cases h with
  | links => exact .node _ _ rfl rfl rfl
  | size => exact .node _ _ rfl rfl rfl
  | grow => exact .node _ _ rfl rfl rfl
  | add => exact .nodes _ _
  | drop => exact .nodes _ _
  | put => exact .names _ _
  | take => exact .names _ _
  | replace => exact .names _ _
  | lay => exact .pieces _ _
  | cut => exact .pieces _ _
theorem WFs.kin {L : Lay} (h : WFs L) {b : Nat} {r r' : Ro} (hb : L b = some r') (hk : Kin r r') : WFs (upd L b r) := by
  have hno : ∀ x y, upd L b r x = some (.node y) → ∃ y', L x = some (.node y') ∧ y'.kind = y.kind ∧ y'.pm = y.pm ∧ y'.nm = y.nm := fun x y e => by
    unfold upd at e
    split at e
    · rename_i c
      cases e
      cases hk with
      | node _ h' k p n => exact ⟨h', by rw [c]; exact hb, k.symm, p.symm, n.symm⟩
    · exact ⟨y, e, rfl, rfl, rfl⟩
  have hpi : ∀ x m, L x = some (.pieces m) → ∃ m', upd L b r x = some (.pieces m') := fun x m e => by
    by_cases c : x = b
    · subst c
      rw [hb] at e
      cases e
      cases hk with
      | pieces m _ => exact ⟨m, upd_same _ _ _⟩
    · exact ⟨m, by rw [upd_other _ _ c]; exact e⟩
  have hna : ∀ x m, L x = some (.names m) → ∃ m', upd L b r x = some (.names m') := fun x m e => by
    by_cases c : x = b
    · subst c
      rw [hb] at e
      cases e
      cases hk with
      | names m _ => exact ⟨m, upd_same _ _ _⟩
    · exact ⟨m, by rw [upd_other _ _ c]; exact e⟩
  refine ⟨?_, ?_, ?_, ?_, ?_, ?_⟩
  · intro x y p e hp
    obtain ⟨y', e', _, k1, _⟩ := hno x y e
    obtain ⟨m, hm⟩ := h.pm x y' p e' (k1.trans hp)
    exact hpi _ _ hm
  · intro x y p e hp
    obtain ⟨y', e', _, _, k1⟩ := hno x y e
    obtain ⟨m, hm⟩ := h.nm x y' p e' (k1.trans hp)
    exact hna _ _ hm
  · intro x y x2 y2 p e e2 hp hp2
    obtain ⟨y', e', _, k1, _⟩ := hno x y e
    obtain ⟨y3, e3, _, k3, _⟩ := hno x2 y2 e2
    exact h.pinj x y' x2 y3 p e' e3 (k1.trans hp) (k3.trans hp2)
  · intro x y x2 y2 p e e2 hp hp2
    obtain ⟨y', e', _, _, k1⟩ := hno x y e
    obtain ⟨y3, e3, _, _, k3⟩ := hno x2 y2 e2
    exact h.ninj x y' x2 y3 p e' e3 (k1.trans hp) (k3.trans hp2)
  · intro x y e hk'
    obtain ⟨y', e', k0, _, k1⟩ := hno x y e
    rw [← k1]; exact h.dir x y' e' (k0.trans hk')
  · intro x y e hk'
    obtain ⟨y', e', k0, k1, _⟩ := hno x y e
    rw [← k1]; exact h.file x y' e' (k0.trans hk')
/-- All taken back: the layout is right again. -/
theorem WF.again {L L' : Lay} {nb : Nat} (h : WF L nb) (k : Ex L L') (hs : WFs L') : WF L' nb := by
  have hn : nodesOf L' nb = nodesOf L nb := by
    conv => lhs; unfold nodesOf
    rw [k _ _ h.nodesOf_eq]
  refine ⟨?_, ?_, ?_, hs.pm, hs.nm, hs.pinj, hs.ninj, hs.dir, hs.file⟩
  · obtain ⟨m, e, hr⟩ := h.nodes; exact ⟨m, k _ _ e, hr⟩
  · rw [hn]; intro p hp; obtain ⟨y, e⟩ := h.node p hp; exact ⟨y, k _ _ e⟩
  · rw [hn]; exact h.inj
end Fs
end Go.Proofs.YtlnnbjgfpiefdaaGreat
/- The closure that takes all back where a call is refused. -/
namespace Go.Proofs.YtlnnbjgfpiefdaaGreat
open Go.RowKit Go.Maps Go.Shelf

namespace Fs
theorem own_shape {w : World} {base : Nat} {e : TypeId} {size : Nat} {v : Value} {n : Nat} {xs : List Value} (h : w.ownsRow base e size v n xs) : ∃ ao cap, v = .slice ao n cap := by
  rcases h.2 with ⟨h1, h2⟩ | ⟨g, cap, cur, h1, _⟩
  · exact ⟨none, 0, by rw [h1, h2]⟩
  · exact ⟨some ⟨g, 0, none⟩, cap, h1⟩

theorem Chain.ends {fb nb : Nat} {L0 L : Lay} (h : Chain fb nb L0 L []) : Ex L0 L := by
  generalize hx : ([] : List Value) = xs at h
  cases h with
  | nil L h => exact h
  | snoc L L1 L2 vals v b r r' hc h1 hb hu h2 => simp at hx

section
variable {W : World} {L : Lay} {fb : Nat} {n : Int} {nb : Nat} {uv : Value} {vals : List Value}
/-- What was noted is forgotten. -/
theorem Sim.forget (h : Sim W L fb n nb uv vals) : Sim (W.setCell ⟨fb, 6, none⟩ (.slice none 0 0)) L fb n nb (.slice none 0 0) [] ∧ Step W (Mine L uv) (W.setCell ⟨fb, 6, none⟩ (.slice none 0 0)) (Mine L (.slice none 0 0)) := by
  have hkeep : ∀ x, x ≠ fb → (W.setCell ⟨fb, 6, none⟩ (.slice none 0 0)).heap[x]? = W.heap[x]? := fun x hx => Below.heap_setCell _ _ _ _ hx
  refine ⟨⟨fun b r hb => ?_, h.fs, h.blk.set 6 _, h.nodes, World.ownsRow_nil _ _ _ _, fun g hg => by cases hg⟩, rfl, rfl, rfl, by simp, fun k _ hk => ⟨hkeep k (fun e => hk (.inl (by rw [e, h.fs]; simp))), ?_⟩⟩
  · have h1 := h.is b r hb
    refine ⟨by simpa using h1.1, ?_⟩
    by_cases e : b = fb
    · subst e; rw [h.fs] at hb; cases hb; trivial
    · exact h1.2.same (hkeep b e)
  · rintro (e | e)
    · exact hk (.inl e)
    · cases e
theorem Blk.step {W' : World} {X X' : Nat → Prop} {b : Nat} {xs : Array Value} {t : TypeId} (h : Blk W b xs t) (hs : Step W X W' X') (hx : ¬ X b) : Blk W' b xs t ∧ ¬ X' b :=
  ⟨h.same (hs.block b h.lt hx).1, (hs.block b h.lt hx).2⟩

set_option maxRecDepth 100000 in
set_option maxHeartbeats 1000000 in
theorem door_ok (h : Sim W L fb n nb uv vals) (pf pe : Nat) (hpf : Blk W pf #[evP fb] 23) (hpe : Blk W pe #[.int .i64 0] 39) (u : FrameMode) (hlen : vals.length ≤ 1000000000000) :
    CallsD Tryz.prog 77 #[evP pf, evP pe] u W fun e u' W' => u' = u ∧ e = .returned (.tuple #[]) ∧ Sim W' L fb n nb (.slice none 0 0) [] ∧ Step W (Mine L uv) W' (Mine L (.slice none 0 0)) := by
  have c1 := hpf.cell 0
  have c2 := hpe.cell 0
  obtain ⟨_, _, _, _, c3, g3⟩ := fs_cells h.blk
  have hfo := h.forget
  obtain ⟨ao, cap, rfl⟩ := own_shape h.own
  unfold evP at *
  go_enter_d Tryz.func77, Tryz.ntmps77
  go_wp2
  go_loopw [2] (fun i wr => i = .int .i64 ((vals.length : Int) - 1) ∧ wr = W) (fun _ _ => 0)
  case atStart => exact ⟨rfl, rfl⟩
  case round =>
    obtain ⟨rfl, rfl⟩ := hrel
    by_cases hz : (0 : Int) ≤ (vals.length : Int) - 1
    · go_wp2
      go_end0
      exact ⟨rfl, hfo.1, hfo.2⟩
    · go_wp2
      go_end0
      exact ⟨rfl, hfo.1, hfo.2⟩
set_option maxRecDepth 100000 in
set_option maxHeartbeats 1000000 in
theorem door_err {L0 : Lay} (h : Sim W L fb n nb uv vals) (hws : WFs L) (hch : Chain fb nb L0 L vals) (pf pe : Nat) (hpf : Blk W pf #[evP fb] 23) (ev : Int) (hev : ev ≠ 0) (hpe : Blk W pe #[.int .i64 ev] 39) (hf : ¬ Mine L uv pf) (he : ¬ Mine L uv pe) (u : FrameMode) (hlen : vals.length ≤ 1000000000000) :
    CallsD Tryz.prog 77 #[evP pf, evP pe] u W fun e u' W' => u' = u ∧ e = .returned (.tuple #[]) ∧ ∃ L', Sim W' L' fb n nb (.slice none 0 0) [] ∧ Step W (Mine L uv) W' (Mine L' (.slice none 0 0)) ∧ Ex L0 L' ∧ WFs L' := by
  have c1 := hpf.cell 0
  obtain ⟨_, _, _, _, c3, g3⟩ := fs_cells h.blk
  obtain ⟨ao, cap, rfl⟩ := own_shape h.own
  have hev' : (ev != 0) = true := by rw [bne_iff_ne]; exact hev
  unfold evP at c1
  show CallsD _ _ #[.pointer (some ⟨pf, 0, none⟩), .pointer (some ⟨pe, 0, none⟩)] _ _ _
  go_enter_d Tryz.func77, Tryz.ntmps77
  go_wp2
  go_loopw [2] (fun i wr => ∃ (k : Nat) (Lr : Lay), k ≤ vals.length ∧ i = .int .i64 ((k : Int) - 1) ∧ Sim wr Lr fb n nb (.slice ao vals.length cap) vals ∧ Chain fb nb L0 Lr (vals.take k) ∧ Step W (Mine L (.slice ao vals.length cap)) wr (Mine Lr (.slice ao vals.length cap)) ∧ WFs Lr) (fun i _ => (intOf i + 1).toNat)
  case atStart => exact ⟨vals.length, L, Nat.le_refl _, rfl, h, by rw [List.take_length]; exact hch, Step.refl _ _, hws⟩
  case round =>
    obtain ⟨k, Lr, hk, hi, hr, hcr, hst, hwr⟩ := hrel
    obtain ⟨_, _, _, _, d3, e3⟩ := fs_cells hr.blk
    obtain ⟨hpf', hf'⟩ := hpf.step hst hf
    obtain ⟨hpe', he'⟩ := hpe.step hst he
    have d1 := hpf'.cell 0
    have d2 := hpe'.cell 0
    unfold evP at d1
    cases k with
    | zero =>
      rw [List.take_zero] at hcr
      have hfo := hr.forget
      have hz : ¬ (0 : Int) ≤ ((0 : Nat) : Int) - 1 := by omega
      subst hi
      go_wp2
      go_end0
      exact ⟨rfl, Lr, hfo.1, hst.trans hfo.2, hcr.ends, hwr⟩
    | succ k =>
      have hv : vals[k]? = some vals[k] := List.getElem?_eq_getElem hk
      rw [List.take_add_one, hv] at hcr
      obtain ⟨b, r, r', hb, hu, hcb⟩ := hcr.back
      obtain ⟨kf, cp, hvk, hen, hrun⟩ := und_run hr hu hb
      rw [show ((k + 1 : Nat) : Int) - 1 = (k : Int) by omega] at hi
      subst hi
      obtain ⟨g, cap', hsl, _, _, _, _, hcell, _⟩ := own_at hr.own (by omega)
      cases hsl
      have hck := hcell k (by omega)
      rw [hv, hvk] at hck
      have hk0 : (0 : Int) ≤ (k : Int) := by omega
      clear hcell
      unfold Runs at hrun
      have hen' := hen cp wr
      clear hen
      go_wp2_with (go_at_fn kf; refine hrun.mono ?_; rintro e w' ⟨rfl, hr2, hst2⟩)
      go_wp2
      go_roundw
      case rel => exact ⟨k, upd Lr b r, by omega, rfl, hr2, hcb, hst.trans hst2, hwr.kin hb hu.kin⟩
      case measure => simp [intOf]
end
end Fs
end Go.Proofs.YtlnnbjgfpiefdaaGreat
