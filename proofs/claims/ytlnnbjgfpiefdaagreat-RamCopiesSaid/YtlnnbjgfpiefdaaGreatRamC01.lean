/- Maps copied. -/
import Derived.Test.YtlnnbjgfpiefdaaGreatRamB03
import Derived.Shelf.SlMaps.Clone
import Derived.WalkKit
import Derived.Test.YtlnnbjgfpiefdaaGreatRamB17
import Derived.Test.YtlnnbjgfpiefdaaGreatRamB08
import Derived.Test.YtlnnbjgfpiefdaaGreatRamB23
import Derived.Deep.RegionHeld3
namespace Go.Proofs.YtlnnbjgfpiefdaaGreat
open Go.RowKit Go.Maps Go.Shelf

namespace Fs
set_option maxRecDepth 100000 in
theorem clone_names {W : World} {b : Nat} {m : Al Tx Int} (h : MapAt Tryz.prog 9 evI W b m) : Calls Tryz.prog 21 #[.map (some b)] W fun e W' => e = .returned (.map (some W.heap.size)) ∧ MapAt Tryz.prog 9 evI W' W.heap.size m ∧ Below W.heap.size W W' ∧ W'.heap.size = W.heap.size + 1 := by
  obtain ⟨⟨es, clock, hb, F, hs, hD⟩, hr⟩ := h
  have e1 := fun w => run_eql_map_nil_sl (P := Tryz.prog) w 63 9 3 (some b) Tryz.underlying63
  have hnew : MapAt Tryz.prog 9 evI (W.alloc (.map es clock)) W.heap.size m := ⟨⟨es, clock, (MapKept.heap_alloc W _).1, F, hs, hD⟩, hr⟩
  have hB : Below W.heap.size W (W.alloc (.map es clock)) := (Below.refl _ _).alloc (Nat.le_refl _) _
  have HH := Lib.hid (And.intro hnew hB)
  have hb' := Lib.hid hb
  clear hnew hB hs hD F hr hb
  go_enter Tryz.func21, Tryz.ntmps21
  go_wp2_with fail
  rw [run_callFunc_extern Tryz.func35 (by kernel_rfl) (by kernel_rfl) (by kernel_rfl) (e := Extern.MapsClone.clone) (by kernel_rfl), run_maps_clone_sl W 63 hb']
  simp only [Result.andThen]
  rw [Oper.upon_value]
  go_wp2_with fail
  rw [run_typeAssert_map_sl _ 63 20 _ _ _ Tryz.underlying63]
  simp only [Result.andThen]
  rw [Oper.upon_value]
  go_wp2_with fail
  go_ret
  exact ⟨rfl, HH.1, HH.2, by simp⟩
set_option maxRecDepth 100000 in
theorem clone_names_nil {W : World} : Calls Tryz.prog 21 #[.map none] W fun e W' => e = .returned (.map none) ∧ W' = W := by
  have e1 := fun w => run_eql_map_nil_sl (P := Tryz.prog) w 63 9 3 none Tryz.underlying63
  go_enter Tryz.func21, Tryz.ntmps21
  go_wp2_with fail
  go_ret
  exact ⟨rfl, rfl⟩
set_option maxRecDepth 100000 in
theorem clone_pieces {W : World} {b : Nat} {m : Al Int Pc} (h : MapAt Tryz.prog 3 evPc W b m) : Calls Tryz.prog 20 #[.map (some b)] W fun e W' => e = .returned (.map (some W.heap.size)) ∧ MapAt Tryz.prog 3 evPc W' W.heap.size m ∧ Below W.heap.size W W' ∧ W'.heap.size = W.heap.size + 1 := by
  obtain ⟨⟨es, clock, hb, F, hs, hD⟩, hr⟩ := h
  have e1 := fun w => run_eql_map_nil_sl (P := Tryz.prog) w 62 3 68 (some b) Tryz.underlying62
  have hnew : MapAt Tryz.prog 3 evPc (W.alloc (.map es clock)) W.heap.size m := ⟨⟨es, clock, (MapKept.heap_alloc W _).1, F, hs, hD⟩, hr⟩
  have hB : Below W.heap.size W (W.alloc (.map es clock)) := (Below.refl _ _).alloc (Nat.le_refl _) _
  have HH := Lib.hid (And.intro hnew hB)
  have hb' := Lib.hid hb
  clear hnew hB hs hD F hr hb
  go_enter Tryz.func20, Tryz.ntmps20
  go_wp2_with fail
  rw [run_callFunc_extern Tryz.func35 (by kernel_rfl) (by kernel_rfl) (by kernel_rfl) (e := Extern.MapsClone.clone) (by kernel_rfl), run_maps_clone_sl W 62 hb']
  simp only [Result.andThen]
  rw [Oper.upon_value]
  go_wp2_with fail
  rw [run_typeAssert_map_sl _ 62 20 _ _ _ Tryz.underlying62]
  simp only [Result.andThen]
  rw [Oper.upon_value]
  go_wp2_with fail
  go_ret
  exact ⟨rfl, HH.1, HH.2, by simp⟩
set_option maxRecDepth 100000 in
theorem clone_pieces_nil {W : World} : Calls Tryz.prog 20 #[.map none] W fun e W' => e = .returned (.map none) ∧ W' = W := by
  have e1 := fun w => run_eql_map_nil_sl (P := Tryz.prog) w 62 3 68 none Tryz.underlying62
  go_enter Tryz.func20, Tryz.ntmps20
  go_wp2_with fail
  go_ret
  exact ⟨rfl, rfl⟩
end Fs
end Go.Proofs.YtlnnbjgfpiefdaaGreat
/- A file system's copy: one inode more in its layout. No walk. -/
namespace Go.Proofs.YtlnnbjgfpiefdaaGreat
open Go.RowKit Go.Maps Go.Shelf

namespace Fs
def updO (L : Lay) (o : Option Nat) (r : Ro) : Lay := match o with
  | none => L
  | some p => upd L p r
theorem updO_some {L : Lay} {o : Option Nat} {r s : Ro} {b : Nat} (h : updO L o r b = some s) : (o = some b ∧ s = r) ∨ (o ≠ some b ∧ L b = some s) := by
  cases o with
  | none => exact .inr ⟨by simp, h⟩
  | some p =>
    unfold updO upd at h
    dsimp only at h
    split at h
    · rename_i e; cases h; exact .inl ⟨by rw [e], rfl⟩
    · rename_i e; exact .inr ⟨fun c => e (by cases c; rfl), h⟩
theorem updO_at {L : Lay} {p : Nat} {r : Ro} : updO L (some p) r p = some r := upd_same _ _ _
theorem updO_ne {L : Lay} {o : Option Nat} {r : Ro} {b : Nat} (h : o ≠ some b) : updO L o r b = L b := by
  cases o with
  | none => rfl
  | some p => exact upd_other _ _ fun e => h (by rw [e])
theorem WF.moreO {L : Lay} {nb : Nat} (h : WF L nb) {o : Option Nat} {r : Ro} (hr : ∀ y, r ≠ .node y) (hx : ∀ p, o = some p → L p = none) : WF (updO L o r) nb ∧ stOf (updO L o r) nb = stOf L nb ∧ nodesOf (updO L o r) nb = nodesOf L nb := by
  cases o with
  | none => exact ⟨h, rfl, rfl⟩
  | some p => exact h.more hr (hx p rfl)
/-- An inode more. -/
theorem copy_more {w w' : World} {L : Lay} {G B : Nat} {n : Int} (S : Sim w L G n B (.slice none 0 0) []) (F : WF L B) {x : Int} {hd : Hd} {o1 o2 : Option Nat} {m1 : Al Int Pc} {m2 : Al Tx Int} {A : Nat}
    (hA : w.heap.size ≤ A) (hA' : A < w'.heap.size) (h1 : ∀ p, o1 = some p → A < p ∧ p < w'.heap.size ∧ Is w' p (.pieces m1)) (h2 : ∀ p, o2 = some p → A < p ∧ p < w'.heap.size ∧ Is w' p (.names m2))
    (h12 : ∀ p, o1 = some p → o2 ≠ some p) (hk1 : hd.kind = 1 → ∃ q, o1 = some q) (hk2 : hd.kind = 2 → ∃ q, o2 = some q) (hb : Blk w' A ({ hd with pm := o1, nm := o2 } : Hd).cells 65)
    (hm : Is w' B (.nodes (put (nodesOf L B) x A))) (hold : ∀ k, k < w.heap.size → k ≠ B → w'.heap[k]? = w.heap[k]?) :
    ∃ L', Sim w' L' G n B (.slice none 0 0) [] ∧ WF L' B ∧ stOf L' B = put (stOf L B) x ⟨hd.kind, hd.links, hd.size, o1.elim [] (fun _ => m1), o2.elim [] (fun _ => m2), hd.blocks, hd.text⟩ ∧ nodesOf L' B = put (nodesOf L B) x A ∧ ∀ b, L' b ≠ none → L b ≠ none ∨ w.heap.size ≤ b := by
  obtain ⟨F3, t3, n3⟩ := F.moreO (o := o1) (r := .pieces m1) (fun _ c => by cases c) (fun p e => S.none_of_ge (by have := h1 p e; omega))
  obtain ⟨F4, t4, n4⟩ := F3.moreO (o := o2) (r := .names m2) (fun _ c => by cases c) (fun p e => by
    rw [updO_ne (fun c => h12 p c e)]; exact S.none_of_ge (by have := h2 p e; omega))
  have hnd : ∀ b y, updO (updO L o1 (.pieces m1)) o2 (.names m2) b = some (.node y) → L b = some (.node y) := fun b y e => by
    rcases updO_some e with ⟨_, c⟩ | ⟨_, e⟩
    · cases c
    · rcases updO_some e with ⟨_, c⟩ | ⟨_, e⟩
      · cases c
      · exact e
  have hA1 : o1 ≠ some A := fun e => by have := (h1 A e).1; omega
  have hA2 : o2 ≠ some A := fun e => by have := (h2 A e).1; omega
  obtain ⟨F5, t5, n5⟩ := F4.node_more (x := A) (hd := { hd with pm := o1, nm := o2 }) (by rw [updO_ne hA2, updO_ne hA1]; exact S.none_of_ge hA)
    (fun p (e : o1 = some p) => ⟨⟨m1, by rw [updO_ne (h12 p e), e]; exact updO_at⟩, fun b y hy hp => by
      obtain ⟨m, hm⟩ := F.pm b y p (hnd b y hy) hp
      have := (S.is p _ hm).1
      have := (h1 p e).1
      omega⟩)
    (fun p (e : o2 = some p) => ⟨⟨m2, by rw [e]; exact updO_at⟩, fun b y hy hp => by
      obtain ⟨m, hm⟩ := F.nm b y p (hnd b y hy) hp
      have := (S.is p _ hm).1
      have := (h2 p e).1
      omega⟩) hk2 hk1
  have hno : nodesOf (upd (updO (updO L o1 (.pieces m1)) o2 (.names m2)) A (.node { hd with pm := o1, nm := o2 })) B = nodesOf L B := n5.trans (n4.trans n3)
  have hBlt : B < w.heap.size := by obtain ⟨m, e⟩ := S.nodes; exact (S.is B _ e).1
  have hlow : ∀ p ∈ nodesOf L B, p.2 < w.heap.size := fun p hp => by obtain ⟨y, e⟩ := F.node p hp; exact (S.is _ _ e).1
  obtain ⟨F6, n6, a6⟩ := F5.table (put (nodesOf L B) x A) (F.rising.put _ _)
    (fun p hp => by
      rcases mem_put.1 hp with rfl | ⟨hp, _⟩
      · exact ⟨_, upd_same _ _ _⟩
      · exact F5.node p (by rw [hno]; exact hp))
    (fun p hp q hq e => by
      rcases mem_put.1 hp with rfl | ⟨hp, _⟩
      · rcases mem_put.1 hq with rfl | ⟨hq, _⟩
        · rfl
        · have := hlow q hq; dsimp only at e; omega
      · rcases mem_put.1 hq with rfl | ⟨hq, _⟩
        · have := hlow p hp; dsimp only at e; omega
        · exact F.inj p hp q hq e)
  refine ⟨_, ⟨?_, ?_, ?_, ⟨_, upd_same _ _ _⟩, World.ownsRow_nil _ _ _ _, fun g hg => by cases hg⟩, F6, ?_, n6, ?_⟩
  · intro b r e
    unfold upd at e
    split at e
    · rename_i eb; cases e; rw [eb]; exact ⟨by omega, hm⟩
    · rename_i eb
      split at e
      · rename_i ea; cases e; rw [ea]; exact ⟨hA', hb⟩
      · rcases updO_some e with ⟨e2, rfl⟩ | ⟨_, e⟩
        · obtain ⟨_, k2, k3⟩ := h2 b e2; exact ⟨k2, k3⟩
        · rcases updO_some e with ⟨e1, rfl⟩ | ⟨_, e⟩
          · obtain ⟨_, k2, k3⟩ := h1 b e1; exact ⟨k2, k3⟩
          · obtain ⟨k1, k2⟩ := S.is b r e
            exact ⟨by omega, k2.same (hold b k1 eb)⟩
  · have hG : G ≠ B := fun e => by obtain ⟨m, c⟩ := S.nodes; have := S.fs; rw [e, c] at this; cases this
    have hGl := (S.is G _ S.fs).1
    rw [upd_other _ _ hG, upd_other _ _ (by omega), updO_ne (fun e => by have := (h2 G e).1; omega), updO_ne (fun e => by have := (h1 G e).1; omega)]
    exact S.fs
  · have hG : G ≠ B := fun e => by obtain ⟨m, c⟩ := S.nodes; have := S.fs; rw [e, c] at this; cases this
    exact S.blk.same (hold G (S.is G _ S.fs).1 hG)
  · rw [st_table n6 a6, ← put_map (nodesOf L B) (ndAtB (upd (updO (updO L o1 (.pieces m1)) o2 (.names m2)) A (.node { hd with pm := o1, nm := o2 }))) x A]
    have e1 : (nodesOf L B).map (fun p => (p.1, ndAtB (upd (updO (updO L o1 (.pieces m1)) o2 (.names m2)) A (.node { hd with pm := o1, nm := o2 })) p.2)) = stOf L B := by
      rw [← t3, ← t4, ← t5]; unfold stOf; rw [hno]
    rw [e1, ndAtB_of (upd_same _ _ _)]
    congr 1
    unfold ndOf
    have p1 : piecesAt (upd (updO (updO L o1 (.pieces m1)) o2 (.names m2)) A (.node { hd with pm := o1, nm := o2 })) o1 = o1.elim [] (fun _ => m1) := by
      cases e : o1 with
      | none => rfl
      | some p =>
        subst e
        unfold piecesAt
        dsimp only
        rw [upd_other _ _ (fun c => hA1 (by rw [c])), updO_ne (h12 p rfl), updO_at]
        rfl
    have p2 : namesAt (upd (updO (updO L o1 (.pieces m1)) o2 (.names m2)) A (.node { hd with pm := o1, nm := o2 })) o2 = o2.elim [] (fun _ => m2) := by
      cases e : o2 with
      | none => rfl
      | some p =>
        subst e
        unfold namesAt
        dsimp only
        rw [upd_other _ _ (fun c => hA2 (by rw [c])), updO_at]
        rfl
    dsimp only
    rw [p1, p2]
  · intro b hb'
    by_cases c : w.heap.size ≤ b
    · exact .inr c
    · left
      rw [show upd (upd (updO (updO L o1 (.pieces m1)) o2 (.names m2)) A (.node { hd with pm := o1, nm := o2 })) B (.nodes (put (nodesOf L B) x A)) b = if b = B then some (.nodes (put (nodesOf L B) x A)) else L b from by
        unfold upd
        split
        · rfl
        · rw [if_neg (by omega), updO_ne (fun e => by have := (h2 b e).1; omega), updO_ne (fun e => by have := (h1 b e).1; omega)]] at hb'
      split at hb'
      · rename_i eb; obtain ⟨m, e⟩ := S.nodes; rw [eb, e]; simp
      · exact hb'
/-- The layout of a copy that has nothing yet. -/
def copyLay (B : Nat) : Lay := fun x => if x = B + 1 then some .fs else if x = B then some (.nodes []) else none
theorem copyLay_B (B : Nat) : copyLay B B = some (.nodes []) := by unfold copyLay; rw [if_neg (by omega), if_pos rfl]
theorem copyLay_some {B b : Nat} {r : Ro} (h : copyLay B b = some r) : (b = B + 1 ∧ r = .fs) ∨ (b = B ∧ r = .nodes []) := by
  unfold copyLay at h
  split at h
  · rename_i e; cases h; exact .inl ⟨e, rfl⟩
  · split at h
    · rename_i e; cases h; exact .inr ⟨e, rfl⟩
    · cases h
theorem copyLay_ge {B b : Nat} (h : copyLay B b ≠ none) : b = B ∨ b = B + 1 := by
  cases e : copyLay B b with
  | none => exact absurd e h
  | some r => rcases copyLay_some e with ⟨c, _⟩ | ⟨c, _⟩ <;> omega
theorem copyLay_nodes (B : Nat) : nodesOf (copyLay B) B = [] := by unfold nodesOf; rw [copyLay_B]
theorem copyLay_st (B : Nat) : stOf (copyLay B) B = [] := by unfold stOf; rw [copyLay_nodes]; rfl
theorem copyLay_wf (B : Nat) : WF (copyLay B) B := by
  have hn : ∀ b y, copyLay B b ≠ some (.node y) := fun b y e => by rcases copyLay_some e with ⟨_, c⟩ | ⟨_, c⟩ <;> cases c
  refine ⟨⟨_, copyLay_B B, Rising.nil⟩, fun p hp => ?_, fun p hp => ?_, fun b h p e => absurd e (hn _ _), fun b h p e => absurd e (hn _ _), fun b h b' h' p e => absurd e (hn _ _), fun b h b' h' p e => absurd e (hn _ _), fun b h e => absurd e (hn _ _), fun b h e => absurd e (hn _ _)⟩
  · rw [copyLay_nodes] at hp; cases hp
  · rw [copyLay_nodes] at hp; cases hp
theorem copyLay_sim {w : World} {B : Nat} {n : Int} (h1 : B + 1 < w.heap.size) (h2 : w.heap[B]? = some (.map #[] 0)) (h3 : Blk w (B + 1) (fsCells n B (.slice none 0 0)) 60) : Sim w (copyLay B) (B + 1) n B (.slice none 0 0) [] := by
  refine ⟨fun b r e => ?_, by unfold copyLay; rw [if_pos rfl], h3, ⟨_, copyLay_B B⟩, World.ownsRow_nil _ _ _ _, fun g hg => by cases hg⟩
  rcases copyLay_some e with ⟨rfl, rfl⟩ | ⟨rfl, rfl⟩
  · exact ⟨h1, trivial⟩
  · exact ⟨by omega, ⟨#[], 0, h2, ⟨by simp, Go.MapKept.stamped_empty 0, by simp⟩, Nat.le_refl _, rfl⟩, Rising.nil⟩
/-- What of a tree is copied yet, where R is left. -/
def Half (s t : Tree) (R : Al Int Nat) : Prop := ∀ y, get t y = if (get R y).isSome then none else get s y
theorem Half.start {s : Tree} {R : Al Int Nat} (h : ∀ y, get s y = none ↔ get R y = none) : Half s [] R := fun y => by
  by_cases c : (get R y).isSome
  · rw [if_pos c]; rfl
  · rw [if_neg c, (h y).2 (by simpa using c)]; rfl
theorem Half.step {s t : Tree} {R : Al Int Nat} (hR : Rising R) (ht : Rising t) (h : Half s t R) {x : Int} {v : Nd} (hx : get s x = some v) : Half s (put t x v) (del R x) := fun y => by
  rw [get_put _ ht, get_del _ hR]
  by_cases c : y = x
  · subst c; rw [if_pos rfl, if_pos rfl]; simp [hx]
  · rw [if_neg c, if_neg c]; exact h y
theorem Half.done {s t : Tree} (hs : Rising s) (ht : Rising t) (h : Half s t []) : t = s := Rising.ext ht hs fun y => by rw [h y]; rfl
theorem Half.fresh {s t : Tree} {R : Al Int Nat} (h : Half s t R) {x : Int} {b : Nat} (hx : get R x = some b) : get t x = none := by rw [h x, hx]; rfl
end Fs
end Go.Proofs.YtlnnbjgfpiefdaaGreat
/- Copy: another file system in the same state. -/
namespace Go.Proofs.YtlnnbjgfpiefdaaGreat
open Go.RowKit Go.Maps Go.Shelf

namespace Fs
/-- What a copied map is. -/
def ClonedP (L : Lay) (W W' : World) (o o' : Option Nat) : Prop := Below W.heap.size W W' ∧ ((o = none ∧ o' = none) ∨ ∃ p m, o = some p ∧ L p = some (.pieces m) ∧ o' = some W.heap.size ∧ W.heap.size < W'.heap.size ∧ Is W' W.heap.size (.pieces m))
def ClonedN (L : Lay) (W W' : World) (o o' : Option Nat) : Prop := Below W.heap.size W W' ∧ ((o = none ∧ o' = none) ∨ ∃ p m, o = some p ∧ L p = some (.names m) ∧ o' = some W.heap.size ∧ W.heap.size < W'.heap.size ∧ Is W' W.heap.size (.names m))
section
variable {W : World} {L : Lay} {fb : Nat} {n : Int} {nb : Nat} {uv : Value} {vals : List Value}
theorem cloned_pieces (h : Sim W L fb n nb uv vals) {o : Option Nat} (ho : ∀ p, o = some p → ∃ m, L p = some (.pieces m)) :
    Calls Tryz.prog 20 #[.map o] W fun e W' => ∃ o', e = .returned (.map o') ∧ ClonedP L W W' o o' := by
  cases o with
  | none =>
    refine clone_pieces_nil.mono ?_
    rintro e W' ⟨rfl, rfl⟩
    exact ⟨none, rfl, Below.refl _ _, .inl ⟨rfl, rfl⟩⟩
  | some p =>
    obtain ⟨m, hm⟩ := ho p rfl
    refine (clone_pieces (h.is p _ hm).2).mono ?_
    rintro e W' ⟨rfl, h1, h2, h3⟩
    exact ⟨_, rfl, h2, .inr ⟨p, m, rfl, hm, rfl, by omega, h1⟩⟩
theorem cloned_names (h : Sim W L fb n nb uv vals) {o : Option Nat} (ho : ∀ p, o = some p → ∃ m, L p = some (.names m)) :
    Calls Tryz.prog 21 #[.map o] W fun e W' => ∃ o', e = .returned (.map o') ∧ ClonedN L W W' o o' := by
  cases o with
  | none =>
    refine clone_names_nil.mono ?_
    rintro e W' ⟨rfl, rfl⟩
    exact ⟨none, rfl, Below.refl _ _, .inl ⟨rfl, rfl⟩⟩
  | some p =>
    obtain ⟨m, hm⟩ := ho p rfl
    refine (clone_names (h.is p _ hm).2).mono ?_
    rintro e W' ⟨rfl, h1, h2, h3⟩
    exact ⟨_, rfl, h2, .inr ⟨p, m, rfl, hm, rfl, by omega, h1⟩⟩
theorem info_node : (Tryz.prog.info? 65).map (·.size) = some 7 := by kernel_rfl
theorem load_node {w : World} {x : Nat} {cs : Array Value} {t : TypeId} (h : Blk w x cs t) (hl : cs.size = 7) : (Instr.loadAt 65 (.pointer (some ⟨x, 0, none⟩))).run Tryz.prog w = .ok (.agg cs) w := by
  simp only [Instr.loadAt, Instr.sureAddr, Sem.run_bind, Sem.run_pure, Result.andThen]
  exact run_loadVar_row w _ _ _ cs (0, 0) _ h Tryz.underlying65 rfl (by rw [info_node, hl])
/-- A whole inode behind an alloc. -/
theorem put_node {w : World} {xs cs : Array Value} (hx : xs.size = 7) (hc : cs.size = 7) (h1 : cs.all (·.oneCell') = true) : ∃ Y, (Instr.storeAt 65 (.pointer (some ⟨w.heap.size, 0, none⟩)) (.agg cs)).run Tryz.prog (w.alloc (.cells xs 65)) = .ok () Y ∧ Blk Y w.heap.size cs 65 ∧ Below w.heap.size w Y ∧ Y.heap.size = w.heap.size + 1 :=
  ⟨_, store_row (ty := 65) (Blk.new _ _ _) (by rw [hc]; exact info_node) (by rw [hc, hx]) h1, (Blk.new _ _ _).setRow cs, below_setRow ((Below.refl _ _).alloc (Nat.le_refl _) _) (Nat.le_refl _) _, by rw [setRow_size]; simp⟩
/-- Behind the two clones and the two stores. -/
theorem copied_below {w1 Y w5 w6 : World} {hd : Hd} {o1 o2 : Option Nat} (hwY : Below w1.heap.size w1 Y) (hcp : ClonedP L Y.drew w5 hd.pm o1) (hcn : ClonedN L w5 w6 hd.nm o2) :
    Below w1.heap.size w1 ((w6.setCell ⟨w1.heap.size, 3, none⟩ (.map o1)).setCell ⟨w1.heap.size, 4, none⟩ (.map o2)) := by
  have h5 : Below w1.heap.size w1 w5 := hwY.trans ⟨hcp.1.os, hcp.1.tape, hcp.1.output, hcp.1.size, fun k hk => hcp.1.block k (Nat.lt_of_lt_of_le hk hwY.size)⟩
  have h6 : Below w1.heap.size w1 w6 := h5.trans ⟨hcn.1.os, hcn.1.tape, hcn.1.output, hcn.1.size, fun k hk => hcn.1.block k (Nat.lt_of_lt_of_le hk h5.size)⟩
  exact (h6.setCell (Nat.le_refl _) _).setCell (Nat.le_refl _) _
theorem copied_more {w1 Y w5 w6 w7 : World} {L2 : Lay} {G B b : Nat} {hd : Hd} {o1 o2 : Option Nat} {x : Int} (S : Sim w1 L2 G n B (.slice none 0 0) []) (F : WF L2 B) (hw : WF L nb) (hb : L b = some (.node hd)) (hwY : Below w1.heap.size w1 Y) (hzY : Y.heap.size = w1.heap.size + 1)
    (hcp : ClonedP L Y.drew w5 hd.pm o1) (hcn : ClonedN L w5 w6 hd.nm o2) (bA : Blk w6 w1.heap.size hd.cells 65) (hg : ((w6.setCell ⟨w1.heap.size, 3, none⟩ (.map o1)).setCell ⟨w1.heap.size, 4, none⟩ (.map o2)).grownBy w7 (some B)) (hi : Is w7 B (.nodes (put (nodesOf L2 B) x w1.heap.size))) :
    ∃ L', Sim w7 L' G n B (.slice none 0 0) [] ∧ WF L' B ∧ stOf L' B = put (stOf L2 B) x (ndOf L hd) ∧ nodesOf L' B = put (nodesOf L2 B) x w1.heap.size ∧ (∀ k, L' k ≠ none → L2 k ≠ none ∨ w1.heap.size ≤ k) ∧ w1.grownBy w7 (some B) := by
  have hB := copied_below hwY hcp hcn
  have hBl : B < w1.heap.size := by obtain ⟨m, e⟩ := S.nodes; exact (S.is B _ e).1
  have hs5 : w5.heap.size ≤ w6.heap.size := hcn.1.size
  have hsY : w1.heap.size + 1 ≤ w5.heap.size := by have := hcp.1.size; rw [← hzY]; exact this
  have hsZ : ((w6.setCell ⟨w1.heap.size, 3, none⟩ (.map o1)).setCell ⟨w1.heap.size, 4, none⟩ (.map o2)).heap.size = w6.heap.size := by simp [World.setCell]
  have hs7 : w6.heap.size ≤ w7.heap.size := by rw [← hsZ]; exact hg.size
  have hgo : ∀ k, k < w6.heap.size → k ≠ B → k ≠ w1.heap.size → w7.heap[k]? = w6.heap[k]? := fun k h1 h2 h3 => by
    rw [hg.block k (by rw [hsZ]; exact h1) (fun e => by cases e; exact h2 rfl), Below.heap_setCell _ _ _ _ h3, Below.heap_setCell _ _ _ _ h3]
  have hp : ∀ p, o1 = some p → p = w1.heap.size + 1 ∧ p < w5.heap.size ∧ ∃ q m, hd.pm = some q ∧ L q = some (.pieces m) ∧ Is w5 p (.pieces m) := fun p e => by
    rcases hcp.2 with ⟨_, e2⟩ | ⟨q, m, e1, e2, e3, e4, e5⟩
    · rw [e2] at e; cases e
    · rw [e3] at e; cases e; exact ⟨hzY, e4, q, m, e1, e2, e5⟩
  have hn : ∀ p, o2 = some p → p = w5.heap.size ∧ p < w6.heap.size ∧ ∃ q m, hd.nm = some q ∧ L q = some (.names m) ∧ Is w6 p (.names m) := fun p e => by
    rcases hcn.2 with ⟨_, e2⟩ | ⟨q, m, e1, e2, e3, e4, e5⟩
    · rw [e2] at e; cases e
    · rw [e3] at e; cases e; exact ⟨rfl, e4, q, m, e1, e2, e5⟩
  have bZ : Blk w7 w1.heap.size ({ hd with pm := o1, nm := o2 } : Hd).cells 65 := by
    have := (bA.set 3 (.map o1)).set 4 (.map o2)
    exact this.same (hg.block _ (by rw [hsZ]; omega) (fun e => by cases e; omega))
  have em1 : o1.elim [] (fun _ => piecesAt L hd.pm) = piecesAt L hd.pm := by
    cases e : o1 with
    | some p => rfl
    | none =>
      rcases hcp.2 with ⟨e1, _⟩ | ⟨q, m, _, _, e3, _⟩
      · rw [e1]; rfl
      · rw [e] at e3; cases e3
  have em2 : o2.elim [] (fun _ => namesAt L hd.nm) = namesAt L hd.nm := by
    cases e : o2 with
    | some p => rfl
    | none =>
      rcases hcn.2 with ⟨e1, _⟩ | ⟨q, m, _, _, e3, _⟩
      · rw [e1]; rfl
      · rw [e] at e3; cases e3
  have := copy_more (w := w1) (w' := w7) (L := L2) (x := x) (hd := hd) (o1 := o1) (o2 := o2) (m1 := piecesAt L hd.pm) (m2 := namesAt L hd.nm) S F (Nat.le_refl _) (by omega)
    (fun p e => by
      obtain ⟨e1, e2, q, m, e3, e4, e5⟩ := hp p e
      refine ⟨by omega, by omega, ?_⟩
      rw [show piecesAt L hd.pm = m from by unfold piecesAt; rw [e3]; dsimp only; rw [e4]]
      exact (e5.same (hcn.1.block p e2)).same (hgo p (by omega) (by omega) (by omega)))
    (fun p e => by
      obtain ⟨e1, e2, q, m, e3, e4, e5⟩ := hn p e
      refine ⟨by omega, by omega, ?_⟩
      rw [show namesAt L hd.nm = m from by unfold namesAt; rw [e3]; dsimp only; rw [e4]]
      exact e5.same (hgo p e2 (by omega) (by omega)))
    (fun p e e' => by have := hp p e; have := hn p e'; omega)
    (fun hk => by
      obtain ⟨q, e⟩ := hw.file b hd hb hk
      rcases hcp.2 with ⟨e1, _⟩ | ⟨_, _, _, _, e3, _⟩
      · rw [e1] at e; cases e
      · exact ⟨_, e3⟩)
    (fun hk => by
      obtain ⟨q, e⟩ := hw.dir b hd hb hk
      rcases hcn.2 with ⟨e1, _⟩ | ⟨_, _, _, _, e3, _⟩
      · rw [e1] at e; cases e
      · exact ⟨_, e3⟩)
    bZ hi (fun k h1 h2 => (hgo k (by omega) h2 (by omega)).trans (by
      have h := hB.block k h1
      rw [Below.heap_setCell _ _ _ _ (by show k ≠ w1.heap.size; omega), Below.heap_setCell _ _ _ _ (by show k ≠ w1.heap.size; omega)] at h
      exact h))
  obtain ⟨L', r1, r2, r3, r4, r5⟩ := this
  refine ⟨L', r1, r2, ?_, r4, r5, ?_⟩
  · rw [r3, em1, em2]; rfl
  · exact ⟨hg.os.trans hB.os, hg.tape.trans hB.tape, hg.output.trans hB.output, Nat.le_trans hB.size hg.size, fun k h1 h2 => (hg.block k (Nat.lt_of_lt_of_le h1 hB.size) h2).trans (hB.block k h1)⟩
set_option maxRecDepth 100000 in
set_option maxHeartbeats 4000000 in
theorem copy_st (h : Sim W L fb n nb uv vals) (hw : WF L nb) (hml : (nodesOf L nb).length ≤ 1000000) (hkey : ∀ p ∈ nodesOf L nb, 0 ≤ p.1 ∧ p.1 ≤ 1000000) :
    Calls Tryz.prog 14 #[.pointer (some ⟨fb, 0, none⟩)] W fun e W' => ∃ gb nb2 L2, e = .returned (.pointer (some ⟨gb, 0, none⟩)) ∧ Sim W' L2 gb n nb2 (.slice none 0 0) [] ∧ WF L2 nb2 ∧ stOf L2 nb2 = stOf L nb ∧ (∀ b, L2 b ≠ none → W.heap.size ≤ b) ∧ Below W.heap.size W W' := by
  have c0 : W.cell? ⟨fb, 0, none⟩ = some (.int .i64 n) := h.blk.cell 0
  have c1 : W.cell? ⟨fb, 1, none⟩ = some (.int .i64 98) := h.blk.cell 1
  have c2 : W.cell? ⟨fb, 2, none⟩ = some (.int .i64 (98 + (n + 4095) / 4096)) := h.blk.cell 2
  have c3 : W.cell? ⟨fb, 3, none⟩ = some (.int .i64 (98 + (n + 4095) / 4096 + n / 64)) := h.blk.cell 3
  have c4 : W.cell? ⟨fb, 4, none⟩ = some (.int .i64 (n / 64 * 8)) := h.blk.cell 4
  have c5 : W.cell? ⟨fb, 5, none⟩ = some (.map (some nb)) := h.blk.cell 5
  have hMA := h.nodesAt hw
  have hmm := @run_makeMap Tryz.prog
  go_enter Tryz.func14, Tryz.ntmps14
  have hfl := h.blk.lt
  obtain ⟨X, hX⟩ : ∃ x, x = (W.alloc (.map #[] 0)).alloc (.cells #[.int .i64 n, .int .i64 98, .int .i64 (98 + (n + 4095) / 4096), .int .i64 (98 + (n + 4095) / 4096 + n / 64), .int .i64 (n / 64 * 8), .map (some W.heap.size), .slice none 0 0] 60) := ⟨_, rfl⟩
  have hBX : Below W.heap.size W X := by rw [hX]; exact ((Below.refl _ _).alloc (Nat.le_refl _) _).alloc (by simp) _
  have hsX : X.heap.size = W.heap.size + 2 := by rw [hX]; simp
  have hmX : X.heap[W.heap.size]? = some (.map #[] 0) := by rw [hX, ((Below.refl (W.alloc (.map #[] 0)).heap.size (W.alloc (.map #[] 0))).alloc (Nat.le_refl _) _).block _ (by simp)]; exact (MapKept.heap_alloc W _).1
  have hfX : Blk X (W.heap.size + 1) (fsCells n W.heap.size (.slice none 0 0)) 60 := by rw [hX]; exact Blk.newAt _ _ (by simp)
  have hSX := h.below hBX
  have hMX := hSX.nodesAt hw
  have SC := copyLay_sim (by omega) hmX hfX
  have hz := Lib.hid hsX
  clear hsX
  go_wp2_with (at_range; rw [← hX]; refine wpList_range_own _ rfl _ 57 rfl 3 61 kI Tryz.underlying57 rawElem nb _ _ rfl hMX.1 ?_; intro w0 hrg0 hg0 hs0)
  clear hX hmm c0 c1 c2 c3 c4 c5
  go_frame
  go_loopw [4] (fun _ wr => ∃ (left : Lit → Bool) (cnt : Nat) (L2 : Lay), wr.ranges Tryz.prog 3 rawElem nb X.heap.size (nodesOf L nb).length (toD evP (nodesOf L nb)) left cnt ∧ Sim wr L2 (W.heap.size + 1) n W.heap.size (.slice none 0 0) [] ∧ WF L2 W.heap.size ∧ Half (stOf L nb) (stOf L2 W.heap.size) (rem (nodesOf L nb) left) ∧ (nodesOf L2 W.heap.size).length + (rem (nodesOf L nb) left).length ≤ 1000000 ∧ (∀ b, L2 b ≠ none → W.heap.size ≤ b ∧ b ≠ X.heap.size) ∧ Below W.heap.size W wr ∧ W.heap.size + 3 ≤ wr.heap.size) (fun _ wr => wr.rangeLeft nb X.heap.size)
  case atStart =>
    have hsX : X.heap.size = W.heap.size + 2 := hz
    have hb0 : Below X.heap.size X w0 := ⟨hg0.os, hg0.tape, hg0.output, hg0.size, fun k hk => hg0.block k hk (by simp)⟩
    refine ⟨_, _, _, hrg0, SC.below hb0, copyLay_wf _, ?_, ?_, fun b hb => ?_, hBX.trans ⟨hb0.os, hb0.tape, hb0.output, hb0.size, fun k hk => hb0.block k (by omega)⟩, by omega⟩
    · rw [rem_all _ hMX.2, copyLay_st]; exact Half.start fun y => Adr.none
    · rw [rem_all _ hMX.2, copyLay_nodes, List.length_nil]; omega
    · rcases copyLay_ge hb with e | e <;> omega
  case round =>
    obtain ⟨left, cnt, L2, hrg, S2, F2, HH, hlen, hge, hbw, hsz⟩ := hrel
    go_wp2_with (at_next; refine wpList_next_al _ rfl _ rfl kI (Value.int .i64) (fun x => x) keyOfI_inv keyOfI_val nb X.heap.size _ (nodesOf L nb) hMX.2 left cnt rfl hrg ?_ ?_)
    · intro hnil
      rw [hnil] at HH
      clear hlen hg0 hs0 hsz hrg0 hrg
      have HH := Lib.hid HH
      have hge := Lib.hid hge
      go_wp2
      go_ret
      exact ⟨_, _, L2, rfl, S2, F2, HH.done hw.st_rising F2.st_rising, fun b hb => (hge b hb).1, hbw⟩
    · intro x b w1 left1 cnt1 hmem hrem hrg1 hlt hg1 hs1 hen
      have hsX : X.heap.size = W.heap.size + 2 := hz
      have hbX : Below W.heap.size W w1 := hbw.trans ⟨hg1.os, hg1.tape, hg1.output, hg1.size, fun k hk => hg1.block k (by omega) (fun e => by cases e; omega)⟩
      have S3 : Sim w1 L2 (W.heap.size + 1) n W.heap.size (.slice none 0 0) [] := S2.same hg1.size fun k hm => hg1.block k (S2.mine_lt hm) (fun e => by
        cases e
        rcases hm with hm | hm
        · exact (hge _ hm).2 (by omega)
        · cases hm)
      have hxm : (x, b) ∈ nodesOf L nb := (List.mem_filter.1 hmem).1
      obtain ⟨hd, hb⟩ := hw.node _ hxm
      have hS1 := h.below hbX
      have hms : w1.rangeLeft nb X.heap.size < wr.rangeLeft nb X.heap.size := by rw [hrg1.left_eq, hrg.left_eq]; exact hlt
      have hsw : W.heap.size + 3 ≤ w1.heap.size := by omega
      have hx0 := hkey _ hxm
      have hbl : b < W.heap.size := (h.is b _ hb).1
      have hnbl : nb < W.heap.size := by obtain ⟨m, e⟩ := h.nodes; exact (h.is nb _ e).1
      have lx := load_node (hS1.is b _ hb).2 rfl
      obtain ⟨Y, hst, bY, hwY, hzY⟩ := put_node (w := w1) (xs := #[.int .i64 0, .int .i64 0, .int .i64 0, .map none, .map none, .int .i64 0, .string { data := #[] }]) (cs := hd.cells) rfl rfl (by simp [Hd.cells, Value.oneCell'])
      have SY := hS1.below hwY
      have k3 : Y.drew.cell? ⟨b, 3, none⟩ = some (.map hd.pm) := (SY.is b _ hb).2.cell 3
      have k4 : Y.drew.cell? ⟨b, 4, none⟩ = some (.map hd.nm) := (SY.is b _ hb).2.cell 4
      have HP := Lib.hid (fun w (hh : Below Y.heap.size Y w) => cloned_pieces (SY.below hh) (o := hd.pm) (fun p e => hw.pm b hd p hb e))
      have HN := Lib.hid (fun w (hh : Below Y.heap.size Y w) => cloned_names (SY.below hh) (o := hd.nm) (fun p e => hw.nm b hd p hb e))
      have keep : ∀ (w : World) (j : Nat) (v : Value), (w.cell? ⟨b, 3, none⟩ = some (.map hd.pm) ∧ w.cell? ⟨b, 4, none⟩ = some (.map hd.nm)) → (fun w' : World => w'.cell? ⟨b, 3, none⟩ = some (.map hd.pm) ∧ w'.cell? ⟨b, 4, none⟩ = some (.map hd.nm)) (w.setCell ⟨w1.heap.size, j, none⟩ v) := fun w j v hh => by
        have e := Below.heap_setCell w ⟨w1.heap.size, j, none⟩ v b (by show b ≠ w1.heap.size; omega)
        exact ⟨(World.cell?_of_block e).trans hh.1, (World.cell?_of_block e).trans hh.2⟩
      have keep := Lib.hid keep
      have HG := Lib.hid (And.intro hrg1 (And.intro hms (And.intro hlen (And.intro hge (And.intro HH (And.intro hrem (And.intro hsz hsw)))))))
      have HW := Lib.hid (And.intro bY (And.intro hwY (And.intro hzY (And.intro SY hbX))))
      unfold evP at hen
      clear hrg1 hms hlen hge HH hrem hsz hsw bY hwY hzY SY hbX hs1 hsX hg1 hrg hrg0 hg0 hs0 hlt hmX hfX hSX hMX SC hBX
      have HG2 := Lib.hid (And.intro hmem (And.intro hxm hx0))
      clear hmem hxm hx0
      go_wp2_with (first | (refine wpList_load_run _ rfl (.tmp 25) 65 rfl _ lx ?_) | (refine wpList_store_run _ rfl (.tmp 6) (.tmp 26) 65 rfl Y hst ?_))
      go_region_held3 (fun w' => w'.cell? ⟨b, 3, none⟩ = some (.map hd.pm) ∧ w'.cell? ⟨b, 4, none⟩ = some (.map hd.nm)) (first | (refine ⟨?_, ?_⟩ <;> assumption) | (have hc := keep; unfold Hid at hc; exact hc _ _ _ ⟨j3', j4'⟩) | (have hc := keep; unfold Hid at hc; exact hc _ _ _ (hc _ _ _ ⟨j3', j4'⟩))) (first | (go_at_call 21; have hc := HN; unfold Hid at hc; refine (hc _ hB5).mono ?_; clear hc; rintro e w6 ⟨o2, rfl, hcn⟩; have hB6 := Lib.hid (hB5.trans ⟨hcn.1.os, hcn.1.tape, hcn.1.output, hcn.1.size, fun k hk => hcn.1.block k (Nat.lt_of_lt_of_le hk hB5.size)⟩); have j3' : w6.cell? ⟨b, 3, none⟩ = some (.map hd.pm) := (hcn.1.cell (p := ⟨b, 3, none⟩) lb5).trans j3; have j4' : w6.cell? ⟨b, 4, none⟩ = some (.map hd.nm) := (hcn.1.cell (p := ⟨b, 4, none⟩) lb5).trans j4; have bA := b5.same (hcn.1.block _ b5.lt); have z3 : w6.cell? ⟨w1.heap.size, 3, none⟩ = some (.map hd.pm) := bA.cell 3; have z4 : w6.cell? ⟨w1.heap.size, 4, none⟩ = some (.map hd.nm) := bA.cell 4; have y3 := bA.free 3; have y4 := bA.free 4; have hcn := Lib.hid hcn; have bA := Lib.hid bA; clear hB5 j3 j4 b5) | (go_at_call 20; have hc := HP; unfold Hid at hc; refine (hc _ (Below.refl _ _).drew).mono ?_; clear hc; rintro e w5 ⟨o1, rfl, hcp⟩; obtain ⟨bY, hwY, hzY, SY, hbX⟩ := HW; have hB5 : Below Y.heap.size Y w5 := ⟨hcp.1.os, hcp.1.tape, hcp.1.output, hcp.1.size, hcp.1.block⟩; have lb5 : b < w5.heap.size := Nat.lt_of_lt_of_le (Nat.lt_of_lt_of_le (Nat.lt_of_lt_of_le hbl hbX.size) hwY.size) hB5.size; have j3 := (hcp.1.cell (p := ⟨b, 3, none⟩) (SY.is b _ hb).1).trans k3; have j4 := (hcp.1.cell (p := ⟨b, 4, none⟩) (SY.is b _ hb).1).trans k4; have b5 := bY.same (hB5.block _ bY.lt); have hcp := Lib.hid hcp))
      have hBZ := copied_below (hd := hd) hwY hcp hcn
      obtain ⟨hrg1, hms, hlen, hge, HH, hrem, hsz, hsw⟩ := HG
      obtain ⟨hmem, hxm, hx0⟩ := HG2
      have MZ : MapAt Tryz.prog 3 evP ((w6.setCell ⟨w1.heap.size, 3, none⟩ (.map o1)).setCell ⟨w1.heap.size, 4, none⟩ (.map o2)) W.heap.size (nodesOf L2 W.heap.size) := (S3.nodesAt F2).same (hBZ.block _ (by omega))
      have cZ : ((w6.setCell ⟨w1.heap.size, 3, none⟩ (.map o1)).setCell ⟨w1.heap.size, 4, none⟩ (.map o2)).cell? ⟨W.heap.size + 1, 5, none⟩ = some (.map (some W.heap.size)) := (hBZ.cell (p := ⟨W.heap.size + 1, 5, none⟩) (by show W.heap.size + 1 < w1.heap.size; omega)).trans (S3.blk.cell 5)
      have hfree := HH.fresh ((hw.rising.rem left).get.2 hmem)
      obtain ⟨w7, hup, hi7, hg7⟩ := MZ.update kI Tryz.underlying57 (by unfold maxLen; omega) (keyI (i := x) (wfI (by omega) (by omega))) (val := evP w1.heap.size) (v := w1.heap.size) rfl
      obtain ⟨L3, q1, q2, q3, q4, q5, q6⟩ := copied_more S3 F2 hw hb hwY hzY hcp hcn bA hg7 hi7
      have hsX : X.heap.size = W.heap.size + 2 := hz
      have HE : ∃ (left : Lit → Bool) (cnt : Nat) (L2 : Lay), w7.ranges Tryz.prog 3 rawElem nb (X.heap.size) (nodesOf L nb).length (toD evP (nodesOf L nb)) left cnt ∧ Sim w7 L2 (W.heap.size + 1) n W.heap.size (.slice none 0 0) [] ∧ WF L2 W.heap.size ∧ Half (stOf L nb) (stOf L2 W.heap.size) (rem (nodesOf L nb) left) ∧ (nodesOf L2 W.heap.size).length + (rem (nodesOf L nb) left).length ≤ 1000000 ∧ (∀ b, L2 b ≠ none → W.heap.size ≤ b ∧ b ≠ X.heap.size) ∧ Below W.heap.size W w7 ∧ W.heap.size + 3 ≤ w7.heap.size := by
        have hr7 := hrg1.kept q6 (fun e => by cases e; omega) (fun e => by have := Option.some.inj e; omega)
        refine ⟨left1, cnt1, L3, hr7, q1, q2, ?_, ?_, fun k hk => ?_, ?_, Nat.le_trans hsw q6.size⟩
        · rw [q3, hrem]
          exact HH.step (hw.rising.rem left) F2.st_rising (by rw [Adr.st (hw.rising.get.2 hxm)]; rw [ndAtB_of hb])
        · rw [q4, hrem]
          have l1 := length_put (nodesOf L2 W.heap.size) F2.rising x w1.heap.size
          rw [if_pos (Adr.none.1 hfree)] at l1
          have l2 := length_del (rem (nodesOf L nb) left) (hw.rising.rem left) ((hw.rising.rem left).get.2 hmem)
          omega
        · rcases q5 k hk with e | e
          · have := hge k e; omega
          · omega
        · exact hbX.trans ⟨q6.os, q6.tape, q6.output, q6.size, fun k hk => q6.block k (by omega) (fun e => by cases e; omega)⟩
      have HM : w7.rangeLeft nb (X.heap.size) < wr.rangeLeft nb (X.heap.size) := by
        have hr7 := hrg1.kept q6 (fun e => by cases e; omega) (fun e => by have := Option.some.inj e; omega)
        rw [hr7.left_eq, ← hrg1.left_eq]; exact hms
      have HE := Lib.hid HE
      have HM := Lib.hid HM
      unfold evP at hup
      clear hsX q1 q2 q3 q4 q5 q6 hrg1 hms hlen hge HH hrem hsz hsw hmem hxm hx0 hBZ MZ hfree hi7 hg7 bA hcn hcp bY hwY hzY SY hbX hB6
      go_wp2_with fail
      go_roundw
      case rel => exact HE
      case measure => exact HM
end
end Fs
end Go.Proofs.YtlnnbjgfpiefdaaGreat
