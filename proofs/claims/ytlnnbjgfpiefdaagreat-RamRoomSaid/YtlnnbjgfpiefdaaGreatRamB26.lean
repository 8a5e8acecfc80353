/- A thing is moved to another name. -/
import Derived.Test.YtlnnbjgfpiefdaaGreatRamB25
namespace Go.Proofs.YtlnnbjgfpiefdaaGreat
open Go.RowKit Go.Maps Go.Shelf

namespace Fs
/-- What is known of two names, of which the first is there. -/
structure Ways (s : Tree) (a b : Place) : Prop where
  ac : a.chain ≠ []
  al : a.chain.length ≤ 300
  an : a.name.length ≤ 27
  ak : kindOf s a.dir = 2
  aN : get (namesOf s a.dir) a.name = some a.inode
  bc : b.chain ≠ []
  bl : b.chain.length ≤ 300
  bn : b.name.length ≤ 27
  bk : kindOf s b.dir = 2
  bN : b.inode = 0 → get (namesOf s b.dir) b.name = none
  bT : b.inode ≠ 0 → get (namesOf s b.dir) b.name = some b.inode
  ne : b.inode ≠ a.inode
def MoveR (W : World) (L : Lay) (fb : Nat) (n : Int) (nb : Nat) (r : Did) (e : Ending) (W' : World) : Prop := match r with
  | .error z => e = .returned (.tuple #[.int .i64 0, .int .i64 z]) ∧ z ≠ 0 ∧ Below W.heap.size W W'
  | .ok (s', t, o) => e = .returned (.tuple #[.int .i64 o, .int .i64 0]) ∧ t = true ∧ ∃ L' uv' vals', Now W L (fun _ => False) fb n nb W' L' uv' vals' s' ∧ vals'.length ≤ 20 ∧ vals' ≠ []
theorem kind_some {s : Tree} {i : Int} (h : kindOf s i = 2) : ∃ x, get s i = some x := by
  cases hg : get s i with
  | none => unfold kindOf at h; rw [hg] at h; cases h
  | some x => exact ⟨x, rfl⟩
theorem tight_of {s : Tree} (hS : Snug s) (i : Int) : -100000 ≤ linksOf s i ∧ linksOf s i ≤ 100000 := by
  unfold linksOf
  cases hg : get s i with
  | none => exact ⟨by simp, by simp⟩
  | some x => exact hS.tight i x hg
theorem names_of {s : Tree} (hS : Snug s) (i : Int) : (namesOf s i).length ≤ 1000000 := by
  unfold namesOf
  cases hg : get s i with
  | none => simp
  | some x => exact (hS.many i x hg).1
section
variable {s s1 : Tree} {a b : Place}
theorem Ways.k1 (hV : Ways s a b) (B : Base s s1) : kindOf s1 a.dir = 2 := (B.kind _).trans hV.ak
theorem Ways.k2 (hV : Ways s a b) (B : Base s s1) : kindOf s1 b.dir = 2 := (B.kind _).trans hV.bk
theorem Ways.n1 (hV : Ways s a b) (B : Base s s1) : get (namesOf s1 a.dir) a.name = some a.inode := by rw [B.names]; exact hV.aN
theorem base_len (hS : Snug s) (B : Base s s1) (i : Int) : (namesOf s1 i).length ≤ 1000000 := by rw [B.names]; exact names_of hS i
theorem Ways.k3 (hV : Ways s a b) (B : Base s s1) : kindOf (takeN s1 a.dir a.name) b.dir = 2 := (kindOf_takeN _ _ _ _).trans (hV.k2 B)
theorem Ways.n3 (hV : Ways s a b) (B : Base s s1) (h0 : b.inode = 0) : get (namesOf (takeN s1 a.dir a.name) b.dir) b.name = none := by
  have e := hV.bN h0
  rw [namesOf_takeN]
  split
  · rename_i c
    rw [get_del', ← c, B.names, e]; split <;> rfl
  · rw [B.names, e]
theorem Ways.l3 (hS : Snug s) (B : Base s s1) : (namesOf (takeN s1 a.dir a.name) b.dir).length ≤ 1000000 := by
  rw [namesOf_takeN]
  split
  · exact Nat.le_trans (length_del_le _ _) (base_len hS B _)
  · exact base_len hS B _
theorem Ways.b3 (hS : Snug s) (B : Base s s1) : ∀ x, get (takeN s1 a.dir a.name) b.dir = some x → 0 ≤ x.blocks ∧ x.blocks ≤ 1000000 := fun x hx => by
  obtain ⟨y, h1, h2⟩ := blocks_mod (f := fun x : Nd => { x with names := del x.names a.name }) (fun _ => rfl) hx
  obtain ⟨z, h3, h4⟩ := B.blocks _ _ h1
  have := hS.many _ _ h3
  rw [h2, h4]; exact ⟨this.2.1, this.2.2.1⟩
theorem Ways.n2 (hV : Ways s a b) (B : Base s s1) (h0 : b.inode ≠ 0) : get (namesOf s1 b.dir) b.name = some b.inode := by rw [B.names]; exact hV.bT h0
theorem Ways.k4 (hV : Ways s a b) (B : Base s s1) : kindOf (replN s1 b.dir b.name a.inode) a.dir = 2 := (kindOf_replN _ _ _ _ _).trans (hV.k1 B)
theorem Ways.n4 (hV : Ways s a b) (B : Base s s1) : get (namesOf (replN s1 b.dir b.name a.inode) a.dir) a.name = some a.inode := by
  have e := hV.n1 B
  rw [namesOf_replN]
  split
  · rename_i c
    rw [get_put', ← c.1]
    split
    · rfl
    · exact e
  · exact e
theorem Ways.l4 (hS : Snug s) (hV : Ways s a b) (B : Base s s1) (h0 : b.inode ≠ 0) : (namesOf (replN s1 b.dir b.name a.inode) a.dir).length ≤ 1000000 := by
  rw [namesOf_replN]
  split
  · have h1 := length_del_lt (hV.n2 B h0)
    have h2 := base_len hS B b.dir
    rw [length_put']; omega
  · exact base_len hS B _
theorem Ways.o5 (hS : Snug s) (B : Base s s1) (i : Int) : -200000 ≤ linksOf (takeN (replN s1 b.dir b.name a.inode) a.dir a.name) i ∧ linksOf (takeN (replN s1 b.dir b.name a.inode) a.dir a.name) i ≤ 200000 := by
  rw [linksOf_takeN, linksOf_replN]
  have := B.links i
  have := tight_of hS i
  omega
theorem Ways.k5 (B : Base s s1) (i : Int) : kindOf (takeN (replN s1 b.dir b.name a.inode) a.dir a.name) i = kindOf s i := by rw [kindOf_takeN, kindOf_replN, B.kind]
theorem Ways.m5 (hS : Snug s) (B : Base s s1) : (takeN (replN s1 b.dir b.name a.inode) a.dir a.name).length ≤ 1000000 := by
  unfold takeN replN
  rw [length_mod, length_mod, B.len]; exact hS.len
theorem St.nodes_len {W : World} {L : Lay} {fb : Nat} {n : Int} {nb : Nat} {uv : Value} {vals : List Value} {L0 : Lay} (h : St W L fb n nb uv vals L0 s) : (nodesOf L nb).length = s.length := by
  rw [← h.st]; unfold stOf; rw [List.length_map]
end
section
variable {W : World} {L : Lay} {fb : Nat} {n : Int} {nb : Nat} {a b : Place} {aoa aob : Option Addr} {ca cb : Nat}
set_option maxRecDepth 100000 in
set_option maxHeartbeats 8000000 in
theorem move_fn (h : Sim W L fb n nb (.slice none 0 0) []) (hw : WF L nb) (hS : Snug (stOf L nb)) (hV : Ways (stOf L nb) a b) (hold : Bool)
    (ra : OffRow W L (.slice none 0 0) 3 (.slice aoa a.chain.length ca) a.chain.length (Tk.cs a.chain)) (rb : OffRow W L (.slice none 0 0) 3 (.slice aob b.chain.length cb) b.chain.length (Tk.cs b.chain))
    (hb0 : b.inode = 0) (hka : (kindOf (stOf L nb) a.inode == 2) = false) :
    Calls Tryz.prog 57 #[.pointer (some ⟨fb, 0, none⟩), .agg #[.slice aoa a.chain.length ca, .string (mk a.name), .int .i64 a.inode], .agg #[.slice aob b.chain.length cb, .string (mk b.name), .int .i64 b.inode], .bool hold] W fun e W' => MoveR W L fb n nb (moveD (stOf L nb) a b hold) e W' := by
  have hk : ¬ kindOf (stOf L nb) a.inode = 2 := by rw [← beq_iff_eq, hka]; decide
  have hmv : moveD (stOf L nb) a b hold = if 32 < (b.chain.length : Int) then .error 130 else .ok (putN (takeN (stOf L nb) a.dir a.name) b.dir b.name a.inode, true, 0) := by unfold moveD; simp [hk, hb0]
  rw [hmv]
  have Hmv := Lib.hid hmv
  clear hmv
  obtain ⟨xa, hxa⟩ : ∃ x, get (stOf L nb) a.inode = some x := Option.isSome_iff_exists.1 (hS.closed a.dir _ (get_mem hV.aN))
  obtain ⟨ba, haa, _⟩ := Adr.of_st hxa
  obtain ⟨ia1, ia2⟩ := hS.ids _ _ hxa
  obtain ⟨xd, hxd⟩ := kind_some hV.ak
  obtain ⟨da, had, _⟩ := Adr.of_st hxd
  obtain ⟨id1, id2⟩ := hS.ids _ _ hxd
  obtain ⟨xe, hxe⟩ := kind_some hV.bk
  obtain ⟨db, hbd, _⟩ := Adr.of_st hxe
  obtain ⟨ie1, ie2⟩ := hS.ids _ _ hxe
  obtain ⟨X, hX⟩ : ∃ x, x = (W.alloc (.cells #[.slice aoa a.chain.length ca, .string (mk a.name), .int .i64 a.inode] 99)).alloc (.cells #[.slice aob b.chain.length cb, .string (mk b.name), .int .i64 b.inode] 99) := ⟨_, rfl⟩
  have hBX : Below W.heap.size W X := by rw [hX]; exact ((Below.refl _ _).alloc (Nat.le_refl _) _).alloc (by simp) _
  have hpa : Blk X W.heap.size (plC aoa ca a) 99 := by rw [hX]; exact (Blk.newAt _ _ rfl).alloc _
  have hpb : Blk X (W.heap.size + 1) (plC aob cb b) 99 := by rw [hX]; exact Blk.newAt _ _ (by simp)
  have M : Mv W L fb n nb W.heap.size (W.heap.size + 1) a b aoa aob ca cb X L (.slice none 0 0) [] (stOf L nb) := ⟨(Now.start h hw (fun _ e => e.elim)).below hBX, ⟨hpa, h.not_mine (Nat.le_refl _)⟩, ⟨hpb, h.not_mine (by omega)⟩, ra.below hBX, rb.below hBX, fun _ _ e => e⟩
  have HA := Lib.hid (fun w (hb : Below X.heap.size X w) => (M.below hb).atS haa ia1 ia2)
  have hg0 : get (nodesOf L nb) b.inode = none := by
    rw [hb0]
    cases hg : get (nodesOf L nb) 0 with
    | none => rfl
    | some c => exact absurd rfl (hS.pos 0 _ (Adr.st hg))
  have HB : Hid (∀ w, Below X.heap.size X w → Calls Tryz.prog 40 #[.pointer (some ⟨fb, 0, none⟩), .int .i64 b.inode] w fun e w' => e = .returned (.pointer none) ∧ w = w') := Lib.hid fun w hb => by
    have := at_any (M.below hb).now.st.sim hw b.inode (by omega) (by omega)
    rw [hg0] at this
    exact this
  have HI := Lib.hid (fun w (hb : Below X.heap.size X w) => (M.below hb).isDir haa hka)
  have x0 := M.ca0
  have x1 := M.ca1
  have x2 := M.ca2
  have y0 := M.cb0
  have y1 := M.cb1
  have y2 := M.cb2
  have lqa := M.pa.lt
  have lqb := M.pb.lt
  have Hb0 := Lib.hid hb0
  clear hb0
  unfold MoveR
  clear hk
  by_cases c0 : 32 < (b.chain.length : Int)
  · rw [if_pos c0]
    go_enter Tryz.func57, Tryz.ntmps57
    go_wp2_with fail
    rw [← hX]
    clear hX
    go_region_held3 (fun w' => w'.cell? ⟨W.heap.size, 2, none⟩ = some (.int .i64 a.inode) ∧ w'.cell? ⟨W.heap.size + 1, 2, none⟩ = some (.int .i64 b.inode)) (refine ⟨?_, ?_⟩ <;> assumption) (first | (go_at_call 40; have hc := HB; unfold Hid at hc; ((with_reducible refine (hc _ (Below.refl _ _).drew).mono ?_); clear hc; rintro e w' ⟨rfl, rfl⟩)) | (go_at_call 40; have hc := HA; unfold Hid at hc; ((with_reducible refine (hc _ (Below.refl _ _).drew).mono ?_); clear hc; rintro e w' ⟨rfl, rfl⟩)))
    go_wp2_with (go_at_call 48; have hc := HI; unfold Hid at hc; ((with_reducible refine (hc _ (Below.refl _ _).drew).mono ?_); clear hc; rintro e w' ⟨rfl, rfl⟩))
    go_ret2
    exact ⟨rfl, by decide, hBX.trans ((Below.refl _ _).drew)⟩
  rw [if_neg c0]
  go_enter Tryz.func57, Tryz.ntmps57
  go_wp2_with fail
  rw [← hX]
  clear hX
  go_region_held3 (fun w' => w'.cell? ⟨W.heap.size, 2, none⟩ = some (.int .i64 a.inode) ∧ w'.cell? ⟨W.heap.size + 1, 2, none⟩ = some (.int .i64 b.inode)) (refine ⟨?_, ?_⟩ <;> assumption) (first | (go_at_call 40; have hc := HB; unfold Hid at hc; ((with_reducible refine (hc _ (Below.refl _ _).drew).mono ?_); clear hc; rintro e w' ⟨rfl, rfl⟩)) | (go_at_call 40; have hc := HA; unfold Hid at hc; ((with_reducible refine (hc _ (Below.refl _ _).drew).mono ?_); clear hc; rintro e w' ⟨rfl, rfl⟩)))
  go_wp2_with (go_at_call 48; have hc := HI; unfold Hid at hc; ((with_reducible refine (hc _ (Below.refl _ _).drew).mono ?_); clear hc; rintro e w' ⟨rfl, rfl⟩))
  have M0 := M.drew
  have HD := Lib.hid (fun w (hb : Below (X.drew).heap.size (X.drew) w) => (M0.below hb).dirA hV.ac hV.al)
  have HP := Lib.hid (fun w (hb : Below (X.drew).heap.size (X.drew) w) => take_st (M0.below hb).now.st (by simp) (M0.adr _ _ had) id1 id2 (hV.k1 (.refl _)) _ (by have := hV.an; omega) (hV.n1 (.refl _)) (base_len hS (.refl _) _))
  have c1_A0 := M0.ca0
  have c1_A1 := M0.ca1
  have c1_A2 := M0.ca2
  have lqa := M0.pa.lt
  have lqb := M0.pb.lt
  go_region_held3 (fun w' => w'.cell? ⟨W.heap.size, 0, none⟩ = some (.slice aoa a.chain.length ca) ∧ w'.cell? ⟨W.heap.size, 1, none⟩ = some (.string (mk a.name)) ∧ w'.cell? ⟨W.heap.size, 2, none⟩ = some (.int .i64 a.inode)) (refine ⟨?_, ?_, ?_⟩ <;> assumption) (first | (go_at_call 49; have hc := HP; unfold Hid at hc; refine (hc _ hb').mono ?_; clear hc; rintro e w1 ⟨rfl, ha⟩; obtain ⟨L1, uv1, vals1, M1, l1, n1⟩ := (M0.below hb').after ha; have d1_A0 := M1.ca0; have d1_A1 := M1.ca1; have d1_A2 := M1.ca2) | (go_at_call 50; have hc := HD; unfold Hid at hc; refine (hc _ (Below.refl _ _).drew).mono ?_; clear hc; rintro e w' ⟨rfl, hb0'⟩; have hb' : Below (X.drew).heap.size (X.drew) w' := ⟨hb0'.os, hb0'.tape, hb0'.output, hb0'.size, hb0'.block⟩; have e1_A0 := (hb'.cell (p := ⟨W.heap.size, 0, none⟩) lqa).trans c1_A0; have e1_A1 := (hb'.cell (p := ⟨W.heap.size, 1, none⟩) lqa).trans c1_A1; have e1_A2 := (hb'.cell (p := ⟨W.heap.size, 2, none⟩) lqa).trans c1_A2))
  clear HD HP lqa lqb c1_A0 d1_A0 c1_A1 d1_A1 c1_A2 d1_A2
  have q1 : vals1.length ≤ 4 := by simp at l1; omega
  go_wp2_with fail
  have HD := Lib.hid (fun w (hb : Below (w1).heap.size (w1) w) => (M1.below hb).dirB hV.bc hV.bl)
  have HP := Lib.hid (fun w (hb : Below (w1).heap.size (w1) w) => put_st (M1.below hb).now.st (by omega) (M1.adr _ _ hbd) ie1 ie2 (hV.k3 (.refl _)) _ (by have := hV.bn; omega) (hV.n3 (.refl _) Hb0) (Ways.l3 hS (.refl _)) a.inode (Ways.b3 hS (.refl _)))
  have c2_B0 := M1.cb0
  have c2_B1 := M1.cb1
  have c2_B2 := M1.cb2
  have c2_A2 := M1.ca2
  have lqa := M1.pa.lt
  have lqb := M1.pb.lt
  go_region_held3 (fun w' => w'.cell? ⟨W.heap.size + 1, 0, none⟩ = some (.slice aob b.chain.length cb) ∧ w'.cell? ⟨W.heap.size + 1, 1, none⟩ = some (.string (mk b.name)) ∧ w'.cell? ⟨W.heap.size + 1, 2, none⟩ = some (.int .i64 b.inode) ∧ w'.cell? ⟨W.heap.size, 2, none⟩ = some (.int .i64 a.inode)) (refine ⟨?_, ?_, ?_, ?_⟩ <;> assumption) (first | (go_at_call 61; have hc := HP; unfold Hid at hc; refine (hc _ hb').mono ?_; clear hc; rintro e w2 ⟨rfl, ha⟩; obtain ⟨L2, uv2, vals2, M2, l2, n2⟩ := (M1.below hb').after ha; have d2_B0 := M2.cb0; have d2_B1 := M2.cb1; have d2_B2 := M2.cb2; have d2_A2 := M2.ca2) | (go_at_call 50; have hc := HD; unfold Hid at hc; refine (hc _ (Below.refl _ _).drew).mono ?_; clear hc; rintro e w' ⟨rfl, hb0'⟩; have hb' : Below (w1).heap.size (w1) w' := ⟨hb0'.os, hb0'.tape, hb0'.output, hb0'.size, hb0'.block⟩; have e2_B0 := (hb'.cell (p := ⟨W.heap.size + 1, 0, none⟩) lqb).trans c2_B0; have e2_B1 := (hb'.cell (p := ⟨W.heap.size + 1, 1, none⟩) lqb).trans c2_B1; have e2_B2 := (hb'.cell (p := ⟨W.heap.size + 1, 2, none⟩) lqb).trans c2_B2; have e2_A2 := (hb'.cell (p := ⟨W.heap.size, 2, none⟩) lqa).trans c2_A2))
  clear HD HP lqa lqb c2_B0 d2_B0 c2_B1 d2_B1 c2_B2 d2_B2 c2_A2 d2_A2
  have q2 : vals2.length ≤ 8 := by omega
  go_wp2_with fail
  go_ret2
  exact ⟨rfl, by trivial, L2, uv2, vals2, M2.now, by omega, n2⟩
set_option maxRecDepth 100000 in
set_option maxHeartbeats 8000000 in
theorem move_ff (h : Sim W L fb n nb (.slice none 0 0) []) (hw : WF L nb) (hS : Snug (stOf L nb)) (hV : Ways (stOf L nb) a b) (hold : Bool)
    (ra : OffRow W L (.slice none 0 0) 3 (.slice aoa a.chain.length ca) a.chain.length (Tk.cs a.chain)) (rb : OffRow W L (.slice none 0 0) 3 (.slice aob b.chain.length cb) b.chain.length (Tk.cs b.chain))
    (hb0 : b.inode ≠ 0) (hka : (kindOf (stOf L nb) a.inode == 2) = false) (hkb : (kindOf (stOf L nb) b.inode == 2) = false) :
    Calls Tryz.prog 57 #[.pointer (some ⟨fb, 0, none⟩), .agg #[.slice aoa a.chain.length ca, .string (mk a.name), .int .i64 a.inode], .agg #[.slice aob b.chain.length cb, .string (mk b.name), .int .i64 b.inode], .bool hold] W fun e W' => MoveR W L fb n nb (moveD (stOf L nb) a b hold) e W' := by
  have hk : ¬ kindOf (stOf L nb) a.inode = 2 := by rw [← beq_iff_eq, hka]; decide
  have hkk : ¬ kindOf (stOf L nb) b.inode = 2 := by rw [← beq_iff_eq, hkb]; decide
  have hmv : moveD (stOf L nb) a b hold = if 32 < (b.chain.length : Int) then .error 130 else .ok ((loseN (takeN (replN (stOf L nb) b.dir b.name a.inode) a.dir a.name) b.inode hold).1, true, (loseN (takeN (replN (stOf L nb) b.dir b.name a.inode) a.dir a.name) b.inode hold).2) := by unfold moveD; simp [hk, hb0, hkk]
  rw [hmv]
  have Hmv := Lib.hid hmv
  clear hmv
  obtain ⟨xa, hxa⟩ : ∃ x, get (stOf L nb) a.inode = some x := Option.isSome_iff_exists.1 (hS.closed a.dir _ (get_mem hV.aN))
  obtain ⟨ba, haa, _⟩ := Adr.of_st hxa
  obtain ⟨ia1, ia2⟩ := hS.ids _ _ hxa
  obtain ⟨xd, hxd⟩ := kind_some hV.ak
  obtain ⟨da, had, _⟩ := Adr.of_st hxd
  obtain ⟨id1, id2⟩ := hS.ids _ _ hxd
  obtain ⟨xe, hxe⟩ := kind_some hV.bk
  obtain ⟨db, hbd, _⟩ := Adr.of_st hxe
  obtain ⟨ie1, ie2⟩ := hS.ids _ _ hxe
  obtain ⟨X, hX⟩ : ∃ x, x = (W.alloc (.cells #[.slice aoa a.chain.length ca, .string (mk a.name), .int .i64 a.inode] 99)).alloc (.cells #[.slice aob b.chain.length cb, .string (mk b.name), .int .i64 b.inode] 99) := ⟨_, rfl⟩
  have hBX : Below W.heap.size W X := by rw [hX]; exact ((Below.refl _ _).alloc (Nat.le_refl _) _).alloc (by simp) _
  have hpa : Blk X W.heap.size (plC aoa ca a) 99 := by rw [hX]; exact (Blk.newAt _ _ rfl).alloc _
  have hpb : Blk X (W.heap.size + 1) (plC aob cb b) 99 := by rw [hX]; exact Blk.newAt _ _ (by simp)
  have M : Mv W L fb n nb W.heap.size (W.heap.size + 1) a b aoa aob ca cb X L (.slice none 0 0) [] (stOf L nb) := ⟨(Now.start h hw (fun _ e => e.elim)).below hBX, ⟨hpa, h.not_mine (Nat.le_refl _)⟩, ⟨hpb, h.not_mine (by omega)⟩, ra.below hBX, rb.below hBX, fun _ _ e => e⟩
  have HA := Lib.hid (fun w (hb : Below X.heap.size X w) => (M.below hb).atS haa ia1 ia2)
  obtain ⟨xb, hxb⟩ : ∃ x, get (stOf L nb) b.inode = some x := Option.isSome_iff_exists.1 (hS.closed b.dir _ (get_mem (hV.bT hb0)))
  obtain ⟨bb, hbb, _⟩ := Adr.of_st hxb
  obtain ⟨ib1, ib2⟩ := hS.ids _ _ hxb
  have HB := Lib.hid (fun w (hb : Below X.heap.size X w) => (M.below hb).atS hbb ib1 ib2)
  have HY := Lib.hid (fun w (hb : Below X.heap.size X w) => (M.below hb).isDir hbb hkb)
  have HI := Lib.hid (fun w (hb : Below X.heap.size X w) => (M.below hb).isDir haa hka)
  have x0 := M.ca0
  have x1 := M.ca1
  have x2 := M.ca2
  have y0 := M.cb0
  have y1 := M.cb1
  have y2 := M.cb2
  have lqa := M.pa.lt
  have lqb := M.pb.lt
  have Hb0 := Lib.hid hb0
  clear hb0
  unfold MoveR
  clear hk
  clear hkk
  by_cases c0 : 32 < (b.chain.length : Int)
  · rw [if_pos c0]
    go_enter Tryz.func57, Tryz.ntmps57
    go_wp2_with fail
    rw [← hX]
    clear hX
    go_region_held3 (fun w' => w'.cell? ⟨W.heap.size, 2, none⟩ = some (.int .i64 a.inode) ∧ w'.cell? ⟨W.heap.size + 1, 2, none⟩ = some (.int .i64 b.inode)) (refine ⟨?_, ?_⟩ <;> assumption) (first | (go_at_call 40; have hc := HB; unfold Hid at hc; ((with_reducible refine (hc _ (Below.refl _ _).drew).mono ?_); clear hc; rintro e w' ⟨rfl, rfl⟩)) | (go_at_call 40; have hc := HA; unfold Hid at hc; ((with_reducible refine (hc _ (Below.refl _ _).drew).mono ?_); clear hc; rintro e w' ⟨rfl, rfl⟩)))
    go_wp2_with (first | (go_at_call 48; have hc := HY; unfold Hid at hc; ((with_reducible refine (hc _ (Below.refl _ _).drew).mono ?_); clear hc; rintro e w' ⟨rfl, rfl⟩)) | (go_at_call 48; have hc := HI; unfold Hid at hc; ((with_reducible refine (hc _ (Below.refl _ _).drew).mono ?_); clear hc; rintro e w' ⟨rfl, rfl⟩)))
    go_ret2
    exact ⟨rfl, by decide, hBX.trans ((Below.refl _ _).drew)⟩
  rw [if_neg c0]
  go_enter Tryz.func57, Tryz.ntmps57
  go_wp2_with fail
  rw [← hX]
  clear hX
  go_region_held3 (fun w' => w'.cell? ⟨W.heap.size, 2, none⟩ = some (.int .i64 a.inode) ∧ w'.cell? ⟨W.heap.size + 1, 2, none⟩ = some (.int .i64 b.inode)) (refine ⟨?_, ?_⟩ <;> assumption) (first | (go_at_call 40; have hc := HB; unfold Hid at hc; ((with_reducible refine (hc _ (Below.refl _ _).drew).mono ?_); clear hc; rintro e w' ⟨rfl, rfl⟩)) | (go_at_call 40; have hc := HA; unfold Hid at hc; ((with_reducible refine (hc _ (Below.refl _ _).drew).mono ?_); clear hc; rintro e w' ⟨rfl, rfl⟩)))
  go_wp2_with (first | (go_at_call 48; have hc := HY; unfold Hid at hc; ((with_reducible refine (hc _ (Below.refl _ _).drew).mono ?_); clear hc; rintro e w' ⟨rfl, rfl⟩)) | (go_at_call 48; have hc := HI; unfold Hid at hc; ((with_reducible refine (hc _ (Below.refl _ _).drew).mono ?_); clear hc; rintro e w' ⟨rfl, rfl⟩)))
  have M0 := M.drew
  have HD := Lib.hid (fun w (hb : Below (X.drew).heap.size (X.drew) w) => (M0.below hb).dirB hV.bc hV.bl)
  have HP := Lib.hid (fun w (hb : Below (X.drew).heap.size (X.drew) w) => replace_st (M0.below hb).now.st (by simp) (M0.adr _ _ hbd) ie1 ie2 (hV.k2 (.refl _)) _ (by have := hV.bn; omega) (hV.n2 (.refl _) Hb0) (base_len hS (.refl _) _) a.inode)
  have c1_B0 := M0.cb0
  have c1_B1 := M0.cb1
  have c1_B2 := M0.cb2
  have c1_A2 := M0.ca2
  have lqa := M0.pa.lt
  have lqb := M0.pb.lt
  go_region_held3 (fun w' => w'.cell? ⟨W.heap.size + 1, 0, none⟩ = some (.slice aob b.chain.length cb) ∧ w'.cell? ⟨W.heap.size + 1, 1, none⟩ = some (.string (mk b.name)) ∧ w'.cell? ⟨W.heap.size + 1, 2, none⟩ = some (.int .i64 b.inode) ∧ w'.cell? ⟨W.heap.size, 2, none⟩ = some (.int .i64 a.inode)) (refine ⟨?_, ?_, ?_, ?_⟩ <;> assumption) (first | (go_at_call 87; have hc := HP; unfold Hid at hc; refine (hc _ hb').mono ?_; clear hc; rintro e w1 ⟨rfl, ha⟩; obtain ⟨L1, uv1, vals1, M1, l1, n1⟩ := (M0.below hb').after ha; have d1_B0 := M1.cb0; have d1_B1 := M1.cb1; have d1_B2 := M1.cb2; have d1_A2 := M1.ca2) | (go_at_call 50; have hc := HD; unfold Hid at hc; refine (hc _ (Below.refl _ _).drew).mono ?_; clear hc; rintro e w' ⟨rfl, hb0'⟩; have hb' : Below (X.drew).heap.size (X.drew) w' := ⟨hb0'.os, hb0'.tape, hb0'.output, hb0'.size, hb0'.block⟩; have e1_B0 := (hb'.cell (p := ⟨W.heap.size + 1, 0, none⟩) lqb).trans c1_B0; have e1_B1 := (hb'.cell (p := ⟨W.heap.size + 1, 1, none⟩) lqb).trans c1_B1; have e1_B2 := (hb'.cell (p := ⟨W.heap.size + 1, 2, none⟩) lqb).trans c1_B2; have e1_A2 := (hb'.cell (p := ⟨W.heap.size, 2, none⟩) lqa).trans c1_A2))
  clear HD HP lqa lqb c1_B0 d1_B0 c1_B1 d1_B1 c1_B2 d1_B2 c1_A2 d1_A2
  have q1 : vals1.length ≤ 4 := by simp at l1; omega
  go_wp2_with fail
  have HD := Lib.hid (fun w (hb : Below (w1).heap.size (w1) w) => (M1.below hb).dirA hV.ac hV.al)
  have HP := Lib.hid (fun w (hb : Below (w1).heap.size (w1) w) => take_st (M1.below hb).now.st (by omega) (M1.adr _ _ had) id1 id2 (hV.k4 (.refl _)) _ (by have := hV.an; omega) (hV.n4 (.refl _)) (Ways.l4 hS hV (.refl _) Hb0))
  have c2_A0 := M1.ca0
  have c2_A1 := M1.ca1
  have c2_A2 := M1.ca2
  have lqa := M1.pa.lt
  have lqb := M1.pb.lt
  go_region_held3 (fun w' => w'.cell? ⟨W.heap.size, 0, none⟩ = some (.slice aoa a.chain.length ca) ∧ w'.cell? ⟨W.heap.size, 1, none⟩ = some (.string (mk a.name)) ∧ w'.cell? ⟨W.heap.size, 2, none⟩ = some (.int .i64 a.inode)) (refine ⟨?_, ?_, ?_⟩ <;> assumption) (first | (go_at_call 49; have hc := HP; unfold Hid at hc; refine (hc _ hb').mono ?_; clear hc; rintro e w2 ⟨rfl, ha⟩; obtain ⟨L2, uv2, vals2, M2, l2, n2⟩ := (M1.below hb').after ha; have d2_A0 := M2.ca0; have d2_A1 := M2.ca1; have d2_A2 := M2.ca2) | (go_at_call 50; have hc := HD; unfold Hid at hc; refine (hc _ (Below.refl _ _).drew).mono ?_; clear hc; rintro e w' ⟨rfl, hb0'⟩; have hb' : Below (w1).heap.size (w1) w' := ⟨hb0'.os, hb0'.tape, hb0'.output, hb0'.size, hb0'.block⟩; have e2_A0 := (hb'.cell (p := ⟨W.heap.size, 0, none⟩) lqa).trans c2_A0; have e2_A1 := (hb'.cell (p := ⟨W.heap.size, 1, none⟩) lqa).trans c2_A1; have e2_A2 := (hb'.cell (p := ⟨W.heap.size, 2, none⟩) lqa).trans c2_A2))
  clear HD HP lqa lqb c2_A0 d2_A0 c2_A1 d2_A1 c2_A2 d2_A2
  have q2 : vals2.length ≤ 8 := by omega
  have M2i := M2.isDir hbb (k := false) (by rw [Ways.k5 (.refl _)]; exact hkb)
  have y2 := M2.cb2
  have HL := lose_st M2.now.st (by omega) (M2.adr _ _ hbb) ib1 ib2 (Ways.m5 hS (.refl _)) (by have := (Ways.o5 (a := a) (b := b) hS (.refl _) b.inode).1; omega) (by have := (Ways.o5 (a := a) (b := b) hS (.refl _) b.inode).2; omega) hold
  go_wp2_with (first | (go_at_call 48; refine M2i.mono ?_; rintro e w' ⟨rfl, rfl⟩) | (go_at_call 51; refine HL.mono ?_; rintro e w3 ⟨rfl, ha3⟩; obtain ⟨L3, uv3, vals3, N3, T3, l3, n3, _⟩ := M2.now.after ha3))
  go_ret2
  exact ⟨rfl, by trivial, L3, uv3, vals3, N3, by omega, n3⟩
set_option maxRecDepth 100000 in
set_option maxHeartbeats 8000000 in
theorem move_fd (h : Sim W L fb n nb (.slice none 0 0) []) (hw : WF L nb) (hS : Snug (stOf L nb)) (hV : Ways (stOf L nb) a b) (hold : Bool)
    (ra : OffRow W L (.slice none 0 0) 3 (.slice aoa a.chain.length ca) a.chain.length (Tk.cs a.chain)) (rb : OffRow W L (.slice none 0 0) 3 (.slice aob b.chain.length cb) b.chain.length (Tk.cs b.chain))
    (hb0 : b.inode ≠ 0) (hka : (kindOf (stOf L nb) a.inode == 2) = false) (hkb : (kindOf (stOf L nb) b.inode == 2) = true) :
    Calls Tryz.prog 57 #[.pointer (some ⟨fb, 0, none⟩), .agg #[.slice aoa a.chain.length ca, .string (mk a.name), .int .i64 a.inode], .agg #[.slice aob b.chain.length cb, .string (mk b.name), .int .i64 b.inode], .bool hold] W fun e W' => MoveR W L fb n nb (moveD (stOf L nb) a b hold) e W' := by
  have hk : ¬ kindOf (stOf L nb) a.inode = 2 := by rw [← beq_iff_eq, hka]; decide
  have hkk : kindOf (stOf L nb) b.inode = 2 := by rw [← beq_iff_eq, hkb]
  have hmv : moveD (stOf L nb) a b hold = .error 170 := by unfold moveD; simp [hk, hb0, hkk]
  rw [hmv]
  have Hmv := Lib.hid hmv
  clear hmv
  obtain ⟨xa, hxa⟩ : ∃ x, get (stOf L nb) a.inode = some x := Option.isSome_iff_exists.1 (hS.closed a.dir _ (get_mem hV.aN))
  obtain ⟨ba, haa, _⟩ := Adr.of_st hxa
  obtain ⟨ia1, ia2⟩ := hS.ids _ _ hxa
  obtain ⟨xd, hxd⟩ := kind_some hV.ak
  obtain ⟨da, had, _⟩ := Adr.of_st hxd
  obtain ⟨id1, id2⟩ := hS.ids _ _ hxd
  obtain ⟨xe, hxe⟩ := kind_some hV.bk
  obtain ⟨db, hbd, _⟩ := Adr.of_st hxe
  obtain ⟨ie1, ie2⟩ := hS.ids _ _ hxe
  obtain ⟨X, hX⟩ : ∃ x, x = (W.alloc (.cells #[.slice aoa a.chain.length ca, .string (mk a.name), .int .i64 a.inode] 99)).alloc (.cells #[.slice aob b.chain.length cb, .string (mk b.name), .int .i64 b.inode] 99) := ⟨_, rfl⟩
  have hBX : Below W.heap.size W X := by rw [hX]; exact ((Below.refl _ _).alloc (Nat.le_refl _) _).alloc (by simp) _
  have hpa : Blk X W.heap.size (plC aoa ca a) 99 := by rw [hX]; exact (Blk.newAt _ _ rfl).alloc _
  have hpb : Blk X (W.heap.size + 1) (plC aob cb b) 99 := by rw [hX]; exact Blk.newAt _ _ (by simp)
  have M : Mv W L fb n nb W.heap.size (W.heap.size + 1) a b aoa aob ca cb X L (.slice none 0 0) [] (stOf L nb) := ⟨(Now.start h hw (fun _ e => e.elim)).below hBX, ⟨hpa, h.not_mine (Nat.le_refl _)⟩, ⟨hpb, h.not_mine (by omega)⟩, ra.below hBX, rb.below hBX, fun _ _ e => e⟩
  have HA := Lib.hid (fun w (hb : Below X.heap.size X w) => (M.below hb).atS haa ia1 ia2)
  obtain ⟨xb, hxb⟩ : ∃ x, get (stOf L nb) b.inode = some x := Option.isSome_iff_exists.1 (hS.closed b.dir _ (get_mem (hV.bT hb0)))
  obtain ⟨bb, hbb, _⟩ := Adr.of_st hxb
  obtain ⟨ib1, ib2⟩ := hS.ids _ _ hxb
  have HB := Lib.hid (fun w (hb : Below X.heap.size X w) => (M.below hb).atS hbb ib1 ib2)
  have HY := Lib.hid (fun w (hb : Below X.heap.size X w) => (M.below hb).isDir hbb hkb)
  have HI := Lib.hid (fun w (hb : Below X.heap.size X w) => (M.below hb).isDir haa hka)
  have x0 := M.ca0
  have x1 := M.ca1
  have x2 := M.ca2
  have y0 := M.cb0
  have y1 := M.cb1
  have y2 := M.cb2
  have lqa := M.pa.lt
  have lqb := M.pb.lt
  have Hb0 := Lib.hid hb0
  clear hb0
  unfold MoveR
  clear hk
  clear hkk
  go_enter Tryz.func57, Tryz.ntmps57
  go_wp2_with fail
  rw [← hX]
  clear hX
  go_region_held3 (fun w' => w'.cell? ⟨W.heap.size, 2, none⟩ = some (.int .i64 a.inode) ∧ w'.cell? ⟨W.heap.size + 1, 2, none⟩ = some (.int .i64 b.inode)) (refine ⟨?_, ?_⟩ <;> assumption) (first | (go_at_call 40; have hc := HB; unfold Hid at hc; ((with_reducible refine (hc _ (Below.refl _ _).drew).mono ?_); clear hc; rintro e w' ⟨rfl, rfl⟩)) | (go_at_call 40; have hc := HA; unfold Hid at hc; ((with_reducible refine (hc _ (Below.refl _ _).drew).mono ?_); clear hc; rintro e w' ⟨rfl, rfl⟩)))
  go_wp2_with (first | (go_at_call 48; have hc := HY; unfold Hid at hc; ((with_reducible refine (hc _ (Below.refl _ _).drew).mono ?_); clear hc; rintro e w' ⟨rfl, rfl⟩)) | (go_at_call 48; have hc := HI; unfold Hid at hc; ((with_reducible refine (hc _ (Below.refl _ _).drew).mono ?_); clear hc; rintro e w' ⟨rfl, rfl⟩)))
  go_ret2
  exact ⟨rfl, by decide, hBX.trans ((Below.refl _ _).drew)⟩
set_option maxRecDepth 100000 in
set_option maxHeartbeats 8000000 in
theorem move_df (h : Sim W L fb n nb (.slice none 0 0) []) (hw : WF L nb) (hS : Snug (stOf L nb)) (hV : Ways (stOf L nb) a b) (hold : Bool)
    (ra : OffRow W L (.slice none 0 0) 3 (.slice aoa a.chain.length ca) a.chain.length (Tk.cs a.chain)) (rb : OffRow W L (.slice none 0 0) 3 (.slice aob b.chain.length cb) b.chain.length (Tk.cs b.chain))
    (hb0 : b.inode ≠ 0) (hka : (kindOf (stOf L nb) a.inode == 2) = true) (hkb : (kindOf (stOf L nb) b.inode == 2) = false) :
    Calls Tryz.prog 57 #[.pointer (some ⟨fb, 0, none⟩), .agg #[.slice aoa a.chain.length ca, .string (mk a.name), .int .i64 a.inode], .agg #[.slice aob b.chain.length cb, .string (mk b.name), .int .i64 b.inode], .bool hold] W fun e W' => MoveR W L fb n nb (moveD (stOf L nb) a b hold) e W' := by
  have hk : kindOf (stOf L nb) a.inode = 2 := by rw [← beq_iff_eq, hka]
  have hkk : ¬ kindOf (stOf L nb) b.inode = 2 := by rw [← beq_iff_eq, hkb]; decide
  have hmv : moveD (stOf L nb) a b hold = .error 161 := by unfold moveD; simp [hk, hb0, hkk]
  rw [hmv]
  have Hmv := Lib.hid hmv
  clear hmv
  have hh1 := height_nonneg (stOf L nb) 40 a.inode
  have hh2 := height_le (stOf L nb) 40 a.inode
  have hbl := hV.bl
  have hwr : IntKind.i64.wrap ((b.chain.length : Int) + height (stOf L nb) 40 a.inode) = (b.chain.length : Int) + height (stOf L nb) 40 a.inode := IntWalk.i64_in _ (by omega)
  obtain ⟨xa, hxa⟩ : ∃ x, get (stOf L nb) a.inode = some x := Option.isSome_iff_exists.1 (hS.closed a.dir _ (get_mem hV.aN))
  obtain ⟨ba, haa, _⟩ := Adr.of_st hxa
  obtain ⟨ia1, ia2⟩ := hS.ids _ _ hxa
  obtain ⟨xd, hxd⟩ := kind_some hV.ak
  obtain ⟨da, had, _⟩ := Adr.of_st hxd
  obtain ⟨id1, id2⟩ := hS.ids _ _ hxd
  obtain ⟨xe, hxe⟩ := kind_some hV.bk
  obtain ⟨db, hbd, _⟩ := Adr.of_st hxe
  obtain ⟨ie1, ie2⟩ := hS.ids _ _ hxe
  obtain ⟨X, hX⟩ : ∃ x, x = (W.alloc (.cells #[.slice aoa a.chain.length ca, .string (mk a.name), .int .i64 a.inode] 99)).alloc (.cells #[.slice aob b.chain.length cb, .string (mk b.name), .int .i64 b.inode] 99) := ⟨_, rfl⟩
  have hBX : Below W.heap.size W X := by rw [hX]; exact ((Below.refl _ _).alloc (Nat.le_refl _) _).alloc (by simp) _
  have hpa : Blk X W.heap.size (plC aoa ca a) 99 := by rw [hX]; exact (Blk.newAt _ _ rfl).alloc _
  have hpb : Blk X (W.heap.size + 1) (plC aob cb b) 99 := by rw [hX]; exact Blk.newAt _ _ (by simp)
  have M : Mv W L fb n nb W.heap.size (W.heap.size + 1) a b aoa aob ca cb X L (.slice none 0 0) [] (stOf L nb) := ⟨(Now.start h hw (fun _ e => e.elim)).below hBX, ⟨hpa, h.not_mine (Nat.le_refl _)⟩, ⟨hpb, h.not_mine (by omega)⟩, ra.below hBX, rb.below hBX, fun _ _ e => e⟩
  have HA := Lib.hid (fun w (hb : Below X.heap.size X w) => (M.below hb).atS haa ia1 ia2)
  obtain ⟨xb, hxb⟩ : ∃ x, get (stOf L nb) b.inode = some x := Option.isSome_iff_exists.1 (hS.closed b.dir _ (get_mem (hV.bT hb0)))
  obtain ⟨bb, hbb, _⟩ := Adr.of_st hxb
  obtain ⟨ib1, ib2⟩ := hS.ids _ _ hxb
  have HB := Lib.hid (fun w (hb : Below X.heap.size X w) => (M.below hb).atS hbb ib1 ib2)
  have HY := Lib.hid (fun w (hb : Below X.heap.size X w) => (M.below hb).isDir hbb hkb)
  have HI := Lib.hid (fun w (hb : Below X.heap.size X w) => (M.below hb).isDir haa hka)
  have x0 := M.ca0
  have x1 := M.ca1
  have x2 := M.ca2
  have y0 := M.cb0
  have y1 := M.cb1
  have y2 := M.cb2
  have lqa := M.pa.lt
  have lqb := M.pb.lt
  have Hb0 := Lib.hid hb0
  clear hb0
  have HH : Hid (∀ w, Below X.heap.size X w → Calls Tryz.prog 85 #[.pointer (some ⟨fb, 0, none⟩), .int .i64 a.inode] w fun e w' => e = .returned (.int .i64 (height (stOf L nb) 40 a.inode)) ∧ Below w.heap.size w w') := Lib.hid fun w hb => height_any hw hS.closed hS.ids 39 (by omega) a.inode w (M.below hb).now.st.sim (hS.deep _ hk) hk
  have HC : Hid (∀ w, Below X.heap.size X w → Calls Tryz.prog 86 #[.slice aob b.chain.length cb, .int .i64 a.inode] w fun e w' => e = .returned (.bool (decide (a.inode ∈ b.chain))) ∧ w = w') := Lib.hid fun w hb => by
    obtain ⟨⟨_, ho⟩, _⟩ := (M.below hb).rb
    exact contains_any ho hV.bc (by have := hV.bl; omega) _
  unfold MoveR
  clear hk
  clear hkk
  go_enter Tryz.func57, Tryz.ntmps57
  go_wp2_with fail
  rw [← hX]
  clear hX
  go_region_held3 (fun w' => w'.cell? ⟨W.heap.size, 2, none⟩ = some (.int .i64 a.inode) ∧ w'.cell? ⟨W.heap.size + 1, 2, none⟩ = some (.int .i64 b.inode)) (refine ⟨?_, ?_⟩ <;> assumption) (first | (go_at_call 40; have hc := HB; unfold Hid at hc; ((with_reducible refine (hc _ (Below.refl _ _).drew).mono ?_); clear hc; rintro e w' ⟨rfl, rfl⟩)) | (go_at_call 40; have hc := HA; unfold Hid at hc; ((with_reducible refine (hc _ (Below.refl _ _).drew).mono ?_); clear hc; rintro e w' ⟨rfl, rfl⟩)))
  go_wp2_with (first | (go_at_call 48; have hc := HY; unfold Hid at hc; ((with_reducible refine (hc _ hb4').mono ?_); clear hc; rintro e w' ⟨rfl, rfl⟩)) | (go_at_call 85; have hc := HH; unfold Hid at hc; ((with_reducible refine (hc _ (Below.refl _ _).drew).mono ?_); clear hc; rintro e w4 ⟨rfl, hb4⟩; have hb4' : Below X.heap.size X w4 := ⟨hb4.os, hb4.tape, hb4.output, hb4.size, hb4.block⟩; have M4 := M.below hb4'; have z0 := M4.cb0; have z1 := M4.ca2; have z2 := M4.ca0; have z3 := M4.ca1)) | (go_at_call 86; have hc := HC; unfold Hid at hc; ((with_reducible refine (hc _ hb4').mono ?_); clear hc; rintro e w' ⟨rfl, rfl⟩)) | (go_at_call 48; have hc := HI; unfold Hid at hc; ((with_reducible refine (hc _ hb4').mono ?_); clear hc; rintro e w' ⟨rfl, rfl⟩)) | (go_at_call 48; have hc := HI; unfold Hid at hc; ((with_reducible refine (hc _ (Below.refl _ _).drew).mono ?_); clear hc; rintro e w' ⟨rfl, rfl⟩)))
  go_ret2
  exact ⟨rfl, by decide, hBX.trans (⟨hb4'.os, hb4'.tape, hb4'.output, hb4'.size, fun x hx => hb4'.block x (Nat.lt_of_lt_of_le hx hBX.size)⟩)⟩
set_option maxRecDepth 100000 in
set_option maxHeartbeats 8000000 in
theorem move_dn (h : Sim W L fb n nb (.slice none 0 0) []) (hw : WF L nb) (hS : Snug (stOf L nb)) (hV : Ways (stOf L nb) a b) (hold : Bool)
    (ra : OffRow W L (.slice none 0 0) 3 (.slice aoa a.chain.length ca) a.chain.length (Tk.cs a.chain)) (rb : OffRow W L (.slice none 0 0) 3 (.slice aob b.chain.length cb) b.chain.length (Tk.cs b.chain))
    (hb0 : b.inode = 0) (hka : (kindOf (stOf L nb) a.inode == 2) = true) :
    Calls Tryz.prog 57 #[.pointer (some ⟨fb, 0, none⟩), .agg #[.slice aoa a.chain.length ca, .string (mk a.name), .int .i64 a.inode], .agg #[.slice aob b.chain.length cb, .string (mk b.name), .int .i64 b.inode], .bool hold] W fun e W' => MoveR W L fb n nb (moveD (stOf L nb) a b hold) e W' := by
  have hk : kindOf (stOf L nb) a.inode = 2 := by rw [← beq_iff_eq, hka]
  have hmv : moveD (stOf L nb) a b hold = if a.inode ∈ b.chain then .error 1 else if 32 < (b.chain.length : Int) + height (stOf L nb) 40 a.inode then .error 130 else .ok (putN (takeN (linksN (linksN (stOf L nb) a.dir (-1)) b.dir 1) a.dir a.name) b.dir b.name a.inode, true, 0) := by unfold moveD; simp [hk, hb0]
  rw [hmv]
  have Hmv := Lib.hid hmv
  clear hmv
  have hh1 := height_nonneg (stOf L nb) 40 a.inode
  have hh2 := height_le (stOf L nb) 40 a.inode
  have hbl := hV.bl
  have hwr : IntKind.i64.wrap ((b.chain.length : Int) + height (stOf L nb) 40 a.inode) = (b.chain.length : Int) + height (stOf L nb) 40 a.inode := IntWalk.i64_in _ (by omega)
  obtain ⟨xa, hxa⟩ : ∃ x, get (stOf L nb) a.inode = some x := Option.isSome_iff_exists.1 (hS.closed a.dir _ (get_mem hV.aN))
  obtain ⟨ba, haa, _⟩ := Adr.of_st hxa
  obtain ⟨ia1, ia2⟩ := hS.ids _ _ hxa
  obtain ⟨xd, hxd⟩ := kind_some hV.ak
  obtain ⟨da, had, _⟩ := Adr.of_st hxd
  obtain ⟨id1, id2⟩ := hS.ids _ _ hxd
  obtain ⟨xe, hxe⟩ := kind_some hV.bk
  obtain ⟨db, hbd, _⟩ := Adr.of_st hxe
  obtain ⟨ie1, ie2⟩ := hS.ids _ _ hxe
  obtain ⟨X, hX⟩ : ∃ x, x = (W.alloc (.cells #[.slice aoa a.chain.length ca, .string (mk a.name), .int .i64 a.inode] 99)).alloc (.cells #[.slice aob b.chain.length cb, .string (mk b.name), .int .i64 b.inode] 99) := ⟨_, rfl⟩
  have hBX : Below W.heap.size W X := by rw [hX]; exact ((Below.refl _ _).alloc (Nat.le_refl _) _).alloc (by simp) _
  have hpa : Blk X W.heap.size (plC aoa ca a) 99 := by rw [hX]; exact (Blk.newAt _ _ rfl).alloc _
  have hpb : Blk X (W.heap.size + 1) (plC aob cb b) 99 := by rw [hX]; exact Blk.newAt _ _ (by simp)
  have M : Mv W L fb n nb W.heap.size (W.heap.size + 1) a b aoa aob ca cb X L (.slice none 0 0) [] (stOf L nb) := ⟨(Now.start h hw (fun _ e => e.elim)).below hBX, ⟨hpa, h.not_mine (Nat.le_refl _)⟩, ⟨hpb, h.not_mine (by omega)⟩, ra.below hBX, rb.below hBX, fun _ _ e => e⟩
  have HA := Lib.hid (fun w (hb : Below X.heap.size X w) => (M.below hb).atS haa ia1 ia2)
  have hg0 : get (nodesOf L nb) b.inode = none := by
    rw [hb0]
    cases hg : get (nodesOf L nb) 0 with
    | none => rfl
    | some c => exact absurd rfl (hS.pos 0 _ (Adr.st hg))
  have HB : Hid (∀ w, Below X.heap.size X w → Calls Tryz.prog 40 #[.pointer (some ⟨fb, 0, none⟩), .int .i64 b.inode] w fun e w' => e = .returned (.pointer none) ∧ w = w') := Lib.hid fun w hb => by
    have := at_any (M.below hb).now.st.sim hw b.inode (by omega) (by omega)
    rw [hg0] at this
    exact this
  have HI := Lib.hid (fun w (hb : Below X.heap.size X w) => (M.below hb).isDir haa hka)
  have x0 := M.ca0
  have x1 := M.ca1
  have x2 := M.ca2
  have y0 := M.cb0
  have y1 := M.cb1
  have y2 := M.cb2
  have lqa := M.pa.lt
  have lqb := M.pb.lt
  have Hb0 := Lib.hid hb0
  clear hb0
  have HH : Hid (∀ w, Below X.heap.size X w → Calls Tryz.prog 85 #[.pointer (some ⟨fb, 0, none⟩), .int .i64 a.inode] w fun e w' => e = .returned (.int .i64 (height (stOf L nb) 40 a.inode)) ∧ Below w.heap.size w w') := Lib.hid fun w hb => height_any hw hS.closed hS.ids 39 (by omega) a.inode w (M.below hb).now.st.sim (hS.deep _ hk) hk
  have HC : Hid (∀ w, Below X.heap.size X w → Calls Tryz.prog 86 #[.slice aob b.chain.length cb, .int .i64 a.inode] w fun e w' => e = .returned (.bool (decide (a.inode ∈ b.chain))) ∧ w = w') := Lib.hid fun w hb => by
    obtain ⟨⟨_, ho⟩, _⟩ := (M.below hb).rb
    exact contains_any ho hV.bc (by have := hV.bl; omega) _
  unfold MoveR
  clear hk
  by_cases c0 : a.inode ∈ b.chain
  · rw [if_pos c0]
    go_enter Tryz.func57, Tryz.ntmps57
    go_wp2_with fail
    rw [← hX]
    clear hX
    go_region_held3 (fun w' => w'.cell? ⟨W.heap.size, 2, none⟩ = some (.int .i64 a.inode) ∧ w'.cell? ⟨W.heap.size + 1, 2, none⟩ = some (.int .i64 b.inode)) (refine ⟨?_, ?_⟩ <;> assumption) (first | (go_at_call 40; have hc := HB; unfold Hid at hc; ((with_reducible refine (hc _ (Below.refl _ _).drew).mono ?_); clear hc; rintro e w' ⟨rfl, rfl⟩)) | (go_at_call 40; have hc := HA; unfold Hid at hc; ((with_reducible refine (hc _ (Below.refl _ _).drew).mono ?_); clear hc; rintro e w' ⟨rfl, rfl⟩)))
    go_wp2_with (first | (go_at_call 85; have hc := HH; unfold Hid at hc; ((with_reducible refine (hc _ (Below.refl _ _).drew).mono ?_); clear hc; rintro e w4 ⟨rfl, hb4⟩; have hb4' : Below X.heap.size X w4 := ⟨hb4.os, hb4.tape, hb4.output, hb4.size, hb4.block⟩; have M4 := M.below hb4'; have z0 := M4.cb0; have z1 := M4.ca2; have z2 := M4.ca0; have z3 := M4.ca1)) | (go_at_call 86; have hc := HC; unfold Hid at hc; ((with_reducible refine (hc _ hb4').mono ?_); clear hc; rintro e w' ⟨rfl, rfl⟩)) | (go_at_call 48; have hc := HI; unfold Hid at hc; ((with_reducible refine (hc _ hb4').mono ?_); clear hc; rintro e w' ⟨rfl, rfl⟩)) | (go_at_call 48; have hc := HI; unfold Hid at hc; ((with_reducible refine (hc _ (Below.refl _ _).drew).mono ?_); clear hc; rintro e w' ⟨rfl, rfl⟩)))
    go_ret2
    exact ⟨rfl, by decide, hBX.trans (⟨hb4'.os, hb4'.tape, hb4'.output, hb4'.size, fun x hx => hb4'.block x (Nat.lt_of_lt_of_le hx hBX.size)⟩)⟩
  rw [if_neg c0]
  by_cases c1 : 32 < (b.chain.length : Int) + height (stOf L nb) 40 a.inode
  · rw [if_pos c1]
    go_enter Tryz.func57, Tryz.ntmps57
    go_wp2_with fail
    rw [← hX]
    clear hX
    go_region_held3 (fun w' => w'.cell? ⟨W.heap.size, 2, none⟩ = some (.int .i64 a.inode) ∧ w'.cell? ⟨W.heap.size + 1, 2, none⟩ = some (.int .i64 b.inode)) (refine ⟨?_, ?_⟩ <;> assumption) (first | (go_at_call 40; have hc := HB; unfold Hid at hc; ((with_reducible refine (hc _ (Below.refl _ _).drew).mono ?_); clear hc; rintro e w' ⟨rfl, rfl⟩)) | (go_at_call 40; have hc := HA; unfold Hid at hc; ((with_reducible refine (hc _ (Below.refl _ _).drew).mono ?_); clear hc; rintro e w' ⟨rfl, rfl⟩)))
    go_wp2_with (first | (go_at_call 85; have hc := HH; unfold Hid at hc; ((with_reducible refine (hc _ (Below.refl _ _).drew).mono ?_); clear hc; rintro e w4 ⟨rfl, hb4⟩; have hb4' : Below X.heap.size X w4 := ⟨hb4.os, hb4.tape, hb4.output, hb4.size, hb4.block⟩; have M4 := M.below hb4'; have z0 := M4.cb0; have z1 := M4.ca2; have z2 := M4.ca0; have z3 := M4.ca1)) | (go_at_call 86; have hc := HC; unfold Hid at hc; ((with_reducible refine (hc _ hb4').mono ?_); clear hc; rintro e w' ⟨rfl, rfl⟩)) | (go_at_call 48; have hc := HI; unfold Hid at hc; ((with_reducible refine (hc _ hb4').mono ?_); clear hc; rintro e w' ⟨rfl, rfl⟩)) | (go_at_call 48; have hc := HI; unfold Hid at hc; ((with_reducible refine (hc _ (Below.refl _ _).drew).mono ?_); clear hc; rintro e w' ⟨rfl, rfl⟩)))
    go_ret2
    exact ⟨rfl, by decide, hBX.trans (⟨hb4'.os, hb4'.tape, hb4'.output, hb4'.size, fun x hx => hb4'.block x (Nat.lt_of_lt_of_le hx hBX.size)⟩)⟩
  rw [if_neg c1]
  go_enter Tryz.func57, Tryz.ntmps57
  go_wp2_with fail
  rw [← hX]
  clear hX
  go_region_held3 (fun w' => w'.cell? ⟨W.heap.size, 2, none⟩ = some (.int .i64 a.inode) ∧ w'.cell? ⟨W.heap.size + 1, 2, none⟩ = some (.int .i64 b.inode)) (refine ⟨?_, ?_⟩ <;> assumption) (first | (go_at_call 40; have hc := HB; unfold Hid at hc; ((with_reducible refine (hc _ (Below.refl _ _).drew).mono ?_); clear hc; rintro e w' ⟨rfl, rfl⟩)) | (go_at_call 40; have hc := HA; unfold Hid at hc; ((with_reducible refine (hc _ (Below.refl _ _).drew).mono ?_); clear hc; rintro e w' ⟨rfl, rfl⟩)))
  go_wp2_with (first | (go_at_call 85; have hc := HH; unfold Hid at hc; ((with_reducible refine (hc _ (Below.refl _ _).drew).mono ?_); clear hc; rintro e w4 ⟨rfl, hb4⟩; have hb4' : Below X.heap.size X w4 := ⟨hb4.os, hb4.tape, hb4.output, hb4.size, hb4.block⟩; have M4 := M.below hb4'; have z0 := M4.cb0; have z1 := M4.ca2; have z2 := M4.ca0; have z3 := M4.ca1)) | (go_at_call 86; have hc := HC; unfold Hid at hc; ((with_reducible refine (hc _ hb4').mono ?_); clear hc; rintro e w' ⟨rfl, rfl⟩)) | (go_at_call 48; have hc := HI; unfold Hid at hc; ((with_reducible refine (hc _ hb4').mono ?_); clear hc; rintro e w' ⟨rfl, rfl⟩)) | (go_at_call 48; have hc := HI; unfold Hid at hc; ((with_reducible refine (hc _ (Below.refl _ _).drew).mono ?_); clear hc; rintro e w' ⟨rfl, rfl⟩)))
  have tA := tight_of hS a.dir
  have tB := tight_of hS b.dir
  have tB1 : linksOf (stOf L nb) b.dir - 1 ≤ linksOf (linksN (stOf L nb) a.dir (-1)) b.dir ∧ linksOf (linksN (stOf L nb) a.dir (-1)) b.dir ≤ linksOf (stOf L nb) b.dir := by
    rw [linksOf_linksN']; split <;> omega
  have Htt := Lib.hid (And.intro tA (And.intro tB tB1))
  clear tA tB tB1 z0 z1 z2 z3 x0 x1 x2 y0 y1 y2
  refine (M4.dirA hV.ac hV.al).mono ?_
  rintro e w10 ⟨rfl, hb'⟩
  have M10 := M4.below hb'
  go_wp2_with fail
  refine (M10.atS had id1 id2).mono ?_
  rintro e w'' ⟨rfl, rfl⟩
  go_wp2_with fail
  refine (M10.links (by simp) had (-1) (by have := Htt.1; omega) (by have := Htt.1; omega) (by omega) (by omega)).mono ?_
  rintro e w1 ⟨rfl, ha⟩
  obtain ⟨L1, uv1, vals1, M1, l1, n1⟩ := M10.after ha
  have q1 : vals1.length ≤ 4 := by simp at l1; omega
  have c2_B0 := M1.cb0
  have c2_B1 := M1.cb1
  have c2_B2 := M1.cb2
  go_wp2_with fail
  clear c2_B0 c2_B1 c2_B2
  refine (M1.dirB hV.bc hV.bl).mono ?_
  rintro e w20 ⟨rfl, hb'⟩
  have M20 := M1.below hb'
  go_wp2_with fail
  refine (M20.atS hbd ie1 ie2).mono ?_
  rintro e w'' ⟨rfl, rfl⟩
  go_wp2_with fail
  refine (M20.links (by omega) hbd (1) (by have := Htt; unfold Hid at this; omega) (by have := Htt; unfold Hid at this; omega) (by omega) (by omega)).mono ?_
  rintro e w2 ⟨rfl, ha⟩
  obtain ⟨L2, uv2, vals2, M2, l2, n2⟩ := M20.after ha
  have q2 : vals2.length ≤ 8 := by omega
  clear Htt
  go_wp2_with fail
  have HD := Lib.hid (fun w (hb : Below (w2).heap.size (w2) w) => (M2.below hb).dirA hV.ac hV.al)
  have HP := Lib.hid (fun w (hb : Below (w2).heap.size (w2) w) => take_st (M2.below hb).now.st (by omega) (M2.adr _ _ had) id1 id2 (hV.k1 (Base.two (stOf L nb) a.dir b.dir)) _ (by have := hV.an; omega) (hV.n1 (Base.two (stOf L nb) a.dir b.dir)) (base_len hS (Base.two (stOf L nb) a.dir b.dir) _))
  have c3_A0 := M2.ca0
  have c3_A1 := M2.ca1
  have c3_A2 := M2.ca2
  have lqa := M2.pa.lt
  have lqb := M2.pb.lt
  go_region_held3 (fun w' => w'.cell? ⟨W.heap.size, 0, none⟩ = some (.slice aoa a.chain.length ca) ∧ w'.cell? ⟨W.heap.size, 1, none⟩ = some (.string (mk a.name)) ∧ w'.cell? ⟨W.heap.size, 2, none⟩ = some (.int .i64 a.inode)) (refine ⟨?_, ?_, ?_⟩ <;> assumption) (first | (go_at_call 49; have hc := HP; unfold Hid at hc; refine (hc _ hb').mono ?_; clear hc; rintro e w3 ⟨rfl, ha⟩; obtain ⟨L3, uv3, vals3, M3, l3, n3⟩ := (M2.below hb').after ha; have d3_A0 := M3.ca0; have d3_A1 := M3.ca1; have d3_A2 := M3.ca2) | (go_at_call 50; have hc := HD; unfold Hid at hc; refine (hc _ (Below.refl _ _).drew).mono ?_; clear hc; rintro e w' ⟨rfl, hb0'⟩; have hb' : Below (w2).heap.size (w2) w' := ⟨hb0'.os, hb0'.tape, hb0'.output, hb0'.size, hb0'.block⟩; have e3_A0 := (hb'.cell (p := ⟨W.heap.size, 0, none⟩) lqa).trans c3_A0; have e3_A1 := (hb'.cell (p := ⟨W.heap.size, 1, none⟩) lqa).trans c3_A1; have e3_A2 := (hb'.cell (p := ⟨W.heap.size, 2, none⟩) lqa).trans c3_A2))
  clear HD HP lqa lqb c3_A0 d3_A0 c3_A1 d3_A1 c3_A2 d3_A2
  have q3 : vals3.length ≤ 12 := by omega
  go_wp2_with fail
  have HD := Lib.hid (fun w (hb : Below (w3).heap.size (w3) w) => (M3.below hb).dirB hV.bc hV.bl)
  have HP := Lib.hid (fun w (hb : Below (w3).heap.size (w3) w) => put_st (M3.below hb).now.st (by omega) (M3.adr _ _ hbd) ie1 ie2 (hV.k3 (Base.two (stOf L nb) a.dir b.dir)) _ (by have := hV.bn; omega) (hV.n3 (Base.two (stOf L nb) a.dir b.dir) Hb0) (Ways.l3 hS (Base.two (stOf L nb) a.dir b.dir)) a.inode (Ways.b3 hS (Base.two (stOf L nb) a.dir b.dir)))
  have c4_B0 := M3.cb0
  have c4_B1 := M3.cb1
  have c4_B2 := M3.cb2
  have c4_A2 := M3.ca2
  have lqa := M3.pa.lt
  have lqb := M3.pb.lt
  go_region_held3 (fun w' => w'.cell? ⟨W.heap.size + 1, 0, none⟩ = some (.slice aob b.chain.length cb) ∧ w'.cell? ⟨W.heap.size + 1, 1, none⟩ = some (.string (mk b.name)) ∧ w'.cell? ⟨W.heap.size + 1, 2, none⟩ = some (.int .i64 b.inode) ∧ w'.cell? ⟨W.heap.size, 2, none⟩ = some (.int .i64 a.inode)) (refine ⟨?_, ?_, ?_, ?_⟩ <;> assumption) (first | (go_at_call 61; have hc := HP; unfold Hid at hc; refine (hc _ hb').mono ?_; clear hc; rintro e w4 ⟨rfl, ha⟩; obtain ⟨L4, uv4, vals4, M4, l4, n4⟩ := (M3.below hb').after ha; have d4_B0 := M4.cb0; have d4_B1 := M4.cb1; have d4_B2 := M4.cb2; have d4_A2 := M4.ca2) | (go_at_call 50; have hc := HD; unfold Hid at hc; refine (hc _ (Below.refl _ _).drew).mono ?_; clear hc; rintro e w' ⟨rfl, hb0'⟩; have hb' : Below (w3).heap.size (w3) w' := ⟨hb0'.os, hb0'.tape, hb0'.output, hb0'.size, hb0'.block⟩; have e4_B0 := (hb'.cell (p := ⟨W.heap.size + 1, 0, none⟩) lqb).trans c4_B0; have e4_B1 := (hb'.cell (p := ⟨W.heap.size + 1, 1, none⟩) lqb).trans c4_B1; have e4_B2 := (hb'.cell (p := ⟨W.heap.size + 1, 2, none⟩) lqb).trans c4_B2; have e4_A2 := (hb'.cell (p := ⟨W.heap.size, 2, none⟩) lqa).trans c4_A2))
  clear HD HP lqa lqb c4_B0 d4_B0 c4_B1 d4_B1 c4_B2 d4_B2 c4_A2 d4_A2
  have q4 : vals4.length ≤ 16 := by omega
  go_wp2_with fail
  go_ret2
  exact ⟨rfl, by trivial, L4, uv4, vals4, M4.now, by omega, n4⟩
set_option maxRecDepth 100000 in
set_option maxHeartbeats 8000000 in
theorem move_dd (h : Sim W L fb n nb (.slice none 0 0) []) (hw : WF L nb) (hS : Snug (stOf L nb)) (hV : Ways (stOf L nb) a b) (hold : Bool)
    (ra : OffRow W L (.slice none 0 0) 3 (.slice aoa a.chain.length ca) a.chain.length (Tk.cs a.chain)) (rb : OffRow W L (.slice none 0 0) 3 (.slice aob b.chain.length cb) b.chain.length (Tk.cs b.chain))
    (hb0 : b.inode ≠ 0) (hka : (kindOf (stOf L nb) a.inode == 2) = true) (hkb : (kindOf (stOf L nb) b.inode == 2) = true) :
    Calls Tryz.prog 57 #[.pointer (some ⟨fb, 0, none⟩), .agg #[.slice aoa a.chain.length ca, .string (mk a.name), .int .i64 a.inode], .agg #[.slice aob b.chain.length cb, .string (mk b.name), .int .i64 b.inode], .bool hold] W fun e W' => MoveR W L fb n nb (moveD (stOf L nb) a b hold) e W' := by
  have hk : kindOf (stOf L nb) a.inode = 2 := by rw [← beq_iff_eq, hka]
  have hkk : kindOf (stOf L nb) b.inode = 2 := by rw [← beq_iff_eq, hkb]
  have hmv : moveD (stOf L nb) a b hold = if a.inode ∈ b.chain then .error 1 else if 0 < (namesOf (stOf L nb) b.inode).length then .error 171 else if 32 < (b.chain.length : Int) + height (stOf L nb) 40 a.inode then .error 130 else .ok (del (linksN (takeN (replN (linksN (linksN (stOf L nb) a.dir (-1)) b.dir 1) b.dir b.name a.inode) a.dir a.name) b.dir (-1)) b.inode, true, 0) := by unfold moveD; simp [hk, hb0, hkk]
  rw [hmv]
  have Hmv := Lib.hid hmv
  clear hmv
  have hh1 := height_nonneg (stOf L nb) 40 a.inode
  have hh2 := height_le (stOf L nb) 40 a.inode
  have hbl := hV.bl
  have hwr : IntKind.i64.wrap ((b.chain.length : Int) + height (stOf L nb) 40 a.inode) = (b.chain.length : Int) + height (stOf L nb) 40 a.inode := IntWalk.i64_in _ (by omega)
  obtain ⟨xa, hxa⟩ : ∃ x, get (stOf L nb) a.inode = some x := Option.isSome_iff_exists.1 (hS.closed a.dir _ (get_mem hV.aN))
  obtain ⟨ba, haa, _⟩ := Adr.of_st hxa
  obtain ⟨ia1, ia2⟩ := hS.ids _ _ hxa
  obtain ⟨xd, hxd⟩ := kind_some hV.ak
  obtain ⟨da, had, _⟩ := Adr.of_st hxd
  obtain ⟨id1, id2⟩ := hS.ids _ _ hxd
  obtain ⟨xe, hxe⟩ := kind_some hV.bk
  obtain ⟨db, hbd, _⟩ := Adr.of_st hxe
  obtain ⟨ie1, ie2⟩ := hS.ids _ _ hxe
  obtain ⟨X, hX⟩ : ∃ x, x = (W.alloc (.cells #[.slice aoa a.chain.length ca, .string (mk a.name), .int .i64 a.inode] 99)).alloc (.cells #[.slice aob b.chain.length cb, .string (mk b.name), .int .i64 b.inode] 99) := ⟨_, rfl⟩
  have hBX : Below W.heap.size W X := by rw [hX]; exact ((Below.refl _ _).alloc (Nat.le_refl _) _).alloc (by simp) _
  have hpa : Blk X W.heap.size (plC aoa ca a) 99 := by rw [hX]; exact (Blk.newAt _ _ rfl).alloc _
  have hpb : Blk X (W.heap.size + 1) (plC aob cb b) 99 := by rw [hX]; exact Blk.newAt _ _ (by simp)
  have M : Mv W L fb n nb W.heap.size (W.heap.size + 1) a b aoa aob ca cb X L (.slice none 0 0) [] (stOf L nb) := ⟨(Now.start h hw (fun _ e => e.elim)).below hBX, ⟨hpa, h.not_mine (Nat.le_refl _)⟩, ⟨hpb, h.not_mine (by omega)⟩, ra.below hBX, rb.below hBX, fun _ _ e => e⟩
  have HA := Lib.hid (fun w (hb : Below X.heap.size X w) => (M.below hb).atS haa ia1 ia2)
  obtain ⟨xb, hxb⟩ : ∃ x, get (stOf L nb) b.inode = some x := Option.isSome_iff_exists.1 (hS.closed b.dir _ (get_mem (hV.bT hb0)))
  obtain ⟨bb, hbb, _⟩ := Adr.of_st hxb
  obtain ⟨ib1, ib2⟩ := hS.ids _ _ hxb
  have HB := Lib.hid (fun w (hb : Below X.heap.size X w) => (M.below hb).atS hbb ib1 ib2)
  have HY := Lib.hid (fun w (hb : Below X.heap.size X w) => (M.below hb).isDir hbb hkb)
  have HI := Lib.hid (fun w (hb : Below X.heap.size X w) => (M.below hb).isDir haa hka)
  have x0 := M.ca0
  have x1 := M.ca1
  have x2 := M.ca2
  have y0 := M.cb0
  have y1 := M.cb1
  have y2 := M.cb2
  have lqa := M.pa.lt
  have lqb := M.pb.lt
  have Hb0 := Lib.hid hb0
  clear hb0
  have HH : Hid (∀ w, Below X.heap.size X w → Calls Tryz.prog 85 #[.pointer (some ⟨fb, 0, none⟩), .int .i64 a.inode] w fun e w' => e = .returned (.int .i64 (height (stOf L nb) 40 a.inode)) ∧ Below w.heap.size w w') := Lib.hid fun w hb => height_any hw hS.closed hS.ids 39 (by omega) a.inode w (M.below hb).now.st.sim (hS.deep _ hk) hk
  have HC : Hid (∀ w, Below X.heap.size X w → Calls Tryz.prog 86 #[.slice aob b.chain.length cb, .int .i64 a.inode] w fun e w' => e = .returned (.bool (decide (a.inode ∈ b.chain))) ∧ w = w') := Lib.hid fun w hb => by
    obtain ⟨⟨_, ho⟩, _⟩ := (M.below hb).rb
    exact contains_any ho hV.bc (by have := hV.bl; omega) _
  unfold MoveR
  clear hk
  obtain ⟨nm, hnm⟩ : ∃ m, namesOf (stOf L nb) b.inode = m := ⟨_, rfl⟩
  rw [hnm]
  by_cases c0 : a.inode ∈ b.chain
  · rw [if_pos c0]
    go_enter Tryz.func57, Tryz.ntmps57
    go_wp2_with fail
    rw [← hX]
    clear hX
    go_region_held3 (fun w' => w'.cell? ⟨W.heap.size, 2, none⟩ = some (.int .i64 a.inode) ∧ w'.cell? ⟨W.heap.size + 1, 2, none⟩ = some (.int .i64 b.inode)) (refine ⟨?_, ?_⟩ <;> assumption) (first | (go_at_call 40; have hc := HB; unfold Hid at hc; ((with_reducible refine (hc _ (Below.refl _ _).drew).mono ?_); clear hc; rintro e w' ⟨rfl, rfl⟩)) | (go_at_call 40; have hc := HA; unfold Hid at hc; ((with_reducible refine (hc _ (Below.refl _ _).drew).mono ?_); clear hc; rintro e w' ⟨rfl, rfl⟩)))
    go_wp2_with (first | (go_at_call 48; have hc := HY; unfold Hid at hc; ((with_reducible refine (hc _ hb4').mono ?_); clear hc; rintro e w' ⟨rfl, rfl⟩)) | (go_at_call 85; have hc := HH; unfold Hid at hc; ((with_reducible refine (hc _ (Below.refl _ _).drew).mono ?_); clear hc; rintro e w4 ⟨rfl, hb4⟩; have hb4' : Below X.heap.size X w4 := ⟨hb4.os, hb4.tape, hb4.output, hb4.size, hb4.block⟩; have M4 := M.below hb4'; have z0 := M4.cb0; have z1 := M4.ca2; have z2 := M4.ca0; have z3 := M4.ca1; obtain ⟨yd, yq, ym, _, _, _, hyme, _, _, _, hyMA, hy4⟩ := M4.now.st.dir hbb hkk; rw [hnm] at hyme; subst hyme; have hlenm := fun ty => hyMA.len Tryz.underlying63 ty)) | (go_at_call 86; have hc := HC; unfold Hid at hc; ((with_reducible refine (hc _ hb4').mono ?_); clear hc; rintro e w' ⟨rfl, rfl⟩)) | (go_at_call 48; have hc := HI; unfold Hid at hc; ((with_reducible refine (hc _ hb4').mono ?_); clear hc; rintro e w' ⟨rfl, rfl⟩)) | (go_at_call 48; have hc := HI; unfold Hid at hc; ((with_reducible refine (hc _ (Below.refl _ _).drew).mono ?_); clear hc; rintro e w' ⟨rfl, rfl⟩)))
    go_ret2
    exact ⟨rfl, by decide, hBX.trans (⟨hb4'.os, hb4'.tape, hb4'.output, hb4'.size, fun x hx => hb4'.block x (Nat.lt_of_lt_of_le hx hBX.size)⟩)⟩
  rw [if_neg c0]
  by_cases c1 : 0 < (nm).length
  · rw [if_pos c1]
    have hlg : (0 : Int) < nm.length := by omega
    go_enter Tryz.func57, Tryz.ntmps57
    go_wp2_with fail
    rw [← hX]
    clear hX
    go_region_held3 (fun w' => w'.cell? ⟨W.heap.size, 2, none⟩ = some (.int .i64 a.inode) ∧ w'.cell? ⟨W.heap.size + 1, 2, none⟩ = some (.int .i64 b.inode)) (refine ⟨?_, ?_⟩ <;> assumption) (first | (go_at_call 40; have hc := HB; unfold Hid at hc; ((with_reducible refine (hc _ (Below.refl _ _).drew).mono ?_); clear hc; rintro e w' ⟨rfl, rfl⟩)) | (go_at_call 40; have hc := HA; unfold Hid at hc; ((with_reducible refine (hc _ (Below.refl _ _).drew).mono ?_); clear hc; rintro e w' ⟨rfl, rfl⟩)))
    go_wp2_with (first | (go_at_call 48; have hc := HY; unfold Hid at hc; ((with_reducible refine (hc _ hb4').mono ?_); clear hc; rintro e w' ⟨rfl, rfl⟩)) | (go_at_call 85; have hc := HH; unfold Hid at hc; ((with_reducible refine (hc _ (Below.refl _ _).drew).mono ?_); clear hc; rintro e w4 ⟨rfl, hb4⟩; have hb4' : Below X.heap.size X w4 := ⟨hb4.os, hb4.tape, hb4.output, hb4.size, hb4.block⟩; have M4 := M.below hb4'; have z0 := M4.cb0; have z1 := M4.ca2; have z2 := M4.ca0; have z3 := M4.ca1; obtain ⟨yd, yq, ym, _, _, _, hyme, _, _, _, hyMA, hy4⟩ := M4.now.st.dir hbb hkk; rw [hnm] at hyme; subst hyme; have hlenm := fun ty => hyMA.len Tryz.underlying63 ty)) | (go_at_call 86; have hc := HC; unfold Hid at hc; ((with_reducible refine (hc _ hb4').mono ?_); clear hc; rintro e w' ⟨rfl, rfl⟩)) | (go_at_call 48; have hc := HI; unfold Hid at hc; ((with_reducible refine (hc _ hb4').mono ?_); clear hc; rintro e w' ⟨rfl, rfl⟩)) | (go_at_call 48; have hc := HI; unfold Hid at hc; ((with_reducible refine (hc _ (Below.refl _ _).drew).mono ?_); clear hc; rintro e w' ⟨rfl, rfl⟩)))
    go_ret2
    exact ⟨rfl, by decide, hBX.trans (⟨hb4'.os, hb4'.tape, hb4'.output, hb4'.size, fun x hx => hb4'.block x (Nat.lt_of_lt_of_le hx hBX.size)⟩)⟩
  rw [if_neg c1]
  have hlg : ¬ (0 : Int) < nm.length := by omega
  by_cases c2 : 32 < (b.chain.length : Int) + height (stOf L nb) 40 a.inode
  · rw [if_pos c2]
    go_enter Tryz.func57, Tryz.ntmps57
    go_wp2_with fail
    rw [← hX]
    clear hX
    go_region_held3 (fun w' => w'.cell? ⟨W.heap.size, 2, none⟩ = some (.int .i64 a.inode) ∧ w'.cell? ⟨W.heap.size + 1, 2, none⟩ = some (.int .i64 b.inode)) (refine ⟨?_, ?_⟩ <;> assumption) (first | (go_at_call 40; have hc := HB; unfold Hid at hc; ((with_reducible refine (hc _ (Below.refl _ _).drew).mono ?_); clear hc; rintro e w' ⟨rfl, rfl⟩)) | (go_at_call 40; have hc := HA; unfold Hid at hc; ((with_reducible refine (hc _ (Below.refl _ _).drew).mono ?_); clear hc; rintro e w' ⟨rfl, rfl⟩)))
    go_wp2_with (first | (go_at_call 48; have hc := HY; unfold Hid at hc; ((with_reducible refine (hc _ hb4').mono ?_); clear hc; rintro e w' ⟨rfl, rfl⟩)) | (go_at_call 85; have hc := HH; unfold Hid at hc; ((with_reducible refine (hc _ (Below.refl _ _).drew).mono ?_); clear hc; rintro e w4 ⟨rfl, hb4⟩; have hb4' : Below X.heap.size X w4 := ⟨hb4.os, hb4.tape, hb4.output, hb4.size, hb4.block⟩; have M4 := M.below hb4'; have z0 := M4.cb0; have z1 := M4.ca2; have z2 := M4.ca0; have z3 := M4.ca1; obtain ⟨yd, yq, ym, _, _, _, hyme, _, _, _, hyMA, hy4⟩ := M4.now.st.dir hbb hkk; rw [hnm] at hyme; subst hyme; have hlenm := fun ty => hyMA.len Tryz.underlying63 ty)) | (go_at_call 86; have hc := HC; unfold Hid at hc; ((with_reducible refine (hc _ hb4').mono ?_); clear hc; rintro e w' ⟨rfl, rfl⟩)) | (go_at_call 48; have hc := HI; unfold Hid at hc; ((with_reducible refine (hc _ hb4').mono ?_); clear hc; rintro e w' ⟨rfl, rfl⟩)) | (go_at_call 48; have hc := HI; unfold Hid at hc; ((with_reducible refine (hc _ (Below.refl _ _).drew).mono ?_); clear hc; rintro e w' ⟨rfl, rfl⟩)))
    go_ret2
    exact ⟨rfl, by decide, hBX.trans (⟨hb4'.os, hb4'.tape, hb4'.output, hb4'.size, fun x hx => hb4'.block x (Nat.lt_of_lt_of_le hx hBX.size)⟩)⟩
  rw [if_neg c2]
  go_enter Tryz.func57, Tryz.ntmps57
  go_wp2_with fail
  rw [← hX]
  clear hX
  go_region_held3 (fun w' => w'.cell? ⟨W.heap.size, 2, none⟩ = some (.int .i64 a.inode) ∧ w'.cell? ⟨W.heap.size + 1, 2, none⟩ = some (.int .i64 b.inode)) (refine ⟨?_, ?_⟩ <;> assumption) (first | (go_at_call 40; have hc := HB; unfold Hid at hc; ((with_reducible refine (hc _ (Below.refl _ _).drew).mono ?_); clear hc; rintro e w' ⟨rfl, rfl⟩)) | (go_at_call 40; have hc := HA; unfold Hid at hc; ((with_reducible refine (hc _ (Below.refl _ _).drew).mono ?_); clear hc; rintro e w' ⟨rfl, rfl⟩)))
  go_wp2_with (first | (go_at_call 48; have hc := HY; unfold Hid at hc; ((with_reducible refine (hc _ hb4').mono ?_); clear hc; rintro e w' ⟨rfl, rfl⟩)) | (go_at_call 85; have hc := HH; unfold Hid at hc; ((with_reducible refine (hc _ (Below.refl _ _).drew).mono ?_); clear hc; rintro e w4 ⟨rfl, hb4⟩; have hb4' : Below X.heap.size X w4 := ⟨hb4.os, hb4.tape, hb4.output, hb4.size, hb4.block⟩; have M4 := M.below hb4'; have z0 := M4.cb0; have z1 := M4.ca2; have z2 := M4.ca0; have z3 := M4.ca1; obtain ⟨yd, yq, ym, _, _, _, hyme, _, _, _, hyMA, hy4⟩ := M4.now.st.dir hbb hkk; rw [hnm] at hyme; subst hyme; have hlenm := fun ty => hyMA.len Tryz.underlying63 ty)) | (go_at_call 86; have hc := HC; unfold Hid at hc; ((with_reducible refine (hc _ hb4').mono ?_); clear hc; rintro e w' ⟨rfl, rfl⟩)) | (go_at_call 48; have hc := HI; unfold Hid at hc; ((with_reducible refine (hc _ hb4').mono ?_); clear hc; rintro e w' ⟨rfl, rfl⟩)) | (go_at_call 48; have hc := HI; unfold Hid at hc; ((with_reducible refine (hc _ (Below.refl _ _).drew).mono ?_); clear hc; rintro e w' ⟨rfl, rfl⟩)))
  have tA := tight_of hS a.dir
  have tB := tight_of hS b.dir
  have tB1 : linksOf (stOf L nb) b.dir - 1 ≤ linksOf (linksN (stOf L nb) a.dir (-1)) b.dir ∧ linksOf (linksN (stOf L nb) a.dir (-1)) b.dir ≤ linksOf (stOf L nb) b.dir := by
    rw [linksOf_linksN']; split <;> omega
  have Htt := Lib.hid (And.intro tA (And.intro tB tB1))
  clear tA tB tB1 z0 z1 z2 z3 x0 x1 x2 y0 y1 y2
  refine (M4.dirA hV.ac hV.al).mono ?_
  rintro e w10 ⟨rfl, hb'⟩
  have M10 := M4.below hb'
  go_wp2_with fail
  refine (M10.atS had id1 id2).mono ?_
  rintro e w'' ⟨rfl, rfl⟩
  go_wp2_with fail
  refine (M10.links (by simp) had (-1) (by have := Htt.1; omega) (by have := Htt.1; omega) (by omega) (by omega)).mono ?_
  rintro e w1 ⟨rfl, ha⟩
  obtain ⟨L1, uv1, vals1, M1, l1, n1⟩ := M10.after ha
  have q1 : vals1.length ≤ 4 := by simp at l1; omega
  have c2_B0 := M1.cb0
  have c2_B1 := M1.cb1
  have c2_B2 := M1.cb2
  go_wp2_with fail
  clear c2_B0 c2_B1 c2_B2
  refine (M1.dirB hV.bc hV.bl).mono ?_
  rintro e w20 ⟨rfl, hb'⟩
  have M20 := M1.below hb'
  go_wp2_with fail
  refine (M20.atS hbd ie1 ie2).mono ?_
  rintro e w'' ⟨rfl, rfl⟩
  go_wp2_with fail
  refine (M20.links (by omega) hbd (1) (by have := Htt; unfold Hid at this; omega) (by have := Htt; unfold Hid at this; omega) (by omega) (by omega)).mono ?_
  rintro e w2 ⟨rfl, ha⟩
  obtain ⟨L2, uv2, vals2, M2, l2, n2⟩ := M20.after ha
  have q2 : vals2.length ≤ 8 := by omega
  clear Htt
  go_wp2_with fail
  have HD := Lib.hid (fun w (hb : Below (w2).heap.size (w2) w) => (M2.below hb).dirB hV.bc hV.bl)
  have HP := Lib.hid (fun w (hb : Below (w2).heap.size (w2) w) => replace_st (M2.below hb).now.st (by omega) (M2.adr _ _ hbd) ie1 ie2 (hV.k2 (Base.two (stOf L nb) a.dir b.dir)) _ (by have := hV.bn; omega) (hV.n2 (Base.two (stOf L nb) a.dir b.dir) Hb0) (base_len hS (Base.two (stOf L nb) a.dir b.dir) _) a.inode)
  have c3_B0 := M2.cb0
  have c3_B1 := M2.cb1
  have c3_B2 := M2.cb2
  have c3_A2 := M2.ca2
  have lqa := M2.pa.lt
  have lqb := M2.pb.lt
  go_region_held3 (fun w' => w'.cell? ⟨W.heap.size + 1, 0, none⟩ = some (.slice aob b.chain.length cb) ∧ w'.cell? ⟨W.heap.size + 1, 1, none⟩ = some (.string (mk b.name)) ∧ w'.cell? ⟨W.heap.size + 1, 2, none⟩ = some (.int .i64 b.inode) ∧ w'.cell? ⟨W.heap.size, 2, none⟩ = some (.int .i64 a.inode)) (refine ⟨?_, ?_, ?_, ?_⟩ <;> assumption) (first | (go_at_call 87; have hc := HP; unfold Hid at hc; refine (hc _ hb').mono ?_; clear hc; rintro e w3 ⟨rfl, ha⟩; obtain ⟨L3, uv3, vals3, M3, l3, n3⟩ := (M2.below hb').after ha; have d3_B0 := M3.cb0; have d3_B1 := M3.cb1; have d3_B2 := M3.cb2; have d3_A2 := M3.ca2) | (go_at_call 50; have hc := HD; unfold Hid at hc; refine (hc _ (Below.refl _ _).drew).mono ?_; clear hc; rintro e w' ⟨rfl, hb0'⟩; have hb' : Below (w2).heap.size (w2) w' := ⟨hb0'.os, hb0'.tape, hb0'.output, hb0'.size, hb0'.block⟩; have e3_B0 := (hb'.cell (p := ⟨W.heap.size + 1, 0, none⟩) lqb).trans c3_B0; have e3_B1 := (hb'.cell (p := ⟨W.heap.size + 1, 1, none⟩) lqb).trans c3_B1; have e3_B2 := (hb'.cell (p := ⟨W.heap.size + 1, 2, none⟩) lqb).trans c3_B2; have e3_A2 := (hb'.cell (p := ⟨W.heap.size, 2, none⟩) lqa).trans c3_A2))
  clear HD HP lqa lqb c3_B0 d3_B0 c3_B1 d3_B1 c3_B2 d3_B2 c3_A2 d3_A2
  have q3 : vals3.length ≤ 12 := by omega
  go_wp2_with fail
  have HD := Lib.hid (fun w (hb : Below (w3).heap.size (w3) w) => (M3.below hb).dirA hV.ac hV.al)
  have HP := Lib.hid (fun w (hb : Below (w3).heap.size (w3) w) => take_st (M3.below hb).now.st (by omega) (M3.adr _ _ had) id1 id2 (hV.k4 (Base.two (stOf L nb) a.dir b.dir)) _ (by have := hV.an; omega) (hV.n4 (Base.two (stOf L nb) a.dir b.dir)) (Ways.l4 hS hV (Base.two (stOf L nb) a.dir b.dir) Hb0))
  have c5_A0 := M3.ca0
  have c5_A1 := M3.ca1
  have c5_A2 := M3.ca2
  have lqa := M3.pa.lt
  have lqb := M3.pb.lt
  go_region_held3 (fun w' => w'.cell? ⟨W.heap.size, 0, none⟩ = some (.slice aoa a.chain.length ca) ∧ w'.cell? ⟨W.heap.size, 1, none⟩ = some (.string (mk a.name)) ∧ w'.cell? ⟨W.heap.size, 2, none⟩ = some (.int .i64 a.inode)) (refine ⟨?_, ?_, ?_⟩ <;> assumption) (first | (go_at_call 49; have hc := HP; unfold Hid at hc; refine (hc _ hb').mono ?_; clear hc; rintro e w5 ⟨rfl, ha⟩; obtain ⟨L5, uv5, vals5, M5, l5, n5⟩ := (M3.below hb').after ha; have d5_A0 := M5.ca0; have d5_A1 := M5.ca1; have d5_A2 := M5.ca2) | (go_at_call 50; have hc := HD; unfold Hid at hc; refine (hc _ (Below.refl _ _).drew).mono ?_; clear hc; rintro e w' ⟨rfl, hb0'⟩; have hb' : Below (w3).heap.size (w3) w' := ⟨hb0'.os, hb0'.tape, hb0'.output, hb0'.size, hb0'.block⟩; have e5_A0 := (hb'.cell (p := ⟨W.heap.size, 0, none⟩) lqa).trans c5_A0; have e5_A1 := (hb'.cell (p := ⟨W.heap.size, 1, none⟩) lqa).trans c5_A1; have e5_A2 := (hb'.cell (p := ⟨W.heap.size, 2, none⟩) lqa).trans c5_A2))
  clear HD HP lqa lqb c5_A0 d5_A0 c5_A1 d5_A1 c5_A2 d5_A2
  have q5 : vals5.length ≤ 20 := by omega
  have M5i := M5.isDir hbb (k := true) (by rw [Ways.k5 (Base.two (stOf L nb) a.dir b.dir)]; exact hkb)
  have o5 := Ways.o5 (a := a) (b := b) hS (Base.two (stOf L nb) a.dir b.dir) b.dir
  have Ho5 := Lib.hid o5
  clear o5
  have zB0 := M5.cb0
  have zB1 := M5.cb1
  have zB2 := M5.cb2
  go_wp2_with (go_at_call 48; refine M5i.mono ?_; rintro e w' ⟨rfl, rfl⟩)
  clear zB0 zB1 zB2
  refine (M5.dirB hV.bc hV.bl).mono ?_
  rintro e w60 ⟨rfl, hb'⟩
  have M60 := M5.below hb'
  go_wp2_with fail
  refine (M60.atS hbd ie1 ie2).mono ?_
  rintro e w'' ⟨rfl, rfl⟩
  go_wp2_with fail
  refine (M60.links (by omega) hbd (-1) (by have := Ho5; unfold Hid at this; exact this.1) (by have := Ho5; unfold Hid at this; exact this.2) (by omega) (by omega)).mono ?_
  rintro e w6 ⟨rfl, ha⟩
  obtain ⟨L6, uv6, vals6, M6, l6, n6⟩ := M60.after ha
  have q6 : vals6.length ≤ 24 := by omega
  have hls : (nodesOf L6 nb).length ≤ 1000000 := by
    rw [M6.now.st.nodes_len]
    unfold linksN
    rw [length_mod]
    exact Ways.m5 (a := a) (b := b) hS (Base.two (stOf L nb) a.dir b.dir)
  have HL := drop_st M6.now.st (by omega) (M6.adr _ _ hbb) ib1 ib2 hls
  clear hls
  have y2 := M6.cb2
  go_wp2_with (go_at_call 54; refine HL.mono ?_; rintro e w7 ⟨rfl, ha7⟩; obtain ⟨L7, uv7, vals7, N7, T7, l7, n7, _⟩ := M6.now.after ha7)
  go_ret2
  exact ⟨rfl, by trivial, L7, uv7, vals7, N7, by omega, n7⟩
end
end Fs
end Go.Proofs.YtlnnbjgfpiefdaaGreat
