/- Where a path leads. -/
import Derived.Test.YtlnnbjgfpiefdaaGreatRamB09
import Derived.Test.YtlnnbjgfpiefdaaGreatRamB10
namespace Go.Proofs.YtlnnbjgfpiefdaaGreat
open Go.RowKit Go.Maps Go.Shelf

namespace Fs
/-- What Text answers. -/
def TextC : Prop := ∀ (t : Tx) (W : World), t.length ≤ 140737488355328 → Calls Tryz.prog 38 #[.string (mk t)] W fun e W' => Below W.heap.size W W' ∧
  match textP t with
  | .ok (l, top) => ∃ v, e = .returned (.tuple #[v, .bool top, .int .i64 0]) ∧ W'.ownsRow W.heap.size 9 1 v l.length (strsV l)
  | .error z => e = .returned (.tuple #[.slice none 0 0, .bool false, .int .i64 z]) ∧ z ≠ 0
theorem textC : TextC := fun t W ht => Pw.text_st t ht W
/-- A shorter part of a row of the call's own. -/
theorem own_less {W : World} {base : Nat} {e : TypeId} {a : Option Addr} {c n k : Nat} {xs : List Value} (h : W.ownsRow base e 1 (.slice a n c) n xs) (hk : k ≤ n) (hk0 : 0 < n) : W.ownsRow base e 1 (.slice a k c) k (xs.take k) := by
  obtain ⟨h1, h2⟩ := h
  refine ⟨by rw [List.length_take]; omega, ?_⟩
  rcases h2 with ⟨_, h2⟩ | ⟨g, cap, cur, hv, hg, hh, hnc, hcm, hcs, ht⟩
  · omega
  · cases hv
    refine .inr ⟨g, c, cur, rfl, hg, hh, by omega, hcm, hcs, ?_⟩
    have := congrArg (List.take (k * 1)) ht
    rw [List.take_take, Nat.min_eq_left (by omega)] at this
    rw [this]
    congr 1
    omega
theorem strs_one (l : List Tx) : ∀ u ∈ strsV l, u.oneCell' = true := by
  intro u hu
  obtain ⟨x, _, rfl⟩ := List.mem_map.1 hu
  rfl
theorem cs_take (l : List Int) (k : Nat) : Tk.cs (l.take k) = (Tk.cs l).take k := by simp [Tk.cs, List.map_take]
theorem cs_snoc (l : List Int) (x : Int) : Tk.cs (l ++ [x]) = Tk.cs l ++ [.int .i64 x] := by simp [Tk.cs]

/-- A place as it is answered. -/
def PlaceR (W : World) (base : Nat) (r : Except Int Place) (e : Ending) : Prop := match r with
  | .ok p => ∃ v, e = .returned (.tuple #[.agg #[v, .string (mk p.name), .int .i64 p.inode], .int .i64 0]) ∧ W.ownsRow base 3 1 v p.chain.length (Tk.cs p.chain)
  | .error z => e = .returned (.tuple #[.agg #[.slice none 0 0, .string (mk []), .int .i64 0], .int .i64 z]) ∧ z ≠ 0

/-- A place's block, written over. -/
theorem Blk.set3 {w : World} {b : Nat} {a0 a1 a2 : Value} {t : TypeId} (h : Blk w b #[a0, a1, a2] t) (v0 v1 v2 : Value) : Blk (((w.setCell ⟨b, 0, none⟩ v0).setCell ⟨b, 1, none⟩ v1).setCell ⟨b, 2, none⟩ v2) b #[v0, v1, v2] t := ((h.set 0 v0).set 1 v1).set 2 v2
theorem own_set3 {w : World} {base b : Nat} {e : TypeId} {v : Value} {n : Nat} {xs : List Value} (h : w.ownsRow base e 1 v n xs) (hb : b < base) (v0 v1 v2 : Value) : (((w.setCell ⟨b, 0, none⟩ v0).setCell ⟨b, 1, none⟩ v1).setCell ⟨b, 2, none⟩ v2).ownsRow base e 1 v n xs := by
  have hne : v.ownBlock ≠ some b := fun e => by have := row_ge h e; omega
  exact ownsRow_setCell_other (ownsRow_setCell_other (ownsRow_setCell_other h (a := ⟨b, 0, none⟩) hne _) (a := ⟨b, 1, none⟩) hne _) (a := ⟨b, 2, none⟩) hne _
theorem below_set3 {w w' : World} {b : Nat} (h : Below w.heap.size w w') (hb : w.heap.size ≤ b) (v0 v1 v2 : Value) : Below w.heap.size w (((w'.setCell ⟨b, 0, none⟩ v0).setCell ⟨b, 1, none⟩ v1).setCell ⟨b, 2, none⟩ v2) :=
  ((h.setCell (p := ⟨b, 0, none⟩) hb _).setCell (p := ⟨b, 1, none⟩) hb _).setCell (p := ⟨b, 2, none⟩) hb _
set_option maxRecDepth 100000 in
theorem goes_results {tmps : Array Value} {w : World} {b : Nat} {v0 v1 v2 v3 : Value} {t : TypeId} (h8 : tmps[8]? = some (.pointer (some ⟨b, 0, none⟩))) (h9 : tmps[9]? = some v3) (hb : Blk w b #[v0, v1, v2] t) :
    (results Tryz.f78 tmps).run Tryz.prog w = .ok (.tuple #[.agg #[v0, v1, v2], v3]) w := by
  have c0 : w.cell? ⟨b, 0, none⟩ = some v0 := hb.cell 0
  have c1 : w.cell? ⟨b, 1, none⟩ = some v1 := hb.cell 1
  have c2 : w.cell? ⟨b, 2, none⟩ = some v2 := hb.cell 2
  simp [results, Tryz.results78, go_sem, h8, h9, c0, c1, c2]
theorem textP_ok {t : Tx} {l : List Tx} {top : Bool} (h : textP t = .ok (l, top)) : (∀ p ∈ l, p.length ≤ 27) ∧ l.length ≤ 32 := by
  unfold textP at h
  split at h
  · cases h
  · split at h
    · cases h
    · rename_i l' hc
      cases h
      unfold comps at hc
      split at hc
      · rename_i hcc
        cases hc
        exact ⟨fun p hp => hcc.2.1 p (List.mem_filter.1 hp).1, hcc.2.2⟩
      · cases hc
section
variable {W : World} {L : Lay} {fb : Nat} {n : Int} {nb : Nat} {uv : Value} {vals : List Value}
/-- What the walk of a path asks of the tree. -/
structure Good (s : Tree) : Prop where
  closed : Closed s
  ids : ∀ i x, get s i = some x → 0 ≤ i ∧ i ≤ 1000000
  kinds : ∀ i x, get s i = some x → x.kind = 1 ∨ x.kind = 2 ∨ x.kind = 3
  root : kindOf s 1 = 2
  texts : ∀ i x, get s i = some x → x.text.length ≤ 1000000

set_option maxRecDepth 100000 in
set_option maxHeartbeats 4000000 in
theorem goes_any (h : Sim W L fb n nb uv vals) (hw : WF L nb) (hG : Good (stOf L nb)) (behind follow : Bool) (parts : List Tx) (pv : Value) (hpv : StrsAt W pv parts none) (hpl : parts.length ≤ 1000) (hps : ∀ p ∈ parts, p.length ≤ 1000000) :
    Calls Tryz.prog 78 #[.pointer (some ⟨fb, 0, none⟩), pv, .bool behind, .bool follow] W fun e W' => PlaceR W' W.heap.size (goes (stOf L nb) behind follow parts [1] 0) e ∧ Below W.heap.size W W' := by
  obtain ⟨i0, hi, hz0, hz1, hz2⟩ := info_parts info_int
  obtain ⟨j0, hj, hjz, hjs, hjb⟩ := info_parts (show (Tryz.prog.info? 9).map (fun i => (i.zero, i.size, i.bytes)) = some (some (.string (mk [])), 1, 16) by kernel_rfl)
  go_enter Tryz.func78, Tryz.ntmps78
  go_wp2
  obtain ⟨w0, hw0⟩ : ∃ w0, (W.alloc (.cells #[.slice none 0 0, .string { data := #[] }, .int .i64 0] 99)).alloc (.cells #[.int .i64 1] 3) = w0 := ⟨_, rfl⟩
  have hB0 : Below W.heap.size W w0 := by rw [← hw0]; exact ((Below.refl _ _).alloc (Nat.le_refl _) _).alloc (by simp) _
  have hsz0 : w0.heap.size = W.heap.size + 2 := by rw [← hw0]; simp
  have hpl0 : Blk w0 W.heap.size #[.slice none 0 0, .string { data := #[] }, .int .i64 0] 99 := by
    rw [← hw0]
    exact (Blk.new W _ _).same (((Below.refl (W.heap.size + 1) _).alloc (by simp) _).block _ (by omega))
  have hch0 : w0.ownsRow (W.heap.size + 1) 3 1 (.slice (some ⟨W.heap.size + 1, 0, none⟩) 1 1) 1 (Tk.cs [1]) := by
    refine ⟨rfl, .inr ⟨W.heap.size + 1, 1, #[.int .i64 1], rfl, Nat.le_refl _, ?_, Nat.le_refl _, by unfold maxLen; omega, rfl, rfl⟩⟩
    rw [← hw0]
    have := Blk.new (W.alloc (.cells #[.slice none 0 0, .string { data := #[] }, .int .i64 0] 99)) #[.int .i64 1] 3
    rw [World.size_alloc] at this
    exact this
  rw [hw0]
  generalize hR : goes (stOf L nb) behind follow parts [1] 0 = R
  go_loopw [1, 10, 11] (fun pvv chv flv wr => ∃ (ps : List Tx) (ch : List Int) (k : Nat), StrsAt wr pvv ps chv.ownBlock ∧ wr.ownsRow (W.heap.size + 1) 3 1 chv ch.length (Tk.cs ch) ∧ flv = .int .i64 (k : Int) ∧ k ≤ 8 ∧ Hid (goes (stOf L nb) behind follow ps ch k = R) ∧ ch ≠ [] ∧ (∀ i ∈ ch, kindOf (stOf L nb) i = 2) ∧ ch.length + ps.length + (8 - k) * 32 ≤ 1500 ∧ (∀ p ∈ ps, p.length ≤ 1000000) ∧ Blk wr W.heap.size #[.slice none 0 0, .string { data := #[] }, .int .i64 0] 99 ∧ Below W.heap.size W wr ∧ W.heap.size + 2 ≤ wr.heap.size)
    (fun pvv _ flv _ => (8 - (intOf flv).toNat) * 1000 + (match pvv with | .slice _ n _ => n | _ => 0))
  case atStart =>
    refine ⟨parts, [1], 0, hpv.kept hB0.size (fun g hg _ => hB0.block g hg) (fun g e => by cases e; right; show W.heap.size ≤ W.heap.size + 1; omega), hch0, rfl, by omega, hR, by simp, fun i hi => by rw [List.mem_singleton.1 hi]; exact hG.root, by simp; omega, hps, hpl0, hB0, by omega⟩
  case round =>
    obtain ⟨ps, ch, k, hst, hown, rfl, hk8, hRr, hne, hdirs, hbnd, hpsl, hplc, hbw, hsz⟩ := hrel
    have hSr := h.below hbw
    obtain ⟨ao, ca, rfl, hca, hstc⟩ := hst
    obtain ⟨cg, cc, rfl, hcg, hcglt, hcc, hccm, hcell, hcfree⟩ := own_at hown (List.length_pos_iff.2 hne)
    have hlen : 0 < ch.length := List.length_pos_iff.2 hne
    have hlast : wr.cell? ⟨cg, ch.length - 1, none⟩ = some (.int .i64 (ch.getLast?.getD 0)) := by
      rw [hcell (ch.length - 1) (by omega), Tk.cs_get ch _ (by omega)]
      congr 2
      rw [List.getLast?_eq_getElem?, List.getD_eq_getElem?_getD]
    have hlm : ch.getLast?.getD 0 ∈ ch := by
      cases hh : ch.getLast? with
      | none => rw [List.getLast?_eq_none_iff] at hh; exact absurd hh hne
      | some x => exact List.mem_of_getLast? hh
    have hlk := hdirs _ hlm
    have q0 : wr.cell? ⟨W.heap.size, 0, none⟩ = some (.slice none 0 0) := hplc.cell 0
    have q1 : wr.cell? ⟨W.heap.size, 1, none⟩ = some (.string { data := #[] }) := hplc.cell 1
    have q2 : wr.cell? ⟨W.heap.size, 2, none⟩ = some (.int .i64 0) := hplc.cell 2
    have y0 := hplc.free 0
    have y1 := hplc.free 1
    have y2 := hplc.free 2
    have hlc : ((ch.length : Int) - 1).toNat = ch.length - 1 := by omega
    clear hcell
    generalize hlv : ch.getLast?.getD 0 = la at *
    cases ps with
    | nil =>
      rw [goes] at hRr
      have hRr := hRr.out
      go_wp2
      refine bodyPost_ret (v := .tuple #[.agg #[.slice (some ⟨cg, 0, none⟩) ch.length cc, .string { data := #[] }, .int .i64 la], .int .i64 0]) (goes_results rfl rfl (hplc.set3 _ _ _)) rfl ⟨?_, below_set3 hbw (Nat.le_refl _) _ _ _⟩
      rw [hR, ← hRr, hlv]
      exact ⟨_, rfl, row_base (own_set3 hown (by omega) _ _ _) (by omega)⟩
    | cons c r =>
      rw [goes] at hRr
      have hRr := hRr.out
      obtain ⟨g, off, rfl, hg, hXg, hcs⟩ := hstc (by simp)
      have hc0 : wr.cell? ⟨g, off, none⟩ = some (.string (mk c)) := by have := hcs 0 c rfl; rwa [Nat.add_zero] at this
      have hcl : (mk c).toList = c := toList_bs (mk c)
      have hcr : 1 ≤ ca := by rw [List.length_cons] at hca; omega
      have hst' : StrsAt wr (.slice (if ca = 1 then some ⟨g, off, none⟩ else some ⟨g, off + 1, none⟩) r.length (ca - 1)) r (some cg) := by
        rw [List.length_cons] at hca
        refine ⟨_, _, rfl, by omega, fun hner => ⟨g, off + 1, if_neg ?_, hg, hXg, fun j t hj => ?_⟩⟩
        · have := List.length_pos_iff.2 hner; omega
        · have := hcs (j + 1) t (by rw [List.getElem?_cons_succ]; exact hj)
          rwa [show off + (j + 1) = off + 1 + j by omega] at this
      obtain ⟨sv, hif⟩ : ∃ sv, (if ca = 1 then (some ⟨g, off, none⟩ : Option Addr) else some ⟨g, off + 1, none⟩) = sv := ⟨_, rfl⟩
      rw [hif] at hst'
      have hsvn : sv ≠ none := by rw [← hif]; split <;> simp
      have Hst := Lib.hid hst'
      clear hst'
      have hbr : ch.length + r.length + 1 + (8 - k) * 32 ≤ 1500 := by rw [List.length_cons] at hbnd; omega
      have hpr : ∀ p ∈ r, p.length ≤ 1000000 := fun p hp => hpsl p (by simp [hp])
      have hpc : c.length ≤ 1000000 := hpsl c (by simp)
      by_cases hdd : c = [46, 46]
      · rw [if_pos hdd] at hRr
        have hx : ((mk c).toList == [46, 46]) = true := by rw [hcl, hdd]; rfl
        have HR := Lib.hid hRr
        clear hdd hRr hcl hcs
        go_wp2
        have hmx : (max 1 ((ch.length : Int) - 1)).toNat = max 1 (ch.length - 1) := by omega
        have htl : (ch.take (max 1 (ch.length - 1))).length = max 1 (ch.length - 1) := by rw [List.length_take]; omega
        rw [hmx]
        refine ⟨⟨r, ch.take (max 1 (ch.length - 1)), k, Hst.out, ?_, rfl, hk8, HR, ?_, ?_, ?_, hpr, hplc, hbw, hsz⟩, ?_⟩
        · rw [htl, cs_take]
          exact own_less hown (by omega) hlen
        · intro e; rw [e] at htl; simp at htl; omega
        · exact fun i hi => hdirs i (List.mem_of_mem_take hi)
        · rw [htl]; omega
        · simp only [intOf, List.length_cons]; omega
      · rw [if_neg hdd] at hRr
        have hx : ((mk c).toList == [46, 46]) = false := by rw [hcl, beq_eq_false_iff_ne]; exact hdd
        obtain ⟨x0, hx0⟩ : ∃ x, get (stOf L nb) la = some x := by
          cases e : get (stOf L nb) la with
          | none => unfold kindOf at hlk; rw [e] at hlk; cases hlk
          | some x => exact ⟨x, rfl⟩
        obtain ⟨b, ha, _⟩ := Adr.of_st hx0
        obtain ⟨hla1, hla2⟩ := hG.ids la x0 hx0
        obtain ⟨hd, q, m, hb, hq, hm, hme, hnd, hkd⟩ := hw.dirAt ha hlk
        have hMA : MapAt Tryz.prog 9 evI wr q m := (hSr.is q _ hm).2
        obtain ⟨_, _, _, _, c4, _⟩ := node_cells (hSr.is b _ hb).2
        rw [hq] at c4
        have hlook := hMA.look_ok kT Tryz.underlying63 (zI _) (keyT (s := c) (by unfold maxLen; omega))
        have hnmc : namesOf (stOf L nb) la = m := hme.symm
        rw [hlv, hnmc] at hRr
        have hclm : ∀ p ∈ m, (get (stOf L nb) p.2).isSome = true := by rw [hme]; exact hG.closed la
        clear hme hnmc
        cases hgc : get m c with
        | none =>
          rw [hgc] at hlook hRr
          simp only [Option.map_none, Option.getD_none, Option.isSome_none] at hlook
          have HR := Lib.hid (show (Except.error 160 : Except Int Place) = R from hRr)
          clear hdd hRr hcl hcs hgc hclm
          go_wp2_with (go_at_call 40; refine (at_st hSr hw ha hla1 hla2).mono ?_; rintro e w' ⟨rfl, rfl⟩)
          refine bodyPost_ret (v := .tuple #[.agg #[.slice none 0 0, .string { data := #[] }, .int .i64 0], .int .i64 160]) (goes_results rfl rfl (hplc.set3 _ _ _)) rfl ⟨?_, below_set3 hbw (Nat.le_refl _) _ _ _⟩
          first | rw [hR, ← HR.out] | rw [← HR.out]
          exact ⟨rfl, by decide⟩
        | some mi =>
          rw [hgc] at hlook hRr
          simp only [Option.map_some, Option.getD_some, Option.isSome_some, evI] at hlook
          dsimp only at hRr
          obtain ⟨y, hy⟩ := Option.isSome_iff_exists.1 (hclm _ (hMA.2.get.1 hgc))
          dsimp only at hy
          rw [hy] at hRr
          dsimp only at hRr
          obtain ⟨bm, hac, hbm⟩ := Adr.of_st hy
          obtain ⟨hmi1, hmi2⟩ := hG.ids mi y hy
          obtain ⟨hd2, hb2⟩ := hw.at hac
          obtain ⟨k0', _, _, _, _, _, k6', _⟩ := node_cells (hSr.is bm _ hb2).2
          have hyd : y = ndOf L hd2 := by rw [← hbm, ndAtB_of hb2]
          have hky : kindOf (stOf L nb) mi = y.kind := by unfold kindOf; rw [hy]; rfl
          have k0 : wr.cell? ⟨bm, 0, none⟩ = some (.int .i64 (kindOf (stOf L nb) mi)) := by rw [k0', hky, hyd]; rfl
          have k6 : wr.cell? ⟨bm, 6, none⟩ = some (.string (mk y.text)) := by rw [k6', hyd]; rfl
          have hytl := hG.texts mi y hy
          clear hdd hcl hcs hgc hclm k0' k6' hyd hbm
          rcases (show behind = true ∨ (behind = false ∧ ∃ c2 r2, r = c2 :: r2) ∨ (behind = false ∧ r = []) by
            cases behind with
            | true => exact .inl rfl
            | false => cases r with
              | nil => exact .inr (.inr ⟨rfl, rfl⟩)
              | cons c2 r2 => exact .inr (.inl ⟨rfl, c2, r2, rfl⟩)) with rfl | ⟨rfl, c2, r2, rfl⟩ | ⟨rfl, rfl⟩
          · rcases hG.kinds mi y hy with hy2 | hy2 | hy2
            · rw [if_neg (by simp [hy2]), if_neg (by simp [hy2]), if_pos (by simp)] at hRr
              have hdb : (kindOf (stOf L nb) mi == 2) = false := by rw [beq_eq_false_iff_ne, hky]; omega
              have hdc : (kindOf (stOf L nb) mi == 3) = false := by rw [beq_eq_false_iff_ne, hky]; omega
              have HR := Lib.hid hRr
              clear hRr
              go_wp2_with (first | (go_at_call 40; ((with_reducible refine (at_st hSr hw ha hla1 hla2).mono ?_); rintro e w' ⟨rfl, rfl⟩)) | (go_at_call 40; ((with_reducible refine (at_st hSr hw hac hmi1 hmi2).mono ?_); rintro e w' ⟨rfl, rfl⟩)) | (go_at_call 48; refine (isDir_any _ k0).mono ?_; rintro e w' ⟨rfl, rfl⟩; rw [hdb]))
              refine bodyPost_ret (v := .tuple #[.agg #[.slice none 0 0, .string { data := #[] }, .int .i64 0], .int .i64 161]) (goes_results rfl rfl (hplc.set3 _ _ _)) rfl ⟨?_, below_set3 hbw (Nat.le_refl _) _ _ _⟩
              first | rw [hR, ← HR.out] | rw [← HR.out]
              exact ⟨rfl, by decide⟩
            · rw [if_pos ⟨hy2, by simp⟩] at hRr
              have hdb : (kindOf (stOf L nb) mi == 2) = true := by rw [beq_iff_eq, hky]; exact hy2
              have HR := Lib.hid hRr
              have hOa := hown.alloc (.cells #[.int .i64 mi] 3)
              clear hRr
              go_wp2_with (first | (go_at_call 40; ((with_reducible refine (at_st hSr hw ha hla1 hla2).mono ?_); rintro e w' ⟨rfl, rfl⟩)) | (go_at_call 40; ((with_reducible refine (at_st hSr hw hac hmi1 hmi2).mono ?_); rintro e w' ⟨rfl, rfl⟩)) | (go_at_call 48; refine (isDir_any _ k0).mono ?_; rintro e w' ⟨rfl, rfl⟩; rw [hdb]) | (at_builtin; refine wpList_append_own_at _ rfl (.tmp 75) (.tmp 77) 97 rfl (W.heap.size + 1) 3 i0 (.int .i64 0) 1 8 Tryz.underlying97 hi hz0 hz1 hz2 rfl (by decide) _ ch.length (Tk.cs ch) rfl hOa ⟨wr.heap.size, 0, none⟩ 1 1 [.int .i64 mi] rfl rfl (cell_one_new _ _ _) (cs_one mi) (by unfold maxLen; omega) (by omega) (by simp; omega) ?_; intro v2 w2 hown2 hg2 _ hloc; obtain ⟨g3, c3', rfl, hg3b, hg3l, _⟩ := own_at hown2 (by omega)))
              have hg4 := (World.grownBy_alloc wr (.cells #[.int .i64 mi] 3) _).trans hg2
              have hxx : g3 = cg ∨ g3 = wr.heap.size + 1 := by
                rcases hloc with e | e
                · left; exact Option.some.inj e
                · right; have := Option.some.inj e; simpa using this
              go_roundw
              case rel =>
                refine ⟨_, ch ++ [mi], k, Hst.out.kept hg4.size (fun x hx hne => hg4.block x hx (fun e => hne e.symm)) (fun x e => ?_), ?_, rfl, hk8, HR, by simp, ?_, ?_, hpr, hplc.same (hg4.block _ (by omega) (fun e => by have h3 : W.heap.size = cg := Option.some.inj e; omega)), ?_, Nat.le_trans hsz hg4.size⟩
                · have h3 : g3 = x := Option.some.inj e
                  rcases hxx with e2 | e2
                  · left; rw [← h3, e2]
                  · right; omega
                · rw [cs_snoc, List.length_append]; exact hown2
                · intro x hx'
                  rcases List.mem_append.1 hx' with h' | h'
                  · exact hdirs x h'
                  · rw [List.mem_singleton.1 h']; unfold kindOf; rw [hy]; exact hy2
                · rw [List.length_append]; simp only [List.length_cons, List.length_nil] at hbr ⊢; omega
                · exact hbw.trans ⟨hg4.os, hg4.tape, hg4.output, hg4.size, fun x hx => hg4.block x (by omega) (fun e => by have h3 : x = cg := Option.some.inj e; omega)⟩
              case measure => simp only [intOf, List.length_cons]; omega
            · rw [if_neg (by simp [hy2]), if_pos ⟨hy2, by simp⟩] at hRr
              have hdb : (kindOf (stOf L nb) mi == 2) = false := by rw [beq_eq_false_iff_ne, hky]; omega
              have hdc : (kindOf (stOf L nb) mi == 3) = true := by rw [beq_iff_eq, hky]; exact hy2
              by_cases hk88 : 8 ≤ k
              · rw [dif_pos hk88] at hRr
                have HR := Lib.hid hRr
                clear hRr
                go_wp2_with (first | (go_at_call 40; ((with_reducible refine (at_st hSr hw ha hla1 hla2).mono ?_); rintro e w' ⟨rfl, rfl⟩)) | (go_at_call 40; ((with_reducible refine (at_st hSr hw hac hmi1 hmi2).mono ?_); rintro e w' ⟨rfl, rfl⟩)) | (go_at_call 48; refine (isDir_any _ k0).mono ?_; rintro e w' ⟨rfl, rfl⟩; rw [hdb]))
                refine bodyPost_ret (v := .tuple #[.agg #[.slice none 0 0, .string { data := #[] }, .int .i64 0], .int .i64 162]) (goes_results rfl rfl (hplc.set3 _ _ _)) rfl ⟨?_, below_set3 hbw (Nat.le_refl _) _ _ _⟩
                first | rw [hR, ← HR.out] | rw [← HR.out]
                exact ⟨rfl, by decide⟩
              · rw [dif_neg hk88] at hRr
                have HT := textC y.text wr (by omega)
                cases htx : textP y.text with
                | error z =>
                  rw [htx] at hRr HT
                  have HR := Lib.hid hRr
                  clear hRr htx
                  go_wp2_with (first | (go_at_call 40; ((with_reducible refine (at_st hSr hw ha hla1 hla2).mono ?_); rintro e w' ⟨rfl, rfl⟩)) | (go_at_call 40; ((with_reducible refine (at_st hSr hw hac hmi1 hmi2).mono ?_); rintro e w' ⟨rfl, rfl⟩)) | (go_at_call 48; refine (isDir_any _ k0).mono ?_; rintro e w' ⟨rfl, rfl⟩; rw [hdb]) | (go_at_call 38; refine HT.mono ?_; rintro e w3 ⟨hb3, rfl, hzn⟩; have hzb := (bne_iff_ne.2 hzn); have z0 := (bcell hb3).1 W.heap.size 0 (by omega); have z1 := (bcell hb3).1 W.heap.size 1 (by omega); have z2 := (bcell hb3).1 W.heap.size 2 (by omega); rw [q0] at z0; rw [q1] at z1; rw [q2] at z2; have z3 := (bcell hb3).2 W.heap.size 0 (by omega); have z4 := (bcell hb3).2 W.heap.size 1 (by omega); have z5 := (bcell hb3).2 W.heap.size 2 (by omega); rw [y0] at z3; rw [y1] at z4; rw [y2] at z5))
                  have hplc3 := hplc.same (hb3.block W.heap.size (by omega))
                  have hbw3 : Below W.heap.size W w3 := hbw.trans ⟨hb3.os, hb3.tape, hb3.output, hb3.size, fun x hx => hb3.block x (by omega)⟩
                  refine bodyPost_ret (v := .tuple #[.agg #[.slice none 0 0, .string { data := #[] }, .int .i64 0], .int .i64 z]) (goes_results rfl rfl (hplc3.set3 _ _ _)) rfl ⟨?_, below_set3 hbw3 (Nat.le_refl _) _ _ _⟩
                  first | rw [hR, ← HR.out] | rw [← HR.out]
                  exact ⟨rfl, hzn⟩
                | ok q2 =>
                  obtain ⟨l2, top⟩ := q2
                  rw [htx] at hRr HT
                  obtain ⟨hlp, hll⟩ := textP_ok htx
                  have HNW : Hid (∀ w3, Below wr.heap.size wr w3 → ∀ ad, sv = some ad → ∀ j u, (strsV r)[j]? = some u → w3.cell? (ad.add j) = some u) := by
                    refine Lib.hid fun w3 hb3 ad had j u hu => ?_
                    obtain ⟨ao5, c5, e5, _, hl5⟩ := Hst.out
                    cases e5
                    have hjl : j < (strsV r).length := (List.getElem?_eq_some_iff.1 hu).1
                    obtain ⟨g5, off5, e6, hg5, _, hc5⟩ := hl5 (by intro e; rw [e] at hjl; simp [strsV] at hjl)
                    rw [had] at e6
                    cases e6
                    have hjl' : j < (r : List Tx).length := by rw [strsV_len] at hjl; exact hjl
                    have h6 := hc5 j _ (List.getElem?_eq_getElem hjl')
                    rw [strsV_at (List.getElem?_eq_getElem hjl')] at hu
                    rw [← Option.some.inj hu]
                    rw [show Addr.add ⟨g5, off5, none⟩ j = ⟨g5, off5 + j, none⟩ by unfold Addr.add; split <;> simp_all]
                    exact ((bcell hb3).1 g5 (off5 + j) hg5).trans h6
                  have HR := Lib.hid hRr
                  clear hRr htx
                  cases top with
                  | false =>
                    go_wp2_with (first | (go_at_call 40; ((with_reducible refine (at_st hSr hw ha hla1 hla2).mono ?_); rintro e w' ⟨rfl, rfl⟩)) | (go_at_call 40; ((with_reducible refine (at_st hSr hw hac hmi1 hmi2).mono ?_); rintro e w' ⟨rfl, rfl⟩)) | (go_at_call 48; refine (isDir_any _ k0).mono ?_; rintro e w' ⟨rfl, rfl⟩; rw [hdb]) | (go_at_call 38; refine HT.mono ?_; rintro e w3 ⟨hb3, v3, rfl, hown3⟩; obtain ⟨ao3, c3', rfl, _⟩ := own_shape2 hown3) | (at_builtin; refine wpList_append_any _ rfl (.tmp 109) (.tmp 110) 40 rfl wr.heap.size 9 j0 (.string (mk [])) 1 16 Tryz.underlying40 hj hjz hjs hjb rfl (by decide) _ l2.length (strsV l2) rfl hown3 sv (r : List Tx).length (ca - 1) (strsV r) rfl (fun e => absurd e hsvn) (by simp [strsV]) (HNW.out _ hb3) (strs_one _) (by unfold maxLen; omega) (by omega) hb3.size ?_; intro v4 w4 hown4 hg4 hloc4; obtain ⟨ao4, c4', rfl, _⟩ := own_shape2 hown4))
                    have hv4 : ∀ g, (Value.slice ao4 (l2.length + (r : List Tx).length) c4').ownBlock = some g → wr.heap.size ≤ g := fun g e => row_ge hown4 e
                    have hb4 : Below wr.heap.size wr w4 := ⟨hg4.os.trans hb3.os, hg4.tape.trans hb3.tape, hg4.output.trans hb3.output, Nat.le_trans hb3.size hg4.size, fun x hx => (hg4.block x (Nat.lt_of_lt_of_le hx hb3.size) (fun e => by have := row_ge hown3 e.symm; omega)).trans (hb3.block x hx)⟩
                    have hbw4 : Below W.heap.size W w4 := hbw.trans ⟨hb4.os, hb4.tape, hb4.output, hb4.size, fun x hx => hb4.block x (by omega)⟩
                    rw [← strsV_app] at hown4
                    have hown5 : w4.ownsRow wr.heap.size 9 1 (.slice ao4 (l2.length + (r : List Tx).length) c4') (l2 ++ r).length (strsV (l2 ++ r)) := by rw [List.length_append]; exact hown4
                    refine ⟨⟨l2 ++ r, ch, k + 1, StrsAt.of_own hown5 ?_, own_below hown hb4, rfl, by omega, HR, hne, hdirs, ?_, ?_, hplc.same (hb4.block _ (by omega)), hbw4, Nat.le_trans hsz hb4.size⟩, ?_⟩
                    · cases e : (Value.slice ao4 (l2.length + (r : List Tx).length) c4').ownBlock with
                      | none => exact .inl rfl
                      | some g4 => right; intro e2; have h3 : cg = g4 := Option.some.inj e2; have := hv4 g4 e; omega
                    · rw [List.length_append]; omega
                    · intro p hp
                      rcases List.mem_append.1 hp with h' | h'
                      · have := hlp p h'; omega
                      · exact hpr p h'
                    · simp only [intOf, List.length_cons] at hbr ⊢; omega
                  | true =>
                    go_wp2_with (first | (go_at_call 40; ((with_reducible refine (at_st hSr hw ha hla1 hla2).mono ?_); rintro e w' ⟨rfl, rfl⟩)) | (go_at_call 40; ((with_reducible refine (at_st hSr hw hac hmi1 hmi2).mono ?_); rintro e w' ⟨rfl, rfl⟩)) | (go_at_call 48; refine (isDir_any _ k0).mono ?_; rintro e w' ⟨rfl, rfl⟩; rw [hdb]) | (go_at_call 38; refine HT.mono ?_; rintro e w3 ⟨hb3, v3, rfl, hown3⟩; obtain ⟨ao3, c3', rfl, _⟩ := own_shape2 hown3) | (at_builtin; refine wpList_append_any _ rfl (.tmp 109) (.tmp 110) 40 rfl wr.heap.size 9 j0 (.string (mk [])) 1 16 Tryz.underlying40 hj hjz hjs hjb rfl (by decide) _ l2.length (strsV l2) rfl hown3 sv (r : List Tx).length (ca - 1) (strsV r) rfl (fun e => absurd e hsvn) (by simp [strsV]) (HNW.out _ hb3) (strs_one _) (by unfold maxLen; omega) (by omega) hb3.size ?_; intro v4 w4 hown4 hg4 hloc4; obtain ⟨ao4, c4', rfl, _⟩ := own_shape2 hown4))
                    have hv4 : ∀ g, (Value.slice ao4 (l2.length + (r : List Tx).length) c4').ownBlock = some g → wr.heap.size ≤ g := fun g e => row_ge hown4 e
                    have hb4 : Below wr.heap.size wr w4 := ⟨hg4.os.trans hb3.os, hg4.tape.trans hb3.tape, hg4.output.trans hb3.output, Nat.le_trans hb3.size hg4.size, fun x hx => (hg4.block x (Nat.lt_of_lt_of_le hx hb3.size) (fun e => by have := row_ge hown3 e.symm; omega)).trans (hb3.block x hx)⟩
                    have hbw4 : Below W.heap.size W w4 := hbw.trans ⟨hb4.os, hb4.tape, hb4.output, hb4.size, fun x hx => hb4.block x (by omega)⟩
                    rw [← strsV_app] at hown4
                    have hown5 : w4.ownsRow wr.heap.size 9 1 (.slice ao4 (l2.length + (r : List Tx).length) c4') (l2 ++ r).length (strsV (l2 ++ r)) := by rw [List.length_append]; exact hown4
                    have h6 := Blk.new w4 #[.int .i64 1] 3
                    refine ⟨⟨l2 ++ r, [1], k + 1, (StrsAt.of_own (X := none) hown5 ?_).kept (by simp) (fun g hg _ => (((Below.refl w4.heap.size w4).alloc (Nat.le_refl _) _).block g hg)) (fun g e => .inr (Nat.le_of_eq (Option.some.inj e))), ?_, rfl, by omega, HR, by simp, fun i hi => by rw [List.mem_singleton.1 hi]; exact hG.root, ?_, ?_, (hplc.same (hb4.block _ (by omega))).same (((Below.refl w4.heap.size w4).alloc (Nat.le_refl _) _).block _ (by have := hb4.size; omega)), hbw4.alloc (by have := hbw4.size; omega) _, ?_⟩, ?_⟩
                    · cases e : (Value.slice ao4 (l2.length + (r : List Tx).length) c4').ownBlock with
                      | none => exact .inl rfl
                      | some g4 => exact .inr (by simp)
                    · exact ⟨rfl, .inr ⟨w4.heap.size, 1, #[.int .i64 1], rfl, by have := hb4.size; omega, h6, Nat.le_refl _, by unfold maxLen; omega, rfl, rfl⟩⟩
                    · rw [List.length_append, List.length_singleton]; omega
                    · intro p hp
                      rcases List.mem_append.1 hp with h' | h'
                      · have := hlp p h'; omega
                      · exact hpr p h'
                    · have := hb4.size; simp; omega
                    · simp only [intOf, List.length_cons] at hbr ⊢; omega
          · rcases hG.kinds mi y hy with hy2 | hy2 | hy2
            · rw [if_neg (by simp [hy2]), if_neg (by simp [hy2]), if_pos (by simp)] at hRr
              have hdb : (kindOf (stOf L nb) mi == 2) = false := by rw [beq_eq_false_iff_ne, hky]; omega
              have hdc : (kindOf (stOf L nb) mi == 3) = false := by rw [beq_eq_false_iff_ne, hky]; omega
              have HR := Lib.hid hRr
              clear hRr
              go_wp2_with (first | (go_at_call 40; ((with_reducible refine (at_st hSr hw ha hla1 hla2).mono ?_); rintro e w' ⟨rfl, rfl⟩)) | (go_at_call 40; ((with_reducible refine (at_st hSr hw hac hmi1 hmi2).mono ?_); rintro e w' ⟨rfl, rfl⟩)) | (go_at_call 48; refine (isDir_any _ k0).mono ?_; rintro e w' ⟨rfl, rfl⟩; rw [hdb]))
              refine bodyPost_ret (v := .tuple #[.agg #[.slice none 0 0, .string { data := #[] }, .int .i64 0], .int .i64 161]) (goes_results rfl rfl (hplc.set3 _ _ _)) rfl ⟨?_, below_set3 hbw (Nat.le_refl _) _ _ _⟩
              first | rw [hR, ← HR.out] | rw [← HR.out]
              exact ⟨rfl, by decide⟩
            · rw [if_pos ⟨hy2, by simp⟩] at hRr
              have hdb : (kindOf (stOf L nb) mi == 2) = true := by rw [beq_iff_eq, hky]; exact hy2
              have HR := Lib.hid hRr
              have hOa := hown.alloc (.cells #[.int .i64 mi] 3)
              clear hRr
              go_wp2_with (first | (go_at_call 40; ((with_reducible refine (at_st hSr hw ha hla1 hla2).mono ?_); rintro e w' ⟨rfl, rfl⟩)) | (go_at_call 40; ((with_reducible refine (at_st hSr hw hac hmi1 hmi2).mono ?_); rintro e w' ⟨rfl, rfl⟩)) | (go_at_call 48; refine (isDir_any _ k0).mono ?_; rintro e w' ⟨rfl, rfl⟩; rw [hdb]) | (at_builtin; refine wpList_append_own_at _ rfl (.tmp 75) (.tmp 77) 97 rfl (W.heap.size + 1) 3 i0 (.int .i64 0) 1 8 Tryz.underlying97 hi hz0 hz1 hz2 rfl (by decide) _ ch.length (Tk.cs ch) rfl hOa ⟨wr.heap.size, 0, none⟩ 1 1 [.int .i64 mi] rfl rfl (cell_one_new _ _ _) (cs_one mi) (by unfold maxLen; omega) (by omega) (by simp; omega) ?_; intro v2 w2 hown2 hg2 _ hloc; obtain ⟨g3, c3', rfl, hg3b, hg3l, _⟩ := own_at hown2 (by omega)))
              have hg4 := (World.grownBy_alloc wr (.cells #[.int .i64 mi] 3) _).trans hg2
              have hxx : g3 = cg ∨ g3 = wr.heap.size + 1 := by
                rcases hloc with e | e
                · left; exact Option.some.inj e
                · right; have := Option.some.inj e; simpa using this
              go_roundw
              case rel =>
                refine ⟨_, ch ++ [mi], k, Hst.out.kept hg4.size (fun x hx hne => hg4.block x hx (fun e => hne e.symm)) (fun x e => ?_), ?_, rfl, hk8, HR, by simp, ?_, ?_, hpr, hplc.same (hg4.block _ (by omega) (fun e => by have h3 : W.heap.size = cg := Option.some.inj e; omega)), ?_, Nat.le_trans hsz hg4.size⟩
                · have h3 : g3 = x := Option.some.inj e
                  rcases hxx with e2 | e2
                  · left; rw [← h3, e2]
                  · right; omega
                · rw [cs_snoc, List.length_append]; exact hown2
                · intro x hx'
                  rcases List.mem_append.1 hx' with h' | h'
                  · exact hdirs x h'
                  · rw [List.mem_singleton.1 h']; unfold kindOf; rw [hy]; exact hy2
                · rw [List.length_append]; simp only [List.length_cons, List.length_nil] at hbr ⊢; omega
                · exact hbw.trans ⟨hg4.os, hg4.tape, hg4.output, hg4.size, fun x hx => hg4.block x (by omega) (fun e => by have h3 : x = cg := Option.some.inj e; omega)⟩
              case measure => simp only [intOf, List.length_cons]; omega
            · rw [if_neg (by simp [hy2]), if_pos ⟨hy2, by simp⟩] at hRr
              have hdb : (kindOf (stOf L nb) mi == 2) = false := by rw [beq_eq_false_iff_ne, hky]; omega
              have hdc : (kindOf (stOf L nb) mi == 3) = true := by rw [beq_iff_eq, hky]; exact hy2
              by_cases hk88 : 8 ≤ k
              · rw [dif_pos hk88] at hRr
                have HR := Lib.hid hRr
                clear hRr
                go_wp2_with (first | (go_at_call 40; ((with_reducible refine (at_st hSr hw ha hla1 hla2).mono ?_); rintro e w' ⟨rfl, rfl⟩)) | (go_at_call 40; ((with_reducible refine (at_st hSr hw hac hmi1 hmi2).mono ?_); rintro e w' ⟨rfl, rfl⟩)) | (go_at_call 48; refine (isDir_any _ k0).mono ?_; rintro e w' ⟨rfl, rfl⟩; rw [hdb]))
                refine bodyPost_ret (v := .tuple #[.agg #[.slice none 0 0, .string { data := #[] }, .int .i64 0], .int .i64 162]) (goes_results rfl rfl (hplc.set3 _ _ _)) rfl ⟨?_, below_set3 hbw (Nat.le_refl _) _ _ _⟩
                first | rw [hR, ← HR.out] | rw [← HR.out]
                exact ⟨rfl, by decide⟩
              · rw [dif_neg hk88] at hRr
                have HT := textC y.text wr (by omega)
                cases htx : textP y.text with
                | error z =>
                  rw [htx] at hRr HT
                  have HR := Lib.hid hRr
                  clear hRr htx
                  go_wp2_with (first | (go_at_call 40; ((with_reducible refine (at_st hSr hw ha hla1 hla2).mono ?_); rintro e w' ⟨rfl, rfl⟩)) | (go_at_call 40; ((with_reducible refine (at_st hSr hw hac hmi1 hmi2).mono ?_); rintro e w' ⟨rfl, rfl⟩)) | (go_at_call 48; refine (isDir_any _ k0).mono ?_; rintro e w' ⟨rfl, rfl⟩; rw [hdb]) | (go_at_call 38; refine HT.mono ?_; rintro e w3 ⟨hb3, rfl, hzn⟩; have hzb := (bne_iff_ne.2 hzn); have z0 := (bcell hb3).1 W.heap.size 0 (by omega); have z1 := (bcell hb3).1 W.heap.size 1 (by omega); have z2 := (bcell hb3).1 W.heap.size 2 (by omega); rw [q0] at z0; rw [q1] at z1; rw [q2] at z2; have z3 := (bcell hb3).2 W.heap.size 0 (by omega); have z4 := (bcell hb3).2 W.heap.size 1 (by omega); have z5 := (bcell hb3).2 W.heap.size 2 (by omega); rw [y0] at z3; rw [y1] at z4; rw [y2] at z5))
                  have hplc3 := hplc.same (hb3.block W.heap.size (by omega))
                  have hbw3 : Below W.heap.size W w3 := hbw.trans ⟨hb3.os, hb3.tape, hb3.output, hb3.size, fun x hx => hb3.block x (by omega)⟩
                  refine bodyPost_ret (v := .tuple #[.agg #[.slice none 0 0, .string { data := #[] }, .int .i64 0], .int .i64 z]) (goes_results rfl rfl (hplc3.set3 _ _ _)) rfl ⟨?_, below_set3 hbw3 (Nat.le_refl _) _ _ _⟩
                  first | rw [hR, ← HR.out] | rw [← HR.out]
                  exact ⟨rfl, hzn⟩
                | ok q2 =>
                  obtain ⟨l2, top⟩ := q2
                  rw [htx] at hRr HT
                  obtain ⟨hlp, hll⟩ := textP_ok htx
                  have HNW : Hid (∀ w3, Below wr.heap.size wr w3 → ∀ ad, sv = some ad → ∀ j u, (strsV (c2 :: r2))[j]? = some u → w3.cell? (ad.add j) = some u) := by
                    refine Lib.hid fun w3 hb3 ad had j u hu => ?_
                    obtain ⟨ao5, c5, e5, _, hl5⟩ := Hst.out
                    cases e5
                    have hjl : j < (strsV (c2 :: r2)).length := (List.getElem?_eq_some_iff.1 hu).1
                    obtain ⟨g5, off5, e6, hg5, _, hc5⟩ := hl5 (by intro e; rw [e] at hjl; simp [strsV] at hjl)
                    rw [had] at e6
                    cases e6
                    have hjl' : j < ((c2 :: r2) : List Tx).length := by rw [strsV_len] at hjl; exact hjl
                    have h6 := hc5 j _ (List.getElem?_eq_getElem hjl')
                    rw [strsV_at (List.getElem?_eq_getElem hjl')] at hu
                    rw [← Option.some.inj hu]
                    rw [show Addr.add ⟨g5, off5, none⟩ j = ⟨g5, off5 + j, none⟩ by unfold Addr.add; split <;> simp_all]
                    exact ((bcell hb3).1 g5 (off5 + j) hg5).trans h6
                  have HR := Lib.hid hRr
                  clear hRr htx
                  cases top with
                  | false =>
                    go_wp2_with (first | (go_at_call 40; ((with_reducible refine (at_st hSr hw ha hla1 hla2).mono ?_); rintro e w' ⟨rfl, rfl⟩)) | (go_at_call 40; ((with_reducible refine (at_st hSr hw hac hmi1 hmi2).mono ?_); rintro e w' ⟨rfl, rfl⟩)) | (go_at_call 48; refine (isDir_any _ k0).mono ?_; rintro e w' ⟨rfl, rfl⟩; rw [hdb]) | (go_at_call 38; refine HT.mono ?_; rintro e w3 ⟨hb3, v3, rfl, hown3⟩; obtain ⟨ao3, c3', rfl, _⟩ := own_shape2 hown3) | (at_builtin; refine wpList_append_any _ rfl (.tmp 109) (.tmp 110) 40 rfl wr.heap.size 9 j0 (.string (mk [])) 1 16 Tryz.underlying40 hj hjz hjs hjb rfl (by decide) _ l2.length (strsV l2) rfl hown3 sv ((c2 :: r2) : List Tx).length (ca - 1) (strsV (c2 :: r2)) rfl (fun e => absurd e hsvn) (by simp [strsV]) (HNW.out _ hb3) (strs_one _) (by unfold maxLen; omega) (by omega) hb3.size ?_; intro v4 w4 hown4 hg4 hloc4; obtain ⟨ao4, c4', rfl, _⟩ := own_shape2 hown4))
                    have hv4 : ∀ g, (Value.slice ao4 (l2.length + ((c2 :: r2) : List Tx).length) c4').ownBlock = some g → wr.heap.size ≤ g := fun g e => row_ge hown4 e
                    have hb4 : Below wr.heap.size wr w4 := ⟨hg4.os.trans hb3.os, hg4.tape.trans hb3.tape, hg4.output.trans hb3.output, Nat.le_trans hb3.size hg4.size, fun x hx => (hg4.block x (Nat.lt_of_lt_of_le hx hb3.size) (fun e => by have := row_ge hown3 e.symm; omega)).trans (hb3.block x hx)⟩
                    have hbw4 : Below W.heap.size W w4 := hbw.trans ⟨hb4.os, hb4.tape, hb4.output, hb4.size, fun x hx => hb4.block x (by omega)⟩
                    rw [← strsV_app] at hown4
                    have hown5 : w4.ownsRow wr.heap.size 9 1 (.slice ao4 (l2.length + ((c2 :: r2) : List Tx).length) c4') (l2 ++ (c2 :: r2)).length (strsV (l2 ++ (c2 :: r2))) := by rw [List.length_append]; exact hown4
                    refine ⟨⟨l2 ++ (c2 :: r2), ch, k + 1, StrsAt.of_own hown5 ?_, own_below hown hb4, rfl, by omega, HR, hne, hdirs, ?_, ?_, hplc.same (hb4.block _ (by omega)), hbw4, Nat.le_trans hsz hb4.size⟩, ?_⟩
                    · cases e : (Value.slice ao4 (l2.length + ((c2 :: r2) : List Tx).length) c4').ownBlock with
                      | none => exact .inl rfl
                      | some g4 => right; intro e2; have h3 : cg = g4 := Option.some.inj e2; have := hv4 g4 e; omega
                    · rw [List.length_append]; omega
                    · intro p hp
                      rcases List.mem_append.1 hp with h' | h'
                      · have := hlp p h'; omega
                      · exact hpr p h'
                    · simp only [intOf, List.length_cons] at hbr ⊢; omega
                  | true =>
                    go_wp2_with (first | (go_at_call 40; ((with_reducible refine (at_st hSr hw ha hla1 hla2).mono ?_); rintro e w' ⟨rfl, rfl⟩)) | (go_at_call 40; ((with_reducible refine (at_st hSr hw hac hmi1 hmi2).mono ?_); rintro e w' ⟨rfl, rfl⟩)) | (go_at_call 48; refine (isDir_any _ k0).mono ?_; rintro e w' ⟨rfl, rfl⟩; rw [hdb]) | (go_at_call 38; refine HT.mono ?_; rintro e w3 ⟨hb3, v3, rfl, hown3⟩; obtain ⟨ao3, c3', rfl, _⟩ := own_shape2 hown3) | (at_builtin; refine wpList_append_any _ rfl (.tmp 109) (.tmp 110) 40 rfl wr.heap.size 9 j0 (.string (mk [])) 1 16 Tryz.underlying40 hj hjz hjs hjb rfl (by decide) _ l2.length (strsV l2) rfl hown3 sv ((c2 :: r2) : List Tx).length (ca - 1) (strsV (c2 :: r2)) rfl (fun e => absurd e hsvn) (by simp [strsV]) (HNW.out _ hb3) (strs_one _) (by unfold maxLen; omega) (by omega) hb3.size ?_; intro v4 w4 hown4 hg4 hloc4; obtain ⟨ao4, c4', rfl, _⟩ := own_shape2 hown4))
                    have hv4 : ∀ g, (Value.slice ao4 (l2.length + ((c2 :: r2) : List Tx).length) c4').ownBlock = some g → wr.heap.size ≤ g := fun g e => row_ge hown4 e
                    have hb4 : Below wr.heap.size wr w4 := ⟨hg4.os.trans hb3.os, hg4.tape.trans hb3.tape, hg4.output.trans hb3.output, Nat.le_trans hb3.size hg4.size, fun x hx => (hg4.block x (Nat.lt_of_lt_of_le hx hb3.size) (fun e => by have := row_ge hown3 e.symm; omega)).trans (hb3.block x hx)⟩
                    have hbw4 : Below W.heap.size W w4 := hbw.trans ⟨hb4.os, hb4.tape, hb4.output, hb4.size, fun x hx => hb4.block x (by omega)⟩
                    rw [← strsV_app] at hown4
                    have hown5 : w4.ownsRow wr.heap.size 9 1 (.slice ao4 (l2.length + ((c2 :: r2) : List Tx).length) c4') (l2 ++ (c2 :: r2)).length (strsV (l2 ++ (c2 :: r2))) := by rw [List.length_append]; exact hown4
                    have h6 := Blk.new w4 #[.int .i64 1] 3
                    refine ⟨⟨l2 ++ (c2 :: r2), [1], k + 1, (StrsAt.of_own (X := none) hown5 ?_).kept (by simp) (fun g hg _ => (((Below.refl w4.heap.size w4).alloc (Nat.le_refl _) _).block g hg)) (fun g e => .inr (Nat.le_of_eq (Option.some.inj e))), ?_, rfl, by omega, HR, by simp, fun i hi => by rw [List.mem_singleton.1 hi]; exact hG.root, ?_, ?_, (hplc.same (hb4.block _ (by omega))).same (((Below.refl w4.heap.size w4).alloc (Nat.le_refl _) _).block _ (by have := hb4.size; omega)), hbw4.alloc (by have := hbw4.size; omega) _, ?_⟩, ?_⟩
                    · cases e : (Value.slice ao4 (l2.length + ((c2 :: r2) : List Tx).length) c4').ownBlock with
                      | none => exact .inl rfl
                      | some g4 => exact .inr (by simp)
                    · exact ⟨rfl, .inr ⟨w4.heap.size, 1, #[.int .i64 1], rfl, by have := hb4.size; omega, h6, Nat.le_refl _, by unfold maxLen; omega, rfl, rfl⟩⟩
                    · rw [List.length_append, List.length_singleton]; omega
                    · intro p hp
                      rcases List.mem_append.1 hp with h' | h'
                      · have := hlp p h'; omega
                      · exact hpr p h'
                    · have := hb4.size; simp; omega
                    · simp only [intOf, List.length_cons] at hbr ⊢; omega
          · rcases hG.kinds mi y hy with hy2 | hy2 | hy2
            · rw [if_neg (by simp [hy2]), if_neg (by simp [hy2]), if_neg (by simp)] at hRr
              have hdb : (kindOf (stOf L nb) mi == 2) = false := by rw [beq_eq_false_iff_ne, hky]; omega
              have hdc : (kindOf (stOf L nb) mi == 3) = false := by rw [beq_eq_false_iff_ne, hky]; omega
              have HR := Lib.hid hRr
              clear hRr
              go_wp2_with (first | (go_at_call 40; ((with_reducible refine (at_st hSr hw ha hla1 hla2).mono ?_); rintro e w' ⟨rfl, rfl⟩)) | (go_at_call 40; ((with_reducible refine (at_st hSr hw hac hmi1 hmi2).mono ?_); rintro e w' ⟨rfl, rfl⟩)) | (go_at_call 48; refine (isDir_any _ k0).mono ?_; rintro e w' ⟨rfl, rfl⟩; rw [hdb]))
              refine bodyPost_ret (v := .tuple #[.agg #[.slice (some ⟨cg, 0, none⟩) ch.length cc, .string (mk c), .int .i64 mi], .int .i64 0]) (goes_results rfl rfl (hplc.set3 _ _ _)) rfl ⟨?_, below_set3 hbw (Nat.le_refl _) _ _ _⟩
              first | rw [hR, ← HR.out] | rw [← HR.out]
              exact ⟨_, rfl, row_base (own_set3 hown (by omega) _ _ _) (by omega)⟩
            · rw [if_neg (by simp [hy2]), if_neg (by simp [hy2]), if_neg (by simp)] at hRr
              have hdb : (kindOf (stOf L nb) mi == 2) = true := by rw [beq_iff_eq, hky]; exact hy2
              have hdc : (kindOf (stOf L nb) mi == 3) = false := by rw [beq_eq_false_iff_ne, hky]; omega
              have HR := Lib.hid hRr
              clear hRr
              go_wp2_with (first | (go_at_call 40; ((with_reducible refine (at_st hSr hw ha hla1 hla2).mono ?_); rintro e w' ⟨rfl, rfl⟩)) | (go_at_call 40; ((with_reducible refine (at_st hSr hw hac hmi1 hmi2).mono ?_); rintro e w' ⟨rfl, rfl⟩)) | (go_at_call 48; refine (isDir_any _ k0).mono ?_; rintro e w' ⟨rfl, rfl⟩; rw [hdb]))
              refine bodyPost_ret (v := .tuple #[.agg #[.slice (some ⟨cg, 0, none⟩) ch.length cc, .string (mk c), .int .i64 mi], .int .i64 0]) (goes_results rfl rfl (hplc.set3 _ _ _)) rfl ⟨?_, below_set3 hbw (Nat.le_refl _) _ _ _⟩
              first | rw [hR, ← HR.out] | rw [← HR.out]
              exact ⟨_, rfl, row_base (own_set3 hown (by omega) _ _ _) (by omega)⟩
            · cases follow with
              | true =>
                rw [if_neg (by simp [hy2]), if_pos ⟨hy2, by simp⟩] at hRr
                have hdb : (kindOf (stOf L nb) mi == 2) = false := by rw [beq_eq_false_iff_ne, hky]; omega
                have hdc : (kindOf (stOf L nb) mi == 3) = true := by rw [beq_iff_eq, hky]; exact hy2
                by_cases hk88 : 8 ≤ k
                · rw [dif_pos hk88] at hRr
                  have HR := Lib.hid hRr
                  clear hRr
                  go_wp2_with (first | (go_at_call 40; ((with_reducible refine (at_st hSr hw ha hla1 hla2).mono ?_); rintro e w' ⟨rfl, rfl⟩)) | (go_at_call 40; ((with_reducible refine (at_st hSr hw hac hmi1 hmi2).mono ?_); rintro e w' ⟨rfl, rfl⟩)) | (go_at_call 48; refine (isDir_any _ k0).mono ?_; rintro e w' ⟨rfl, rfl⟩; rw [hdb]))
                  refine bodyPost_ret (v := .tuple #[.agg #[.slice none 0 0, .string { data := #[] }, .int .i64 0], .int .i64 162]) (goes_results rfl rfl (hplc.set3 _ _ _)) rfl ⟨?_, below_set3 hbw (Nat.le_refl _) _ _ _⟩
                  first | rw [hR, ← HR.out] | rw [← HR.out]
                  exact ⟨rfl, by decide⟩
                · rw [dif_neg hk88] at hRr
                  have HT := textC y.text wr (by omega)
                  cases htx : textP y.text with
                  | error z =>
                    rw [htx] at hRr HT
                    have HR := Lib.hid hRr
                    clear hRr htx
                    go_wp2_with (first | (go_at_call 40; ((with_reducible refine (at_st hSr hw ha hla1 hla2).mono ?_); rintro e w' ⟨rfl, rfl⟩)) | (go_at_call 40; ((with_reducible refine (at_st hSr hw hac hmi1 hmi2).mono ?_); rintro e w' ⟨rfl, rfl⟩)) | (go_at_call 48; refine (isDir_any _ k0).mono ?_; rintro e w' ⟨rfl, rfl⟩; rw [hdb]) | (go_at_call 38; refine HT.mono ?_; rintro e w3 ⟨hb3, rfl, hzn⟩; have hzb := (bne_iff_ne.2 hzn); have z0 := (bcell hb3).1 W.heap.size 0 (by omega); have z1 := (bcell hb3).1 W.heap.size 1 (by omega); have z2 := (bcell hb3).1 W.heap.size 2 (by omega); rw [q0] at z0; rw [q1] at z1; rw [q2] at z2; have z3 := (bcell hb3).2 W.heap.size 0 (by omega); have z4 := (bcell hb3).2 W.heap.size 1 (by omega); have z5 := (bcell hb3).2 W.heap.size 2 (by omega); rw [y0] at z3; rw [y1] at z4; rw [y2] at z5))
                    have hplc3 := hplc.same (hb3.block W.heap.size (by omega))
                    have hbw3 : Below W.heap.size W w3 := hbw.trans ⟨hb3.os, hb3.tape, hb3.output, hb3.size, fun x hx => hb3.block x (by omega)⟩
                    refine bodyPost_ret (v := .tuple #[.agg #[.slice none 0 0, .string { data := #[] }, .int .i64 0], .int .i64 z]) (goes_results rfl rfl (hplc3.set3 _ _ _)) rfl ⟨?_, below_set3 hbw3 (Nat.le_refl _) _ _ _⟩
                    first | rw [hR, ← HR.out] | rw [← HR.out]
                    exact ⟨rfl, hzn⟩
                  | ok q2 =>
                    obtain ⟨l2, top⟩ := q2
                    rw [htx] at hRr HT
                    obtain ⟨hlp, hll⟩ := textP_ok htx
                    have HNW : Hid (∀ w3, Below wr.heap.size wr w3 → ∀ ad, sv = some ad → ∀ j u, (strsV [])[j]? = some u → w3.cell? (ad.add j) = some u) := by
                      refine Lib.hid fun w3 hb3 ad had j u hu => ?_
                      obtain ⟨ao5, c5, e5, _, hl5⟩ := Hst.out
                      cases e5
                      have hjl : j < (strsV []).length := (List.getElem?_eq_some_iff.1 hu).1
                      obtain ⟨g5, off5, e6, hg5, _, hc5⟩ := hl5 (by intro e; rw [e] at hjl; simp [strsV] at hjl)
                      rw [had] at e6
                      cases e6
                      have hjl' : j < ([] : List Tx).length := by rw [strsV_len] at hjl; exact hjl
                      have h6 := hc5 j _ (List.getElem?_eq_getElem hjl')
                      rw [strsV_at (List.getElem?_eq_getElem hjl')] at hu
                      rw [← Option.some.inj hu]
                      rw [show Addr.add ⟨g5, off5, none⟩ j = ⟨g5, off5 + j, none⟩ by unfold Addr.add; split <;> simp_all]
                      exact ((bcell hb3).1 g5 (off5 + j) hg5).trans h6
                    have HR := Lib.hid hRr
                    clear hRr htx
                    cases top with
                    | false =>
                      go_wp2_with (first | (go_at_call 40; ((with_reducible refine (at_st hSr hw ha hla1 hla2).mono ?_); rintro e w' ⟨rfl, rfl⟩)) | (go_at_call 40; ((with_reducible refine (at_st hSr hw hac hmi1 hmi2).mono ?_); rintro e w' ⟨rfl, rfl⟩)) | (go_at_call 48; refine (isDir_any _ k0).mono ?_; rintro e w' ⟨rfl, rfl⟩; rw [hdb]) | (go_at_call 38; refine HT.mono ?_; rintro e w3 ⟨hb3, v3, rfl, hown3⟩; obtain ⟨ao3, c3', rfl, _⟩ := own_shape2 hown3) | (at_builtin; refine wpList_append_any _ rfl (.tmp 109) (.tmp 110) 40 rfl wr.heap.size 9 j0 (.string (mk [])) 1 16 Tryz.underlying40 hj hjz hjs hjb rfl (by decide) _ l2.length (strsV l2) rfl hown3 sv ([] : List Tx).length (ca - 1) (strsV []) rfl (fun e => absurd e hsvn) (by simp [strsV]) (HNW.out _ hb3) (strs_one _) (by unfold maxLen; omega) (by omega) hb3.size ?_; intro v4 w4 hown4 hg4 hloc4; obtain ⟨ao4, c4', rfl, _⟩ := own_shape2 hown4))
                      have hv4 : ∀ g, (Value.slice ao4 (l2.length + ([] : List Tx).length) c4').ownBlock = some g → wr.heap.size ≤ g := fun g e => row_ge hown4 e
                      have hb4 : Below wr.heap.size wr w4 := ⟨hg4.os.trans hb3.os, hg4.tape.trans hb3.tape, hg4.output.trans hb3.output, Nat.le_trans hb3.size hg4.size, fun x hx => (hg4.block x (Nat.lt_of_lt_of_le hx hb3.size) (fun e => by have := row_ge hown3 e.symm; omega)).trans (hb3.block x hx)⟩
                      have hbw4 : Below W.heap.size W w4 := hbw.trans ⟨hb4.os, hb4.tape, hb4.output, hb4.size, fun x hx => hb4.block x (by omega)⟩
                      rw [← strsV_app] at hown4
                      have hown5 : w4.ownsRow wr.heap.size 9 1 (.slice ao4 (l2.length + ([] : List Tx).length) c4') (l2 ++ []).length (strsV (l2 ++ [])) := by rw [List.length_append]; exact hown4
                      refine ⟨⟨l2 ++ [], ch, k + 1, StrsAt.of_own hown5 ?_, own_below hown hb4, rfl, by omega, HR, hne, hdirs, ?_, ?_, hplc.same (hb4.block _ (by omega)), hbw4, Nat.le_trans hsz hb4.size⟩, ?_⟩
                      · cases e : (Value.slice ao4 (l2.length + ([] : List Tx).length) c4').ownBlock with
                        | none => exact .inl rfl
                        | some g4 => right; intro e2; have h3 : cg = g4 := Option.some.inj e2; have := hv4 g4 e; omega
                      · rw [List.length_append]; omega
                      · intro p hp
                        rcases List.mem_append.1 hp with h' | h'
                        · have := hlp p h'; omega
                        · exact hpr p h'
                      · simp only [intOf, List.length_cons] at hbr ⊢; omega
                    | true =>
                      go_wp2_with (first | (go_at_call 40; ((with_reducible refine (at_st hSr hw ha hla1 hla2).mono ?_); rintro e w' ⟨rfl, rfl⟩)) | (go_at_call 40; ((with_reducible refine (at_st hSr hw hac hmi1 hmi2).mono ?_); rintro e w' ⟨rfl, rfl⟩)) | (go_at_call 48; refine (isDir_any _ k0).mono ?_; rintro e w' ⟨rfl, rfl⟩; rw [hdb]) | (go_at_call 38; refine HT.mono ?_; rintro e w3 ⟨hb3, v3, rfl, hown3⟩; obtain ⟨ao3, c3', rfl, _⟩ := own_shape2 hown3) | (at_builtin; refine wpList_append_any _ rfl (.tmp 109) (.tmp 110) 40 rfl wr.heap.size 9 j0 (.string (mk [])) 1 16 Tryz.underlying40 hj hjz hjs hjb rfl (by decide) _ l2.length (strsV l2) rfl hown3 sv ([] : List Tx).length (ca - 1) (strsV []) rfl (fun e => absurd e hsvn) (by simp [strsV]) (HNW.out _ hb3) (strs_one _) (by unfold maxLen; omega) (by omega) hb3.size ?_; intro v4 w4 hown4 hg4 hloc4; obtain ⟨ao4, c4', rfl, _⟩ := own_shape2 hown4))
                      have hv4 : ∀ g, (Value.slice ao4 (l2.length + ([] : List Tx).length) c4').ownBlock = some g → wr.heap.size ≤ g := fun g e => row_ge hown4 e
                      have hb4 : Below wr.heap.size wr w4 := ⟨hg4.os.trans hb3.os, hg4.tape.trans hb3.tape, hg4.output.trans hb3.output, Nat.le_trans hb3.size hg4.size, fun x hx => (hg4.block x (Nat.lt_of_lt_of_le hx hb3.size) (fun e => by have := row_ge hown3 e.symm; omega)).trans (hb3.block x hx)⟩
                      have hbw4 : Below W.heap.size W w4 := hbw.trans ⟨hb4.os, hb4.tape, hb4.output, hb4.size, fun x hx => hb4.block x (by omega)⟩
                      rw [← strsV_app] at hown4
                      have hown5 : w4.ownsRow wr.heap.size 9 1 (.slice ao4 (l2.length + ([] : List Tx).length) c4') (l2 ++ []).length (strsV (l2 ++ [])) := by rw [List.length_append]; exact hown4
                      have h6 := Blk.new w4 #[.int .i64 1] 3
                      refine ⟨⟨l2 ++ [], [1], k + 1, (StrsAt.of_own (X := none) hown5 ?_).kept (by simp) (fun g hg _ => (((Below.refl w4.heap.size w4).alloc (Nat.le_refl _) _).block g hg)) (fun g e => .inr (Nat.le_of_eq (Option.some.inj e))), ?_, rfl, by omega, HR, by simp, fun i hi => by rw [List.mem_singleton.1 hi]; exact hG.root, ?_, ?_, (hplc.same (hb4.block _ (by omega))).same (((Below.refl w4.heap.size w4).alloc (Nat.le_refl _) _).block _ (by have := hb4.size; omega)), hbw4.alloc (by have := hbw4.size; omega) _, ?_⟩, ?_⟩
                      · cases e : (Value.slice ao4 (l2.length + ([] : List Tx).length) c4').ownBlock with
                        | none => exact .inl rfl
                        | some g4 => exact .inr (by simp)
                      · exact ⟨rfl, .inr ⟨w4.heap.size, 1, #[.int .i64 1], rfl, by have := hb4.size; omega, h6, Nat.le_refl _, by unfold maxLen; omega, rfl, rfl⟩⟩
                      · rw [List.length_append, List.length_singleton]; omega
                      · intro p hp
                        rcases List.mem_append.1 hp with h' | h'
                        · have := hlp p h'; omega
                        · exact hpr p h'
                      · have := hb4.size; simp; omega
                      · simp only [intOf, List.length_cons] at hbr ⊢; omega
              | false =>
                rw [if_neg (by simp [hy2]), if_neg (by simp [hy2]), if_neg (by simp)] at hRr
                have hdb : (kindOf (stOf L nb) mi == 2) = false := by rw [beq_eq_false_iff_ne, hky]; omega
                have hdc : (kindOf (stOf L nb) mi == 3) = true := by rw [beq_iff_eq, hky]; exact hy2
                have HR := Lib.hid hRr
                clear hRr
                go_wp2_with (first | (go_at_call 40; ((with_reducible refine (at_st hSr hw ha hla1 hla2).mono ?_); rintro e w' ⟨rfl, rfl⟩)) | (go_at_call 40; ((with_reducible refine (at_st hSr hw hac hmi1 hmi2).mono ?_); rintro e w' ⟨rfl, rfl⟩)) | (go_at_call 48; refine (isDir_any _ k0).mono ?_; rintro e w' ⟨rfl, rfl⟩; rw [hdb]))
                refine bodyPost_ret (v := .tuple #[.agg #[.slice (some ⟨cg, 0, none⟩) ch.length cc, .string (mk c), .int .i64 mi], .int .i64 0]) (goes_results rfl rfl (hplc.set3 _ _ _)) rfl ⟨?_, below_set3 hbw (Nat.le_refl _) _ _ _⟩
                first | rw [hR, ← HR.out] | rw [← HR.out]
                exact ⟨_, rfl, row_base (own_set3 hown (by omega) _ _ _) (by omega)⟩
end
end Fs
end Go.Proofs.YtlnnbjgfpiefdaaGreat
