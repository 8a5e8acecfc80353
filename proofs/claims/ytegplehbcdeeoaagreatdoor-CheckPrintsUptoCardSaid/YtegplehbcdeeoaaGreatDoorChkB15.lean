/- The reference's disk: an image and nothing done to it. -/
import Derived.Test.YtegplehbcdeeoaaGreatDoorChkB14
import Derived.Deep.DeepMust
import Derived.Deep.RegionHeld3
import Derived.BigQuiet
namespace Go.Proofs.YtegplehbcdeeoaaGreatDoor
open Go.RowKit

namespace Ck
open Pk Pw
/-- b = append(b, x...), b bytes that the call owns, x bytes where they lie. -/
theorem wpList_append_seen (W : World) {ops : Array Oper} {rest : List Oper} {o : Oper} {a : Act} {Q : Exit → Act → World → Prop} (hgd : o.guard = none) (s x : Operand)
    (ho : o.op = .call { callee := .builtin .append, args := #[s, x], argTypes := #[24, 24] }) (base : Nat) (v : Value) (l k : B) (n m g off cap : Nat) (hn : n = l.length) (hm : m = k.length)
    (hs : a.eval s = v) (hown : W.ownsRow base 5 1 v n (bytesV l)) (hx : a.eval x = .slice (some ⟨g, off, none⟩) m cap) (hk : SeenAt W g off k)
    (hlen : l.length + k.length ≤ 140737488355328) (hbase : base ≤ W.heap.size)
    (h : ∀ v' w', w'.ownsRow base 5 1 v' (n + m) (bytesV (l ++ k)) → W.grownBy w' v.ownBlock → (v'.ownBlock = v.ownBlock ∨ ∃ g, v'.ownBlock = some g ∧ W.heap.size ≤ g) → wpList Tryz.prog ops Q rest (a.put o.dst v') w') :
    wpList Tryz.prog ops Q (o :: rest) a W := by
  obtain ⟨i0, hi, hz0, hz1, hz2⟩ := info_parts byT.info
  subst hn; subst hm
  refine wpList_append_own_at _ hgd s x 24 ho base 5 i0 (.int .u8 0) 1 1 byT.und hi hz0 hz1 hz2 rfl (by decide) v _ _ hs hown ⟨g, off, none⟩ k.length cap (bytesV k) hx (by simp [bytesV]) ?_ (bytesV_one k) (by unfold maxLen; omega) (by omega) hbase ?_
  · intro j u hj
    rw [addr_plain]
    unfold bytesV at hj
    rw [List.getElem?_map] at hj
    cases hc : k[j]? with
    | none => rw [hc] at hj; cases hj
    | some c => rw [hc] at hj; cases hj; exact hk j c hc
  · intro v' w' ho' hg' _ hat
    rw [← bytesV_app] at ho'
    refine h v' w' ho' hg' ?_
    rcases hat with e | e
    · exact .inl e
    · exact .inr ⟨_, e, Nat.le_refl _⟩
set_option maxRecDepth 100000 in
theorem copied_any (l : B) (n g o cap : Nat) (w : World) (hn : n = l.length) (hs : SeenAt w g o l) (hl : l.length ≤ 100000000000000) : Calls Tryz.prog 72 #[.slice (some ⟨g, o, none⟩) n cap] w fun e w' => ∃ v, e = .returned v ∧ w'.ownsRow w.heap.size 5 1 v n (bytesV l) ∧ Below w.heap.size w w' := by
  go_enter Tryz.func72, Tryz.ntmps72
  go_wp2_with (at_builtin; refine wpList_append_seen w rfl _ _ rfl w.heap.size (.slice none 0 0) [] l 0 n g o cap rfl hn (by rfl) (World.ownsRow_nil _ _ _ _) (by rfl) hs (by simp; omega) (Nat.le_refl _) ?_; intro v1 w1 ho1 hg1 hat1)
  go_ret
  rw [List.nil_append, Nat.zero_add] at ho1
  exact ⟨_, rfl, ho1, (Below.refl _ _).grown hg1 (Nat.le_refl _) (by intro k hk; cases hk)⟩
def rdC (g n cap : Nat) : Array Value := #[.slice (some ⟨g, 0, none⟩) n cap, .slice none 0 0, .slice none 0 0, .int .i64 0, .bool false, .int .i64 0, .int .i64 0]
/-- A reference's disk of the image l. -/
structure RDisk (W : World) (d g cap : Nat) (l : B) : Prop where
  d : Blk W d (rdC g l.length cap) 125
  s : SeenAt W g 0 l
  lt : g < W.heap.size
  cp : l.length ≤ cap
  le : l.length ≤ 100000000000000
theorem RDisk.below {W W' : World} {d g cap : Nat} {l : B} (h : RDisk W d g cap l) (hb : Below W.heap.size W W') : RDisk W' d g cap l :=
  ⟨h.d.same (hb.block _ h.d.lt), h.s.below h.lt hb, Nat.lt_of_lt_of_le h.lt hb.size, h.cp, h.le⟩
set_option maxRecDepth 100000 in
set_option maxHeartbeats 2000000 in
theorem refDisk_any (l : B) (n g o cap : Nat) (w : World) (hn : n = l.length) (hs : SeenAt w g o l) (h0 : 0 < n) (hm : n % 512 = 0) (hq : n / 512 ≤ 16384) : Calls Tryz.prog 39 #[.slice (some ⟨g, o, none⟩) n cap] w fun e w' => ∃ d g' cap', e = .returned (.tuple #[.pointer (some ⟨d, 0, none⟩), .int .i64 0]) ∧ RDisk w' d g' cap' l ∧ Below w.heap.size w w' := by
  have HC := copied_any l n g o cap w hn hs (by omega)
  have a0 : (n == 0) = false := by rw [beq_eq_false_iff_ne]; omega
  have a01 : ((n : Int) == 0) = false := by rw [beq_eq_false_iff_ne]; omega
  have a02 : ¬ (n : Int) = 0 := by omega
  have a03 : ¬ n = 0 := by omega
  replace hn := Lib.hid hn
  have a1 : (n : Int) % 512 = 0 := by omega
  have a2 : ¬ 16384 < (n : Int) / 512 := by omega
  go_enter Tryz.func39, Tryz.ntmps39
  go_wp2_with fail
  refine HC.mono ?_
  clear HC
  rintro e w1 ⟨v, rfl, hown, hb1⟩
  obtain ⟨g1, cap1, rfl⟩ := own_form hown (by omega)
  go_wp2_with fail
  go_ret2
  have hD := Blk.new w1 (rdC g1 n cap1) 125
  have hB := (Below.refl w1.heap.size w1).alloc (Nat.le_refl _) (.cells (rdC g1 n cap1) 125)
  have hg1 := own_lt hown (g := g1) rfl
  refine ⟨_, g1, cap1, rfl, ⟨by rw [← hn.out]; exact hD, (SeenAt.of_own hown).below hg1.2 hB, ?_, ?_, ?_⟩, hb1.alloc hb1.size _⟩
  · simp
    omega
  · obtain ⟨g3, cap3, e3, _, _, h3, _⟩ := own_at hown (by omega)
    cases e3
    have := hn.out
    omega
  · have := hn.out
    omega
theorem refBlocks_any {W : World} {d g cap : Nat} {l : B} (h : RDisk W d g cap l) : Calls Tryz.prog 74 #[.pointer (some ⟨d, 0, none⟩)] W fun e w' => e = .returned (.int .i64 (l.length / 512 : Nat)) ∧ W = w' := by
  have z0 := h.d.cell 0
  replace z0 : W.cell? ⟨d, 0, none⟩ = some (.slice (some ⟨g, 0, none⟩) l.length cap) := z0
  have hle := h.le
  have hw := IntWalk.wrap64_in (n := (l.length : Int) / 512) (by omega)
  go_enter Tryz.func74, Tryz.ntmps74
  go_wp2_with fail
  go_ret
  exact ⟨rfl, rfl⟩
set_option maxRecDepth 100000 in
theorem refBlock_any {W : World} {d g cap : Nat} {l : B} (h : RDisk W d g cap l) (i : Nat) (hi : 512 * i + 512 ≤ l.length) : Calls Tryz.prog 75 #[.pointer (some ⟨d, 0, none⟩), .int .i64 i] W
    fun e w' => ∃ v, e = .returned (.tuple #[v, .int .i64 0]) ∧ w'.ownsRow W.heap.size 5 1 v 512 (bytesV (sub l (512 * i) 512)) ∧ Below W.heap.size W w' := by
  have HB := refBlocks_any h
  have z0 := h.d.cell 0
  replace z0 : W.cell? ⟨d, 0, none⟩ = some (.slice (some ⟨g, 0, none⟩) l.length cap) := z0
  have z1 := h.d.cell 1
  replace z1 : W.cell? ⟨d, 1, none⟩ = some (.slice none 0 0) := z1
  have z4 := h.d.cell 4
  replace z4 : W.cell? ⟨d, 4, none⟩ = some (.bool false) := z4
  have hcp := h.cp
  have hle := h.le
  have p0 : ¬ (i : Int) < 0 := by omega
  have p1 : ¬ ((l.length : Int) / 512) ≤ i := by omega
  have q1 : (0 : Int) ≤ (i : Int) * 512 := by omega
  have q2 : (i : Int) * 512 ≤ (i : Int) * 512 + 512 := by omega
  have q3 : (i : Int) * 512 + 512 ≤ (cap : Int) := by omega
  have q4 : ((i : Int) * 512).toNat = 512 * i := by omega
  have q5 : ((i : Int) * 512 + 512).toNat = 512 * i + 512 := by omega
  have q6 : ¬ cap = 512 * i := by omega
  have HC := copied_any (sub l (512 * i) 512) 512 g (512 * i) (cap - 512 * i) W (by rw [sub_len hi]) (by simpa using h.s.part (512 * i) 512) (by rw [sub_len hi]; omega)
  rw [show ((l.length / 512 : Nat) : Int) = (l.length : Int) / 512 by omega] at HB
  go_enter Tryz.func75, Tryz.ntmps75
  go_wp2_with (refine HB.mono ?_; rintro e w2 ⟨rfl, rfl⟩)
  go_loopw [6] (fun iv wr => iv = .int .i64 (-1) ∧ wr = W) (fun _ _ => 0)
  case atStart => exact ⟨rfl, rfl⟩
  case round =>
    obtain ⟨rfl, rfl⟩ := hrel
    go_wp2_with (refine HC.mono ?_; rintro e w2 ⟨v, rfl, hown, hbl⟩)
    go_ret2
    exact ⟨_, rfl, hown, hbl⟩
end Ck
end Go.Proofs.YtegplehbcdeeoaaGreatDoor
/- Small walks of the reference: are all bytes zero, an empty header, a number between two. -/
namespace Go.Proofs.YtegplehbcdeeoaaGreatDoor
open Go.RowKit

namespace Ck
open Pk Pw
theorem zero_take {l : B} {k : Nat} {c : UInt8} (h : l[k]? = some c) (h0 : allZero (l.take k) = true) (hc : c = 0) : allZero (l.take (k + 1)) = true := by
  unfold allZero at *
  rw [List.take_add_one, h, List.all_append, h0, hc]
  rfl
theorem zero_not {l : B} {k : Nat} {c : UInt8} (h : l[k]? = some c) (hc : ¬ c = 0) : allZero l = false := by
  unfold allZero
  rw [List.all_eq_false]
  exact ⟨c, List.mem_of_getElem? h, by simpa using hc⟩
set_option maxRecDepth 100000 in
theorem refZero_any (l : B) (g o cap n : Nat) (w : World) (hn : n = l.length) (hl : l.length ≤ 1000000000000000) (hs : SeenAt w g o l) : Calls Tryz.prog 80 #[.slice (some ⟨g, o, none⟩) n cap] w fun e w' => e = .returned (.bool (allZero l)) ∧ w = w' := by
  subst hn
  go_enter Tryz.func80, Tryz.ntmps80
  go_wp2
  go_loopw [3] (fun i wr => wr = w ∧ ∃ k : Nat, k ≤ l.length ∧ i = .int .i64 k ∧ allZero (l.take k) = true) (fun i _ => l.length - (intOf i).toNat)
  case atStart => exact ⟨rfl, 0, Nat.zero_le _, rfl, rfl⟩
  case round =>
    obtain ⟨rfl, k, hk, rfl, hc⟩ := hrel
    by_cases hlt : k < l.length
    · have hki : (k : Int) < (l.length : Int) := by omega
      obtain ⟨c, hf⟩ : ∃ c, l[k]? = some c := ⟨_, List.getElem?_eq_getElem hlt⟩
      have e0 := hs k c hf
      by_cases h0 : c = 0
      · have hct := Lib.hid (zero_take hf hc h0)
        subst h0
        replace e0 : wr.cell? ⟨g, o + k, none⟩ = some (.int .u8 0) := e0
        clear hf hc hs
        go_wp2_with fail
        go_roundw
        case rel => exact ⟨by first | rfl | trivial, k + 1, by omega, by go_num, hct.out⟩
        case measure => simp only [intOf]; omega
      · have hci := Lib.hid (zero_not hf h0)
        have h0b : ((c.toNat : Int) == 0) = false := by
          rw [beq_eq_false_iff_ne]
          intro e
          exact h0 (UInt8.toNat_inj.1 (by show c.toNat = 0; omega))
        clear hf hc hs
        go_wp2_with fail
        go_ret
        exact ⟨by rw [hci.out]; rfl, rfl⟩
    · have hki : ¬ (k : Int) < (l.length : Int) := by omega
      obtain rfl : k = l.length := by omega
      rw [List.take_length] at hc
      replace hc := Lib.hid hc
      clear hs
      go_wp2_with fail
      go_ret
      exact ⟨by rw [hc.out]; rfl, rfl⟩
theorem own_slice2 {base : Nat} {e : TypeId} {k : Nat} {v : Value} {n : Nat} {xs : List Value} {w : World} (h : w.ownsRow base e k v n xs) : ∃ ao cap, v = .slice ao n cap := by
  rcases h.2 with ⟨rfl, rfl⟩ | ⟨g, cap, cur, rfl, _⟩
  · exact ⟨none, 0, rfl⟩
  · exact ⟨_, cap, rfl⟩
set_option maxRecDepth 100000 in
theorem refEmpty_any (w : World) : Calls Tryz.prog 76 #[] w fun e w' => ∃ v, e = .returned v ∧ w'.ownsRow w.heap.size 5 1 v 512 (bytesV (zs 512)) ∧ Below w.heap.size w w' := by
  go_enter Tryz.func76, Tryz.ntmps76
  go_wp2
  go_loopw [1] (fun b wr => ∃ k : Nat, k ≤ 512 ∧ Hid (wr.ownsRow w.heap.size 5 1 b k (bytesV (zs k)) ∧ Below w.heap.size w wr)) (fun b _ => 512 - lenV b)
  case atStart => exact ⟨0, by omega, Lib.hid ⟨World.ownsRow_nil _ _ _ _, Below.refl _ _⟩⟩
  case round =>
    obtain ⟨k, hk, hH⟩ := hrel
    obtain ⟨hown, hbl⟩ := hH.out
    obtain ⟨ao, cap, rfl⟩ := own_slice2 hown
    by_cases c : k < 512
    · have hci : (k : Int) < 512 := by omega
      have hzs := Lib.hid (show zs k ++ [0] = zs (k + 1) from (List.replicate_succ' (n := k) (a := (0 : UInt8))).symm)
      have hbb := Lib.hid (fun V (hg : wr.grownBy V (Value.slice ao k cap).ownBlock) => hbl.grown hg hbl.size (fun j hj => (own_lt hown hj).1))
      have hsz := hbl.size
      go_wp2_with (at_builtin; refine wpList_append_bytes byT wr rfl _ _ rfl _ w.heap.size _ (zs k) [0] 1 rfl rfl (by rfl) (by rw [zs_len]; exact hown) (by rfl) (by rw [zs_len]; simp; omega) hsz ?_; intro v6 w6 ho6 hg6 hat6)
      rw [hzs.out, zs_len] at ho6
      obtain ⟨ao6, cap6, rfl⟩ := own_slice2 ho6
      go_roundw
      case rel => exact ⟨k + 1, by omega, Lib.hid ⟨ho6, hbb.out _ hg6⟩⟩
      case measure => simp only [lenV]; omega
    · obtain rfl : k = 512 := by omega
      clear hH
      replace hown := Lib.hid hown
      replace hbl := Lib.hid hbl
      go_wp2_with fail
      go_ret
      exact ⟨_, rfl, hown.out, hbl.out⟩
theorem refWithin_any (a b c : Int) (w : World) : Calls Tryz.prog 169 #[.int .i64 a, .int .i64 b, .int .i64 c] w fun e w' => e = .returned (.bool (decide (b ≤ a) && decide (a ≤ c))) ∧ w = w' := by
  by_cases h : b ≤ a
  · by_cases k : a ≤ c
    · go_enter Tryz.func169, Tryz.ntmps169
      go_wp2_with fail
      go_ret
      exact ⟨by simp [h, k], rfl⟩
    · go_enter Tryz.func169, Tryz.ntmps169
      go_wp2_with fail
      go_ret
      exact ⟨by simp [k], rfl⟩
  · go_enter Tryz.func169, Tryz.ntmps169
    go_wp2_with fail
    go_ret
    exact ⟨by simp; omega, rfl⟩
end Ck
end Go.Proofs.YtegplehbcdeeoaaGreatDoor
/- The reference reads a number of four bytes. -/
namespace Go.Proofs.YtegplehbcdeeoaaGreatDoor
open Go.RowKit

namespace Ck
open Pk Pw
set_option maxRecDepth 100000 in
set_option maxHeartbeats 2000000 in
theorem refNum4_any (l : B) (g o cap n at' : Nat) (w : World) (hn : at' + 4 ≤ n) (hl : n = l.length) (hle : l.length ≤ 1000000000000000) (hs : SeenAt w g o l) : Calls Tryz.prog 146 #[.slice (some ⟨g, o, none⟩) n cap, .int .i64 at'] w fun e w' => e = .returned (.int .i64 (val (sub l at' 4) : Nat)) ∧ w' = w.drew := by
  obtain ⟨c0, h0⟩ : ∃ c, l[at']? = some c := ⟨_, List.getElem?_eq_getElem (by omega)⟩
  obtain ⟨c1, h1⟩ : ∃ c, l[at' + 1]? = some c := ⟨_, List.getElem?_eq_getElem (by omega)⟩
  obtain ⟨c2, h2⟩ : ∃ c, l[at' + 2]? = some c := ⟨_, List.getElem?_eq_getElem (by omega)⟩
  obtain ⟨c3, h3⟩ : ∃ c, l[at' + 3]? = some c := ⟨_, List.getElem?_eq_getElem (by omega)⟩
  have e0 := hs _ _ h0
  have e1 := hs _ _ h1
  have e2 := hs _ _ h2
  have e3 := hs _ _ h3
  have b0 := c0.toNat_lt
  have b1 := c1.toNat_lt
  have b2 := c2.toNat_lt
  have b3 := c3.toNat_lt
  have hv : Hid (((val (sub l at' 4) : Nat) : Int) = (c0.toNat : Int) + c1.toNat * 256 + c2.toNat * 65536 + c3.toNat * 16777216) := by
    refine Lib.hid ?_
    have : sub l at' 4 = [c0, c1, c2, c3] := by
      apply List.ext_getElem?
      intro j
      by_cases hj : j < 4
      · rw [sub_get hj]
        match j, hj with
        | 0, _ => exact h0
        | 1, _ => exact h1
        | 2, _ => exact h2
        | 3, _ => exact h3
      · rw [List.getElem?_eq_none (by rw [sub_len (by omega)]; omega), List.getElem?_eq_none (by simp; omega)]
    rw [this]
    simp [val]
    omega
  have hnl : n ≤ 1000000000000000 := by omega
  have a0 : (at' : Int) < n := by omega
  have p0 : (0 : Int) ≤ (at' : Int) := by omega
  have a1 : (at' : Int) + 1 < n := by omega
  have a2 : (at' : Int) + 2 < n := by omega
  have a3 : (at' : Int) + 3 < n := by omega
  have t1 : ((at' : Int) + 1).toNat = at' + 1 := by omega
  have t2 : ((at' : Int) + 2).toNat = at' + 2 := by omega
  have t3 : ((at' : Int) + 3).toNat = at' + 3 := by omega
  clear h0 h1 h2 h3 hs hl
  go_enter Tryz.func146, Tryz.ntmps146
  go_wp2_with fail
  go_region
  all_goals
    go_wp2_with fail
    go_ret
    exact ⟨by rw [hv.out]; rfl, rfl⟩
set_option maxRecDepth 100000 in
set_option maxHeartbeats 2000000 in
theorem refNum14_any (l : B) (g o cap n : Nat) (w : World) (hn : 4 ≤ n) (hl : n = l.length) (hle : l.length ≤ 1000000000000000) (hs : SeenAt w g o l) : Calls Tryz.prog 171 #[.slice (some ⟨g, o, none⟩) n cap] w fun e w' => e = .returned (.int .i64 (val (sub l 0 4) : Nat)) ∧ w' = w.drew := by
  obtain ⟨c0, h0⟩ : ∃ c, l[0]? = some c := ⟨_, List.getElem?_eq_getElem (by omega)⟩
  obtain ⟨c1, h1⟩ : ∃ c, l[1]? = some c := ⟨_, List.getElem?_eq_getElem (by omega)⟩
  obtain ⟨c2, h2⟩ : ∃ c, l[2]? = some c := ⟨_, List.getElem?_eq_getElem (by omega)⟩
  obtain ⟨c3, h3⟩ : ∃ c, l[3]? = some c := ⟨_, List.getElem?_eq_getElem (by omega)⟩
  have e0 := hs _ _ h0
  have e1 := hs _ _ h1
  have e2 := hs _ _ h2
  have e3 := hs _ _ h3
  have b0 := c0.toNat_lt
  have b1 := c1.toNat_lt
  have b2 := c2.toNat_lt
  have b3 := c3.toNat_lt
  have hv : Hid (((val (sub l 0 4) : Nat) : Int) = (c0.toNat : Int) + c1.toNat * 256 + c2.toNat * 65536 + c3.toNat * 16777216) := by
    refine Lib.hid ?_
    have : sub l 0 4 = [c0, c1, c2, c3] := by
      apply List.ext_getElem?
      intro j
      by_cases hj : j < 4
      · rw [sub_get hj]
        match j, hj with
        | 0, _ => exact h0
        | 1, _ => exact h1
        | 2, _ => exact h2
        | 3, _ => exact h3
      · rw [List.getElem?_eq_none (by rw [sub_len (by omega)]; omega), List.getElem?_eq_none (by simp; omega)]
    rw [this]
    simp [val]
    omega
  have hnl : n ≤ 1000000000000000 := by omega
  have a0 : (0 : Int) < n := by omega
  have k0 : 0 < n := by omega
  have k1 : 1 < n := by omega
  have k2 : 2 < n := by omega
  have k3 : 3 < n := by omega
  replace e0 : w.cell? ⟨g, o, none⟩ = some (.int .u8 c0.toNat) := by simpa using e0
  have a1 : (1 : Int) < n := by omega
  have a2 : (2 : Int) < n := by omega
  have a3 : (3 : Int) < n := by omega
  clear h0 h1 h2 h3 hs hl
  go_enter Tryz.func171, Tryz.ntmps171
  go_wp2_with fail
  go_region
  all_goals
    go_wp2_with fail
    go_ret
    exact ⟨by rw [hv.out]; show Ending.returned (.int .i64 _) = _; refine ret_int ?_; omega, rfl⟩
end Ck
end Go.Proofs.YtegplehbcdeeoaaGreatDoor
/- The reference's header: may these numbers stand, are these blocks. -/
namespace Go.Proofs.YtegplehbcdeeoaaGreatDoor
open Go.RowKit

namespace Ck
open Pk Pw
set_option maxRecDepth 100000 in
theorem refMay_any (l : List Nat) (n : Int) (ao : Option Addr) (cap : Nat) (w : World) (hl : l.length ≤ 1000000) (hs : Row w ao (numsV l)) :
    Calls Tryz.prog 147 #[.slice ao l.length cap, .int .i64 n] w fun e w' => e = .returned (.bool (mayN n l)) ∧ w = w' := by
  by_cases c0 : (l.length : Int) < 1
  · have hm := Lib.hid (show mayN n l = false by unfold mayN; rw [show decide (1 ≤ l.length) = false from decide_eq_false (by omega)]; simp)
    go_enter Tryz.func147, Tryz.ntmps147
    go_wp2_with fail
    go_ret
    exact ⟨ret_bool hm.out.symm, rfl⟩
  by_cases c1 : 96 < (l.length : Int)
  · have hm := Lib.hid (show mayN n l = false by unfold mayN; rw [show decide (l.length ≤ 96) = false from decide_eq_false (by omega)]; simp)
    go_enter Tryz.func147, Tryz.ntmps147
    go_wp2_with fail
    go_ret
    exact ⟨ret_bool hm.out.symm, rfl⟩
  obtain ⟨x0, hx0⟩ : ∃ x, l[0]? = some x := ⟨_, List.getElem?_eq_getElem (by omega)⟩
  obtain ⟨g, o, rfl, hg, _⟩ := hs 0 (.int .i64 x0) (by unfold numsV; rw [List.getElem?_map, hx0]; rfl)
  have hm := Lib.hid (show mayN n l = rises 97 n l by unfold mayN; rw [show decide (1 ≤ l.length) = true from decide_eq_true (by omega), show decide (l.length ≤ 96) = true from decide_eq_true (by omega)]; simp)
  have hR := Lib.hid hs
  clear hs hx0
  go_enter Tryz.func147, Tryz.ntmps147
  go_wp2_with fail
  go_loopw [5, 6] (fun lv iv wr => wr = w ∧ ∃ (i : Nat) (last : Int), lv = .int .i64 last ∧ iv = .int .i64 i ∧ i ≤ l.length ∧ Hid (rises 97 n l = rises last n (l.drop i))) (fun _ iv _ => l.length - (intOf iv).toNat)
  case atStart => exact ⟨rfl, 0, 97, rfl, rfl, Nat.zero_le _, Lib.hid (by rw [List.drop_zero])⟩
  case round =>
    obtain ⟨rfl, i, last, rfl, rfl, hi, hr⟩ := hrel
    by_cases c : i < l.length
    · obtain ⟨x, hx⟩ : ∃ x, l[i]? = some x := ⟨_, List.getElem?_eq_getElem c⟩
      obtain ⟨g2, o2, e2, _, hc⟩ := hR.out i (.int .i64 x) (by unfold numsV; rw [List.getElem?_map, hx]; rfl)
      cases e2
      have hci : (i : Int) < (l.length : Int) := by omega
      have hst := rises_step (last := last) (n := n) hx
      by_cases k1 : (x : Int) ≤ last
      · have hf := Lib.hid (show rises 97 n l = false by rw [hr.out, hst, show decide (last < (x : Int)) = false from decide_eq_false (by omega)]; rfl)
        clear hr hst hx
        go_wp2_with fail
        go_ret
        exact ⟨ret_bool (hm.out.trans hf.out).symm, rfl⟩
      · by_cases k2 : n ≤ (x : Int)
        · have hf := Lib.hid (show rises 97 n l = false by rw [hr.out, hst, show decide ((x : Int) < n) = false from decide_eq_false (by omega)]; simp)
          clear hr hst hx
          go_wp2_with fail
          go_ret
          exact ⟨ret_bool (hm.out.trans hf.out).symm, rfl⟩
        · have hf := Lib.hid (show rises 97 n l = rises x n (l.drop (i + 1)) by rw [hr.out, hst, show decide (last < (x : Int)) = true from decide_eq_true (by omega), show decide ((x : Int) < n) = true from decide_eq_true (by omega)]; simp)
          clear hr hst hx
          go_wp2_with fail
          go_roundw
          case rel => exact ⟨by first | rfl | trivial, i + 1, x, rfl, by go_num, by omega, hf⟩
          case measure => simp only [intOf]; omega
    · obtain rfl : i = l.length := by omega
      have hci : ¬ (l.length : Int) < (l.length : Int) := by omega
      have hf := Lib.hid (show rises 97 n l = true by rw [hr.out, List.drop_length]; rfl)
      clear hr
      go_wp2_with fail
      go_ret
      exact ⟨ret_bool (hm.out.trans hf.out).symm, rfl⟩
set_option maxRecDepth 100000 in
theorem refAre_any (ds : List B) (n : Int) (ao : Option Addr) (cap : Nat) (w : World) (hl : ds.length ≤ 1000000) (hs : Datas w ao ds) (h5 : ∀ d ∈ ds, d.length = 512) :
    Calls Tryz.prog 149 #[.slice ao ds.length cap, .int .i64 n] w fun e w' => e = .returned (.bool (decide ((ds.length : Int) = n))) ∧ w = w' := by
  by_cases c0 : (ds.length : Int) = n
  · have hR := Lib.hid hs
    have h5' := Lib.hid h5
    have hd := Lib.hid (show decide ((ds.length : Int) = n) = true by simpa using c0)
    clear hs h5
    subst c0
    go_enter Tryz.func149, Tryz.ntmps149
    go_wp2_with fail
    go_loopw [5] (fun iv wr => wr = w ∧ ∃ i : Nat, iv = .int .i64 i ∧ i ≤ ds.length) (fun iv _ => ds.length - (intOf iv).toNat)
    case atStart => exact ⟨rfl, 0, rfl, Nat.zero_le _⟩
    case round =>
      obtain ⟨rfl, i, rfl, hi⟩ := hrel
      by_cases c : i < ds.length
      · obtain ⟨x, hx⟩ : ∃ x, ds[i]? = some x := ⟨_, List.getElem?_eq_getElem c⟩
        obtain ⟨g, o, h, p, cap2, rfl, _, hc, _, _⟩ := hR.out i x hx
        rw [h5'.out x (List.mem_of_getElem? hx)] at hc
        have hci : (i : Int) < (ds.length : Int) := by omega
        clear hx
        go_wp2_with fail
        go_roundw
        case rel => exact ⟨by first | rfl | trivial, i + 1, by go_num, by omega⟩
        case measure => simp only [intOf]; omega
      · obtain rfl : i = ds.length := by omega
        have hci : ¬ (ds.length : Int) < (ds.length : Int) := by omega
        go_wp2_with fail
        go_ret
        exact ⟨ret_bool hd.out.symm, rfl⟩
  · have hd := Lib.hid (show decide ((ds.length : Int) = n) = false by simpa using c0)
    clear hs h5
    go_enter Tryz.func149, Tryz.ntmps149
    go_wp2_with fail
    go_ret
    exact ⟨ret_bool hd.out.symm, rfl⟩
end Ck
end Go.Proofs.YtegplehbcdeeoaaGreatDoor
/- The reference's header: laid byte by byte; its sum. -/
namespace Go.Proofs.YtegplehbcdeeoaaGreatDoor
open Go.RowKit

namespace Ck
open Pk Pw
/-- A header of these numbers, with this sum. -/
def laidP (nums : List Nat) (s : Nat) : B := magicL ++ low 4 nums.length ++ low 4 s ++ nums.flatMap (low 4) ++ zs (496 - 4 * nums.length)
theorem low_4 (v : Nat) (hv : v < 4294967296) : low 4 v = [UInt8.ofNat (v % 256), UInt8.ofNat (v / 256 % 256), UInt8.ofNat (v / 65536 % 256), UInt8.ofNat (v / 16777216)] := by
  have : v / 16777216 % 256 = v / 16777216 := Nat.mod_eq_of_lt (by omega)
  simp [low, List.range_succ, this]
theorem flat_len (l : List Nat) : (l.flatMap (low 4)).length = 4 * l.length := by
  induction l with
  | nil => rfl
  | cons a l ih => rw [List.flatMap_cons, List.length_append, ih, low_len, List.length_cons]; omega
theorem laidP_len (nums : List Nat) (s : Nat) (h : nums.length ≤ 96) : (laidP nums s).length = 512 := by
  unfold laidP
  simp only [List.length_append, low_len, zs_len, flat_len]
  show 8 + 4 + 4 + 4 * nums.length + (496 - 4 * nums.length) = 512
  omega
theorem flat_take (l : List Nat) {i x : Nat} (h : l[i]? = some x) : (l.take (i + 1)).flatMap (low 4) = (l.take i).flatMap (low 4) ++ low 4 x := by
  rw [List.take_add_one, h]
  simp
set_option maxRecDepth 100000 in
set_option maxHeartbeats 2000000 in
theorem refLaid_any (l : List Nat) (s : Nat) (hs4 : s < 4294967296) (ao : Option Addr) (cap : Nat) (w : World) (hl : l.length ≤ 96) (hx : ∀ x ∈ l, x < 4294967296) (hs : Row w ao (numsV l)) :
    Calls Tryz.prog 148 #[.slice ao l.length cap, .int .u32 s] w fun e w' => ∃ v, e = .returned v ∧ w'.ownsRow w.heap.size 5 1 v 512 (bytesV (laidP l s)) ∧ Below w.heap.size w w' := by
  have hR := Lib.hid hs
  have hX := Lib.hid hx
  clear hs hx
  have hcv := Go.Lib.run_convert_bytes_const (P := Tryz.prog) w 24 5 #[.int .u8 66, .int .u8 79, .int .u8 76, .int .u8 69, .int .u8 76, .int .u8 79, .int .u8 71, .int .u8 49] 8 8 Tryz.underlying24 Tryz.underlying5
  obtain ⟨w3, hw3⟩ : ∃ w3, w.alloc (.cells #[.int .u8 66, .int .u8 79, .int .u8 76, .int .u8 69, .int .u8 76, .int .u8 79, .int .u8 71, .int .u8 49] 5 (8, 9)) = w3 := ⟨_, rfl⟩
  have hc3 : ∀ j u, (bytesV magicL)[j]? = some u → w3.cell? ⟨w.heap.size, j, none⟩ = some u := fun j u hj => by
    rw [← hw3]
    simp only [World.cell?, heap_alloc_new]
    simpa [bytesV, magicL] using hj
  have hb3 : Below w.heap.size w w3 := by rw [← hw3]; exact (Below.refl _ _).alloc (Nat.le_refl _) _
  have hg3 : w.heap.size < w3.heap.size := by rw [← hw3]; simp
  rw [show (#[Value.int .u8 66, .int .u8 79, .int .u8 76, .int .u8 69, .int .u8 76, .int .u8 79, .int .u8 71, .int .u8 49] : Array Value).size = 8 from rfl, hw3] at hcv
  have hk4 : Hid ((#[.int .u8 (l.length : Nat), .int .u8 ((l.length : Int) / 256), .int .u8 0, .int .u8 0] : Array Value) = (bytesV (low 4 l.length)).toArray) := by
    refine Lib.hid ?_
    rw [low_4 _ (by omega)]
    simp [bytesV]
    omega
  have hk5 : Hid ((#[.int .u8 ((s : Int) % 256), .int .u8 ((s : Int) / 256 % 256), .int .u8 ((s : Int) / 65536 % 256), .int .u8 ((s : Int) / 16777216)] : Array Value) = (bytesV (low 4 s)).toArray) := by
    refine Lib.hid ?_
    rw [low_4 _ hs4]
    simp [bytesV]
    omega
  go_enter Tryz.func148, Tryz.ntmps148
  have hL : (magicL ++ low 4 l.length).length = 12 := by rw [List.length_append, low_len]; rfl
  have hL2 : (magicL ++ low 4 l.length ++ low 4 s).length = 16 := by rw [List.length_append, hL, low_len]
  go_wp2_with (first | (at_builtin; refine wpList_append_full byT w3 rfl _ _ rfl _ w.heap.size magicL (low 4 l.length) 4 hk4.out rfl (by rw [low_len]; decide) (by rfl) hc3 hg3 (by rfl) (by rw [low_len]; decide) ?_; intro v1 w4 ho4 hg4; rw [hL] at ho4; obtain ⟨g4, cap4, rfl⟩ := own_form ho4 (by omega)) | (at_builtin; go_must (refine wpList_append_bytes byT w4 rfl _ _ rfl _ w3.heap.size _ (magicL ++ low 4 l.length) (low 4 s) 4 hk5.out rfl (by rfl) (by rw [hL]; exact ho4) (by rfl) (by rw [low_len, hL]; decide) hg4.size ?_); intro v5 w5 ho5 hg5 hat5; rw [hL2] at ho5; obtain ⟨g5, cap5, rfl⟩ := own_form ho5 (by omega)))
  obtain ⟨H, hH⟩ : ∃ x, x = magicL ++ low 4 l.length ++ low 4 s := ⟨_, rfl⟩
  have hlp := Lib.hid (show laidP l s = H ++ l.flatMap (low 4) ++ zs (496 - 4 * l.length) by rw [hH]; rfl)
  rw [← hH] at ho5 hL2
  obtain ⟨B5, hB5⟩ : ∃ b, b = w3.heap.size := ⟨_, rfl⟩
  rw [← hB5] at ho5
  have hB5' : w.heap.size ≤ B5 := by rw [hB5]; exact hb3.size
  have hb4 := hb3.grown hg4 hb3.size (by simp)
  have hb5 := hb4.grown hg5 hb4.size (fun k hk => by cases hk; have := own_lt ho4 (g := g4) rfl; have := hb3.size; show w.heap.size ≤ g4; omega)
  have hB5s : B5 ≤ w5.heap.size := by rw [hB5]; have := hg4.size; have := hg5.size; omega
  have hO5 := Lib.hid (And.intro ho5 hb5)
  clear ho5 hb5 hb4 hg5 hat5 ho4 hg4 hcv hw3 hc3 hb3 hg3 hk4 hk5 hL hH hB5
  go_loopw [5, 6] (fun lv iv wr => ∃ k : Nat, k ≤ l.length ∧ iv = .int .i64 k ∧ B5 ≤ wr.heap.size ∧ Hid (wr.ownsRow B5 5 1 lv (16 + 4 * k) (bytesV (H ++ (l.take k).flatMap (low 4))) ∧ Below w.heap.size w wr)) (fun _ iv _ => l.length - (intOf iv).toNat)
  case atStart => exact ⟨0, Nat.zero_le _, rfl, hB5s, Lib.hid ⟨by simpa using hO5.out.1, hO5.out.2⟩⟩
  case round =>
    obtain ⟨k, hk, rfl, hBr, hO⟩ := hrel
    obtain ⟨hown, hbl⟩ := hO.out
    obtain ⟨gr, cr, rfl⟩ := own_form hown (by omega)
    by_cases c : k < l.length
    · have hci : (k : Int) < (l.length : Int) := by omega
      obtain ⟨x, hx⟩ : ∃ x, l[k]? = some x := ⟨_, List.getElem?_eq_getElem c⟩
      obtain ⟨g, o, rfl, hg, hcell⟩ := (hR.out.below hbl) k (.int .i64 x) (by unfold numsV; rw [List.getElem?_map, hx]; rfl)
      have hx4 := hX.out x (List.mem_of_getElem? hx)
      have hft := Lib.hid (flat_take l hx)
      have hlh : (H ++ (l.take k).flatMap (low 4)).length = 16 + 4 * k := by rw [List.length_append, hL2, flat_len, List.length_take]; omega
      have hbb := Lib.hid (fun V (hg : wr.grownBy V (some gr)) => hbl.grown hg hbl.size (fun j hj => by cases hj; have := own_lt hown (g := gr) rfl; show w.heap.size ≤ gr; omega))
      have hk6 : Hid ((#[.int .u8 (IntKind.u8.wrap (x : Int)), .int .u8 (IntKind.u8.wrap ((x : Int) / 256)), .int .u8 (IntKind.u8.wrap ((x : Int) / 65536)), .int .u8 (IntKind.u8.wrap ((x : Int) / 16777216))] : Array Value) = (bytesV (low 4 x)).toArray) := by
        refine Lib.hid ?_
        have hw : ∀ y : Int, IntKind.u8.wrap y = y % 256 := fun _ => rfl
        rw [low_4 _ hx4, hw, hw, hw, hw]
        simp [bytesV]
        try omega
      have hne : g ≠ gr := by
        have h1 := own_lt hown (g := gr) rfl
        have h2 := hR.out k (.int .i64 x) (by unfold numsV; rw [List.getElem?_map, hx]; rfl)
        obtain ⟨g2, _, e2, h3, _⟩ := h2
        cases e2
        omega
      have hcell2 : ∀ ob, (wr.alloc ob).cell? ⟨g, o + k, none⟩ = some (.int .i64 (x : Int)) := fun ob => (World.cell?_of_block (alloc_at wr ob hg)).trans hcell
      clear hx hO
      generalize hHx : H ++ (l.take k).flatMap (low 4) = Hx at *
      go_wp2_with fail
      go_region_held3 (fun W : World => W.cell? ⟨g, o + k, none⟩ = some (.int .i64 (x : Int))) (first | exact hcell | exact hcell2 _ | exact hcell3) ((refine step_append_bytes_drew byT wr rfl _ _ rfl _ B5 _ Hx (low 4 x) 4 (by exact hk6.out) (by rfl) (by rw [low_len]; decide) (by rfl) (by rw [hlh]; exact hown) (by rfl) (by rw [low_len, hlh]; omega) (by exact hBr) ?_; intro v6 w6 ho6 hg6; have hcell3 : w6.cell? ⟨g, o + k, none⟩ = some (.int .i64 (x : Int)) := (World.cell?_of_block (hg6.block g hg (fun e => hne (by cases e; rfl)))).trans hcell))
      all_goals
        go_wp2_with fail
        go_roundw
        case rel => exact ⟨k + 1, by omega, by go_num, Nat.le_trans hBr hg6.size, Lib.hid ⟨by rw [hft.out, ← List.append_assoc, hHx, show 16 + 4 * (k + 1) = (Hx ++ low 4 x).length by rw [List.length_append, hlh, low_len]; omega]; exact ho6, hbb.out _ hg6⟩⟩
        case measure => simp only [intOf]; omega
    · obtain rfl : k = l.length := by omega
      have hci : ¬ (l.length : Int) < (l.length : Int) := by omega
      rw [List.take_length] at hown
      obtain ⟨F, hF⟩ : ∃ F, F = H ++ l.flatMap (low 4) := ⟨_, rfl⟩
      rw [← hF] at hown
      have hFl : F.length = 16 + 4 * l.length := by rw [hF, List.length_append, hL2, flat_len]
      have hlp2 := Lib.hid (show laidP l s = F ++ zs (496 - 4 * l.length) by rw [hlp.out, hF])
      have hO := Lib.hid (And.intro hown hbl)
      clear hown hbl hlp hF hL2
      go_wp2_with fail
      go_loopw [5] (fun b wr2 => ∃ j : Nat, j ≤ 496 - 4 * l.length ∧ B5 ≤ wr2.heap.size ∧ Hid (wr2.ownsRow B5 5 1 b (16 + 4 * l.length + j) (bytesV (F ++ zs j)) ∧ Below w.heap.size w wr2)) (fun b _ => 512 - lenV b)
      case atStart => exact ⟨0, Nat.zero_le _, hBr, Lib.hid ⟨by rw [show F ++ zs 0 = F by simp [zs]]; exact hO.out.1, hO.out.2⟩⟩
      case round =>
        obtain ⟨j, hj, hBj, hOj⟩ := hrel
        obtain ⟨hown, hbl⟩ := hOj.out
        obtain ⟨gq, cq, rfl⟩ := own_form hown (by omega)
        have hlj : (F ++ zs j).length = 16 + 4 * l.length + j := by rw [List.length_append, hFl, zs_len]
        by_cases cj : j < 496 - 4 * l.length
        · have hcj : (16 + 4 * (l.length : Int) + (j : Int)) < 512 := by omega
          have hzs := Lib.hid (show (F ++ zs j) ++ [0] = F ++ zs (j + 1) by rw [List.append_assoc, show zs j ++ [0] = zs (j + 1) from (List.replicate_succ' (n := j) (a := (0 : UInt8))).symm])
          have hbb := Lib.hid (fun V (hg : wr.grownBy V (some gq)) => hbl.grown hg hbl.size (fun i hi => by cases hi; have := own_lt hown (g := gq) rfl; show w.heap.size ≤ gq; omega))
          clear hOj
          go_wp2_with (at_builtin; go_must (refine wpList_append_bytes byT wr rfl _ _ rfl _ B5 _ (F ++ zs j) [0] 1 rfl rfl (by rfl) (by rw [hlj]; exact hown) (by rfl) (by rw [hlj]; simp; omega) hBj ?_); intro v6 w6 ho6 hg6 hat6)
          have hl6 : (F ++ zs j ++ [0]).length = 16 + 4 * l.length + (j + 1) := by rw [List.length_append, hlj]; rfl
          rw [hl6] at ho6
          obtain ⟨g6, c6, rfl⟩ := own_form ho6 (by omega)
          go_roundw
          case rel => exact ⟨j + 1, by omega, Nat.le_trans hBj hg6.size, Lib.hid ⟨by rw [← hzs.out]; exact ho6, hbb.out _ hg6⟩⟩
          case measure => simp only [lenV]; omega
        · obtain rfl : j = 496 - 4 * l.length := by omega
          rw [show 16 + 4 * l.length + (496 - 4 * l.length) = 512 by omega] at hown ⊢
          have hfin := Lib.hid (show wr.ownsRow w.heap.size 5 1 (.slice (some ⟨gq, 0, none⟩) 512 cq) 512 (bytesV (laidP l s)) by rw [hlp2.out]; exact Go.Joins.ownsRow_le hown hB5')
          have hbf := Lib.hid hbl
          clear hown hbl hOj hlj hj cj
          go_wp2_with fail
          go_ret
          exact ⟨_, rfl, hfin.out, hbf.out⟩
set_option maxRecDepth 100000 in
set_option maxHeartbeats 1000000 in
theorem refSumOf_any (nums : List Nat) (ds : List B) (ao bo : Option Addr) (cap cap2 : Nat) (w : World) (hl : nums.length ≤ 96) (hx : ∀ x ∈ nums, x < 4294967296) (hs : Row w ao (numsV nums)) (hd : ds.length ≤ 96) (hds : Datas w bo ds) (h5 : ∀ d ∈ ds, d.length = 512) :
    Calls Tryz.prog 150 #[.slice ao nums.length cap, .slice bo ds.length cap2] w fun e w' => e = .returned (.int .u32 (crc (laidP nums 0 ++ ds.flatten))) ∧ Below w.heap.size w w' := by
  have HL := refLaid_any nums 0 (by decide) ao cap w hl hx hs
  have hD := Lib.hid hds
  have h5 := Lib.hid h5
  have hlen := laidP_len nums 0 hl
  generalize laidP nums 0 = F at *
  clear hds hs hx
  go_enter Tryz.func150, Tryz.ntmps150
  go_wp2_with fail
  refine HL.mono ?_
  clear HL
  rintro e w1 ⟨v, rfl, hown, hb⟩
  have hO := Lib.hid (And.intro hown hb)
  have hsz := hb.size
  clear hown hb
  go_wp2_with fail
  go_loopw [5, 6] (fun lv iv wr => ∃ k : Nat, k ≤ ds.length ∧ iv = .int .i64 k ∧ w.heap.size ≤ wr.heap.size ∧ Hid (wr.ownsRow w.heap.size 5 1 lv (512 + 512 * k) (bytesV (F ++ (ds.take k).flatten)) ∧ Below w.heap.size w wr)) (fun _ iv _ => ds.length - (intOf iv).toNat)
  case atStart => exact ⟨0, Nat.zero_le _, rfl, hsz, Lib.hid ⟨by simpa using hO.out.1, hO.out.2⟩⟩
  case round =>
    obtain ⟨k, hk, rfl, hBr, hO⟩ := hrel
    obtain ⟨hown, hbl⟩ := hO.out
    obtain ⟨gr, cr, rfl⟩ := own_form hown (by omega)
    have hlh : (F ++ (ds.take k).flatten).length = 512 + 512 * k := by
      have : ∀ (l : List B), (∀ d ∈ l, d.length = 512) → l.flatten.length = 512 * l.length := by
        intro l hl
        induction l with
        | nil => rfl
        | cons a l ih => rw [List.flatten_cons, List.length_append, hl a (by simp), ih (fun d hd => hl d (by simp [hd])), List.length_cons]; omega
      rw [List.length_append, hlen, this _ (fun d hd => h5.out d (List.mem_of_mem_take hd)), List.length_take]
      omega
    by_cases c : k < ds.length
    · have hci : (k : Int) < (ds.length : Int) := by omega
      obtain ⟨x, hx⟩ : ∃ x, ds[k]? = some x := ⟨_, List.getElem?_eq_getElem c⟩
      obtain ⟨g, o, h, p, cap3, rfl, _, hcell, _, hseen⟩ := (hD.out.below hbl) k x hx
      have hx5 := h5.out x (List.mem_of_getElem? hx)
      rw [hx5] at hcell
      have hft := Lib.hid (show F ++ (ds.take k).flatten ++ x = F ++ (ds.take (k + 1)).flatten by rw [List.take_add_one, hx, List.flatten_append, List.append_assoc]; simp)
      have hbb := Lib.hid (fun V (hg : wr.grownBy V (some gr)) => hbl.grown hg hbl.size (fun j hj => by cases hj; have := own_lt hown (g := gr) rfl; show w.heap.size ≤ gr; omega))
      clear hx hO
      generalize hHx : F ++ (ds.take k).flatten = Hx at *
      go_wp2_with (at_builtin; go_must (refine wpList_append_seen wr rfl _ _ rfl w.heap.size _ Hx x (512 + 512 * k) 512 h p cap3 (by rw [hlh]) hx5.symm (by rfl) hown (by rfl) hseen (by rw [hlh, hx5]; omega) hBr ?_); intro v6 w6 ho6 hg6 hat6)
      go_roundw
      case rel => exact ⟨k + 1, by omega, by go_num, Nat.le_trans hBr hg6.size, Lib.hid ⟨by rw [← hft.out, show 512 + 512 * (k + 1) = 512 + 512 * k + 512 by omega]; exact ho6, hbb.out _ hg6⟩⟩
      case measure => simp only [intOf]; omega
    · obtain rfl : k = ds.length := by omega
      have hci : ¬ (ds.length : Int) < (ds.length : Int) := by omega
      rw [List.take_length] at hown hlh
      have HS := refSum_any (F ++ ds.flatten) gr 0 cr wr (by rw [hlh]; omega) (SeenAt.of_own hown)
      rw [hlh] at HS
      have hbf := Lib.hid hbl
      clear hown hbl hO
      go_wp2_with fail
      refine HS.mono ?_
      clear HS
      rintro e w2 ⟨rfl, rfl⟩
      go_wp2_with fail
      go_ret
      exact ⟨rfl, hbf.out⟩
end Ck
end Go.Proofs.YtegplehbcdeeoaaGreatDoor
/- The reference's header, read; is it that of these blocks? -/
namespace Go.Proofs.YtegplehbcdeeoaaGreatDoor
open Go.RowKit

namespace Ck
open Pk Pw
theorem low_val : ∀ l : B, low l.length (val l) = l
  | [] => rfl
  | c :: r => by
    have hc : c.toNat < 256 := c.toNat_lt
    rw [List.length_cons, low_cons, show val (c :: r) = c.toNat + 256 * val r from rfl, show (c.toNat + 256 * val r) % 256 = c.toNat by omega, show (c.toNat + 256 * val r) / 256 = val r by omega, low_val r, UInt8.ofNat_toNat]
theorem zero_list {l : B} (h : allZero l = true) : l = zs l.length := by
  refine List.eq_replicate_iff.2 ⟨rfl, fun b hb => ?_⟩
  unfold allZero at h
  simpa using List.all_eq_true.1 h b hb
theorem zero_zs (n : Nat) : allZero (zs n) = true := by simp [allZero, zs]
theorem sub_cat {l : B} {i n m : Nat} (_ : i + n + m ≤ l.length) : sub l i n ++ sub l (i + n) m = sub l i (n + m) := by
  unfold sub
  rw [List.take_add, List.drop_drop]
theorem nums_flat {h : B} (hl : h.length = 512) : ∀ k, k ≤ 124 → (numsOf h k).flatMap (low 4) = sub h 16 (4 * k)
  | 0, _ => by simp [numsOf, sub]
  | k + 1, hk => by
    rw [numsOf_succ, List.flatMap_append, nums_flat hl k (by omega), show 4 * (k + 1) = 4 * k + 4 by omega, ← sub_cat (by omega)]
    congr 1
    rw [List.flatMap_cons, List.flatMap_nil, List.append_nil]
    have := low_val (sub h (16 + 4 * k) 4)
    rw [sub_len (by omega)] at this
    exact this
/-- A header that is laid again is the same just if it has a header's form. -/
theorem laid_iff {h : B} (hl : h.length = 512) (hk : val (sub h 8 2) ≤ 96) :
    laidP (numsOf h (val (sub h 8 2))) (val (sub h 12 4)) = h ↔ sub h 0 8 = magicL ∧ allZero (sub h 10 2) = true ∧ allZero (sub h (16 + 4 * val (sub h 8 2)) (512 - (16 + 4 * val (sub h 8 2)))) = true := by
  obtain ⟨k, hkk⟩ : ∃ k, val (sub h 8 2) = k := ⟨_, rfl⟩
  have hparts : h = sub h 0 8 ++ sub h 8 2 ++ sub h 10 2 ++ sub h 12 4 ++ sub h 16 (4 * k) ++ sub h (16 + 4 * k) (512 - (16 + 4 * k)) := by
    rw [hkk] at hk
    rw [sub_cat (i := 0) (n := 8) (m := 2) (by omega), sub_cat (i := 0) (n := 10) (m := 2) (by omega), sub_cat (i := 0) (n := 12) (m := 4) (by omega), sub_cat (i := 0) (n := 16) (m := 4 * k) (by omega)]
    have := sub_cat (l := h) (i := 0) (n := 16 + 4 * k) (m := 512 - (16 + 4 * k)) (by omega)
    rw [Nat.zero_add] at this
    rw [this, show 16 + 4 * k + (512 - (16 + 4 * k)) = h.length by omega, sub_all]
  have hlow2 : low 4 k = sub h 8 2 ++ zs 2 := by
    have h2 := low_val (sub h 8 2)
    rw [sub_len (by omega), hkk] at h2
    rw [← h2]
    have h3 : k < 65536 := by rw [hkk] at hk; omega
    have h4 : k / 65536 % 256 = 0 := by omega
    have h5 : k / 16777216 % 256 = 0 := by omega
    simp [low, List.range_succ, zs, h4, h5]
  have hlow4 : low 4 (val (sub h 12 4)) = sub h 12 4 := by
    have h2 := low_val (sub h 12 4)
    rwa [sub_len (by omega)] at h2
  rw [hkk]
  rw [hkk] at hk
  unfold laidP
  rw [numsOf_len, hlow2, hlow4, nums_flat hl k (by omega)]
  have hz : 496 - 4 * k = (sub h (16 + 4 * k) (512 - (16 + 4 * k))).length := by rw [sub_len (by omega)]; omega
  have a1 : (sub h 0 8).length = 8 := sub_len (by omega)
  have a2 : (sub h 8 2).length = 2 := sub_len (by omega)
  have a3 : (sub h 10 2).length = 2 := sub_len (by omega)
  have a4 : (sub h 12 4).length = 4 := sub_len (by omega)
  have a5 : (sub h 16 (4 * k)).length = 4 * k := sub_len (by omega)
  constructor
  · intro e
    have e2 := e.trans hparts
    simp only [List.append_assoc] at e2
    obtain ⟨e3, e4⟩ := List.append_inj e2 (by rw [a1]; rfl)
    obtain ⟨_, e5⟩ := List.append_inj e4 rfl
    obtain ⟨e6, e7⟩ := List.append_inj e5 (by rw [a3]; rfl)
    obtain ⟨_, e8⟩ := List.append_inj e7 rfl
    obtain ⟨_, e9⟩ := List.append_inj e8 rfl
    exact ⟨e3.symm, by rw [← e6]; exact zero_zs _, by rw [← e9]; exact zero_zs _⟩
  · rintro ⟨e1, e2, e3⟩
    have z2 := zero_list e2
    have z3 := zero_list e3
    rw [a3] at z2
    rw [← hz] at z3
    rw [← z3, ← z2, ← e1]
    simp only [List.append_assoc]
    simp only [List.append_assoc] at hparts
    exact hparts.symm
end Ck
end Go.Proofs.YtegplehbcdeeoaaGreatDoor
