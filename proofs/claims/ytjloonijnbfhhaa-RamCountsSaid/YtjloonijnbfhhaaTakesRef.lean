/- The walk of the document's Takes: it counts as the program's does. -/
import Derived.Test.YtjloonijnbfhhaaTakesWalks
namespace Go.Proofs.Ytjloonijnbfhhaa
open Go.RowKit

namespace Tk
/-- Two slices of the call's own do not share a row. -/
def Apart (v u : Value) : Prop := ∀ g, v.ownBlock = some g → u.ownBlock ≠ some g

/-- The document's lists behind j numbers. -/
structure RelR (w wr : World) (l : List Int) (j : Nat) (va vt : Value) : Prop where
  all : wr.ownsRow w.heap.size 3 1 va (dd (l.take j)).length (cs (dd (l.take j)))
  tbl : wr.ownsRow w.heap.size 3 1 vt (dd (tab (l.take j))).length (cs (dd (tab (l.take j))))
  apart : Apart va vt
  below : Below w.heap.size w wr

/-- A number more in the first list. -/
theorem RelR.one {w wr w1 : World} {l : List Int} {j : Nat} {va vt va' : Value} {x : Int} (h : RelR w wr l j va vt) (hsn : l.take (j + 1) = l.take j ++ [x]) (hx : ¬ 138 ≤ x)
    (ho : w1.ownsRow w.heap.size 3 1 va' (add (dd (l.take j)) x).length (cs (add (dd (l.take j)) x))) (hg : wr.grownBy w1 va.ownBlock) (hat : va'.ownBlock = va.ownBlock ∨ ∃ g, va'.ownBlock = some g ∧ wr.heap.size ≤ g) :
    RelR w w1 l (j + 1) va' vt where
  all := by rw [hsn, dd_snoc]; exact ho
  tbl := by
    rw [hsn, tab_snoc, if_neg hx, List.append_nil]
    refine h.tbl.kept hg ?_
    cases hb : vt.ownBlock with
    | none => exact .inl rfl
    | some g => exact .inr (fun e => h.apart g e.symm hb)
  apart := by
    intro g hg' ht
    rcases hat with e | ⟨g', e, hle⟩
    · exact h.apart g (by rw [← e]; exact hg') ht
    · rw [e] at hg'; cases hg'
      have := (h.tbl.lt _ ht).2
      omega
  below := h.below.grown hg h.below.size (fun k hk => (h.all.lt k hk).1)

/-- .. and in the second. -/
theorem RelR.two {w wr w1 w2 : World} {l : List Int} {j : Nat} {va vt va' vt' : Value} {x : Int} (h : RelR w wr l j va vt) (hsn : l.take (j + 1) = l.take j ++ [x]) (hx : 138 ≤ x)
    (ho : w1.ownsRow w.heap.size 3 1 va' (add (dd (l.take j)) x).length (cs (add (dd (l.take j)) x))) (hg : wr.grownBy w1 va.ownBlock) (hat : va'.ownBlock = va.ownBlock ∨ ∃ g, va'.ownBlock = some g ∧ wr.heap.size ≤ g)
    (ho2 : w2.ownsRow w.heap.size 3 1 vt' (add (dd (tab (l.take j))) ((x - 138) / 128)).length (cs (add (dd (tab (l.take j))) ((x - 138) / 128)))) (hg2 : w1.grownBy w2 vt.ownBlock)
    (hat2 : vt'.ownBlock = vt.ownBlock ∨ ∃ g, vt'.ownBlock = some g ∧ w1.heap.size ≤ g) :
    RelR w w2 l (j + 1) va' vt' where
  all := by
    rw [hsn, dd_snoc]
    refine ho.kept hg2 ?_
    cases hb : va'.ownBlock with
    | none => exact .inl rfl
    | some g =>
      refine .inr (fun e => ?_)
      rcases hat with e' | ⟨g', e', hle⟩
      · exact h.apart g (by rw [← e', hb]) e.symm
      · rw [e'] at hb; cases hb
        have := (h.tbl.lt _ e.symm).2
        omega
  tbl := by rw [hsn, tab_snoc, if_pos hx, dd_snoc]; exact ho2
  apart := by
    intro g hg' ht
    have hlt := (ho.lt g hg').2
    rcases hat2 with e | ⟨g', e, hle⟩
    · rw [e] at ht
      rcases hat with e' | ⟨g', e', hle⟩
      · exact h.apart g (by rw [← e']; exact hg') ht
      · rw [e'] at hg'; cases hg'
        have := (h.tbl.lt _ ht).2
        omega
    · rw [e] at ht; cases ht; omega
  below := (h.below.grown hg h.below.size (fun k hk => (h.all.lt k hk).1)).grown hg2 (by have := h.below.size; have := hg.size; omega) (fun k hk => (h.tbl.lt k hk).1)

theorem RelR.kept {w wr w1 : World} {l : List Int} {j : Nat} {va vt : Value} (h : RelR w wr l j va vt) (hg : wr.grownBy w1 va.ownBlock) :
    w1.ownsRow w.heap.size 3 1 vt (dd (tab (l.take j))).length (cs (dd (tab (l.take j)))) := by
  refine h.tbl.kept hg ?_
  cases hb : vt.ownBlock with
  | none => exact .inl rfl
  | some g => exact .inr (fun e => h.apart g e.symm hb)

/-- The shape of a slice of the call's own. -/
theorem shape {w : World} {base : Nat} {v : Value} {xs : List Int} (h : w.ownsRow base 3 1 v xs.length (cs xs)) : ∃ ao cap, v = .slice ao xs.length cap := by
  rcases h.2 with ⟨rfl, hn⟩ | ⟨g, cap, cur, rfl, _⟩
  · exact ⟨_, _, by rw [hn]⟩
  · exact ⟨_, _, rfl⟩

theorem ref_end (w wr : World) (l : List Int) (va vt : Value) (h : RelR w wr l l.length va vt) : ∃ a c a' c', va = .slice a (dd l).length c ∧ vt = .slice a' (dd (tab l)).length c' := by
  have h1 := shape h.all
  have h2 := shape h.tbl
  rw [List.take_length] at h1 h2
  obtain ⟨a, c, e⟩ := h1
  obtain ⟨a', c', e'⟩ := h2
  exact ⟨a, c, a', c', e, e'⟩

set_option maxRecDepth 100000 in
set_option maxHeartbeats 1000000 in
theorem ref_any (zs : List Int) (ao : Option Addr) (b off cap : Nat) (w : World) (hao : 0 < zs.length → ao = some ⟨b, off, none⟩) (hreach : zs.length * 8 ≤ 140737488351232) (hb : 0 < zs.length → b < w.heap.size)
    (hc : ∀ j, j < zs.length → w.cell? ⟨b, off + j, none⟩ = some (.int .i64 (zs.getD j 0))) :
    Calls Try.prog 6 #[.slice ao zs.length cap] w fun e w' => e = .returned (.tuple #[.int .i64 (tkN zs), .int .i64 (tkE zs)]) ∧ Below w.heap.size w w' := by
  go_enter Try.func6, Try.ntmps6
  go_wp2
  go_loopw [4, 5, 6, 7, 12] (fun va o t vt i wr => ∃ k : Nat, k ≤ zs.length ∧ i = .int .i64 k ∧ o = .int .i64 (one (zs.take k)) ∧ t = .int .i64 (two (zs.take k)) ∧ far (zs.take k) = false ∧ RelR w wr zs k va vt)
    (fun _ _ _ _ i _ => zs.length - (intOf i).toNat)
  case atStart => exact ⟨0, Nat.zero_le _, rfl, rfl, rfl, rfl, World.ownsRow_nil _ _ _ _, World.ownsRow_nil _ _ _ _, (fun g h => by cases h), Below.refl _ _⟩
  case round =>
    obtain ⟨k, hk, rfl, rfl, rfl, hfar, hR⟩ := hrel
    by_cases hlt : k < zs.length
    · have hcx : wr.cell? ⟨b, off + k, none⟩ = some (.int .i64 (zs.getD k 0)) := (hR.below.cell (by exact hb (by omega))).trans (hc k hlt)
      have hao' := hao (by omega)
      have hsn := take_snoc hlt
      have hfs := far_take_snoc hlt hfar
      have hft := far_of_take hlt
      obtain ⟨x, hx⟩ : ∃ x, x = zs.getD k 0 := ⟨_, rfl⟩
      rw [← hx] at hcx hsn hfs hft
      clear hx hc hao
      subst hao'
      by_cases h0 : x < 0 ∨ 16521 < x
      · have hF := Lib.hid (hft h0)
        clear hsn hfs hft
        rcases h0 with h0 | h0
        · go_wp2
          go_ret2
          exact ⟨by rw [tkN, tkE, hF.out]; rfl, hR.below⟩
        · have : ¬ x < 0 := by omega
          go_wp2
          go_ret2
          exact ⟨by rw [tkN, tkE, hF.out]; rfl, hR.below⟩
      · have hF := Lib.hid (hfs h0)
        have HSN := Lib.hid hsn
        have n1 : ¬ x < 0 := by omega
        have n2 : ¬ 16521 < x := by omega
        have hsz := hR.below.size
        have hl1 : (dd (zs.take k)).length * 8 ≤ 140737488351232 := by have := dd_len_le (zs.take k); have h2 := List.length_take_le k zs; omega
        have hl2 : (dd (tab (zs.take k))).length * 8 ≤ 140737488351232 := by have := dd_len_le (tab (zs.take k)); have h3 := tab_len (zs.take k); have h2 := List.length_take_le k zs; omega
        have ho := one_snoc (zs.take k) x
        have ht := two_snoc (zs.take k) x
        rw [← hsn] at ho ht
        have HO := Lib.hid ho
        have HT := Lib.hid ht
        clear hsn hfs hft ho ht
        by_cases h138 : 138 ≤ x
        · have h10 : 10 ≤ x := by omega
          have hn : ¬ x < 138 := by omega
          have hq0 : 0 ≤ x - 138 := by omega
          go_wp2_with fail
          refine (with_any _ (dd (zs.take k)) x _ _ hR.all hl1 hsz).mono ?_
          rintro e w1 ⟨va', rfl, ho1, hg1, hat1⟩
          go_wp2_with fail
          refine (with_any _ (dd (tab (zs.take k))) _ _ _ (hR.kept hg1) hl2 (by have := hg1.size; omega)).mono ?_
          rintro e w2 ⟨vt', rfl, ho2, hg2, hat2⟩
          have hN := hR.two HSN.out (by omega) ho1 hg1 hat1 ho2 hg2 hat2
          clear ho1 hg1 hat1 ho2 hg2 hat2 hR
          go_wp2
          go_roundw
          case rel => exact ⟨k + 1, by omega, by go_num, by rw [HO.out, if_neg (by omega)], by rw [HT.out, if_pos (by omega)]; rfl, hF.out, hN⟩
          case measure => simp [intOf]; omega
        · by_cases h10 : 10 ≤ x
          · have hn : x < 138 := by omega
            go_wp2_with fail
            refine (with_any _ (dd (zs.take k)) x _ _ hR.all hl1 hsz).mono ?_
            rintro e w1 ⟨va', rfl, ho1, hg1, hat1⟩
            have hN := hR.one HSN.out (by omega) ho1 hg1 hat1
            clear ho1 hg1 hat1 hR
            go_wp2
            go_roundw
            case rel => exact ⟨k + 1, by omega, by go_num, by rw [HO.out, if_pos (by omega)]; rfl, by rw [HT.out, if_neg (by omega)], hF.out, hN⟩
            case measure => simp [intOf]; omega
          · go_wp2_with fail
            refine (with_any _ (dd (zs.take k)) x _ _ hR.all hl1 hsz).mono ?_
            rintro e w1 ⟨va', rfl, ho1, hg1, hat1⟩
            have hN := hR.one HSN.out (by omega) ho1 hg1 hat1
            clear ho1 hg1 hat1 hR
            go_wp2
            go_roundw
            case rel => exact ⟨k + 1, by omega, by go_num, by rw [HO.out, if_neg (by omega)], by rw [HT.out, if_neg (by omega)], hF.out, hN⟩
            case measure => simp [intOf]; omega
    · have hkz : k = zs.length := by omega
      subst hkz
      obtain ⟨a, c, a', c', rfl, rfl⟩ := ref_end _ _ _ _ _ hR
      rw [List.take_length] at *
      have b1 : (dd zs).length ≤ zs.length := dd_len_le zs
      have b2 : (dd (tab zs)).length ≤ zs.length := Nat.le_trans (dd_len_le (tab zs)) (tab_len zs)
      have b3 : one zs ≤ 1 := by unfold one; split <;> decide
      have b4 : two zs ≤ 1 := by unfold two; split <;> decide
      have HF := Lib.hid hfar
      clear hfar
      go_wp2
      go_ret2
      refine ⟨?_, hR.below⟩
      have e : (((dd zs).length : Int) + (one zs : Int) + (two zs : Int) + ((dd (tab zs)).length : Int)) = (count zs : Int) := by rw [count]; omega
      rw [tkN, tkE, HF.out, e]; rfl
end Tk
end Go.Proofs.Ytjloonijnbfhhaa
