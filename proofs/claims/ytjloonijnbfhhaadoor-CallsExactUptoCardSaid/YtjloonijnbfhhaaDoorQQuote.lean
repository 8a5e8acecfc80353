/- The walks of Unquote and Quote: the program's. -/
import Derived.Test.YtjloonijnbfhhaaDoorQQuoted
import Derived.StillTailTactics
namespace Go.Proofs.YtjloonijnbfhhaaDoor
open Go.RowKit

namespace Qw
/-- What Unquote answers. -/
def ux (l : List UInt8) : List UInt8 := (Cl.unquote l).getD []
def ue (l : List UInt8) : Int := if (Cl.unquote l).isSome then 0 else 250
theorem unquote_bare {l : List UInt8} (h : Cl.bare l = true) : ux l = l ∧ ue l = 0 := by
  have : Cl.unquote l = some l := by unfold Cl.unquote; rw [if_pos h]
  simp [ux, ue, this]
theorem unquote_qd {l : List UInt8} (h : Cl.bare l = false) : Cl.unquote l = match qd l with | some p => if p.2 = l.length then some p.1 else none | none => none := by
  unfold Cl.unquote qd
  rw [h]
  simp only [Bool.false_eq_true, if_false]
  cases l with
  | nil => rfl
  | cons c r =>
    simp only
    split
    · cases Cl.dq r with
      | none => rfl
      | some p => simp
    · rfl
theorem unquote_yes {l : List UInt8} (h : Cl.bare l = false) (hn : 0 < qn l) (hl : qn l = l.length) : ux l = qx l ∧ ue l = 0 := by
  have hu := unquote_qd h
  cases hq : qd l with
  | none => simp [qn, hq] at hn
  | some p =>
    rw [hq] at hu
    have e1 : qn l = p.2 := by simp [qn, hq]
    have e2 : qx l = p.1 := by simp [qx, hq]
    simp only at hu
    rw [if_pos (by omega)] at hu
    simp [ux, ue, hu, e2]
theorem unquote_no {l : List UInt8} (h : Cl.bare l = false) (hn : ¬ (0 < qn l ∧ qn l = l.length)) : ux l = [] ∧ ue l = 250 := by
  have hu := unquote_qd h
  cases hq : qd l with
  | none => rw [hq] at hu; simp [ux, ue, hu]
  | some p =>
    rw [hq] at hu
    have e1 : qn l = p.2 := by simp [qn, hq]
    have hp : 0 < p.2 := by
      unfold qd at hq
      cases l with
      | nil => cases hq
      | cons c r =>
        simp only at hq
        split at hq
        · cases hd : Cl.dq r with
          | none => rw [hd] at hq; cases hq
          | some q => rw [hd] at hq; cases hq; simp
        · cases hq
    simp only at hu
    rw [if_neg (by omega)] at hu
    simp [ux, ue, hu]

set_option maxRecDepth 100000 in
theorem unquote_any (s : ByteArray) (w : World) (hs : s.size ≤ 1000000000000) : Calls Tryd.prog 9 #[.string s] w fun e w' => e = .returned (.tuple #[.string (mk (ux (bs s))), .int .i64 (ue (bs s))]) ∧ Below w.heap.size w w' := by
  have hs' : s.size ≤ 1000000000000000 := by omega
  cases hb : Cl.bare (bs s) with
  | true =>
    have HU := Lib.hid (unquote_bare hb)
    go_enter Tryd.func9, Tryd.ntmps9
    go_wp2_with (go_at_call 27; refine (bare_any _ _ hs').mono ?_; rintro e w' ⟨rfl, rfl⟩)
    go_ret2
    exact ⟨by rw [HU.out.1, HU.out.2]; rfl, Below.refl _ _⟩
  | false =>
    by_cases hn : 0 < qn (bs s) ∧ qn (bs s) = (bs s).length
    · have HU := Lib.hid (unquote_yes hb hn.1 hn.2)
      have h1 : 0 < qn (bs s) := hn.1
      have h2 : ((qn (bs s) : Int) == (s.size : Int)) = true := by rw [beq_iff_eq]; have := bs_len s; omega
      clear hn
      go_enter Tryd.func9, Tryd.ntmps9
      go_wp2_with (first | (go_at_call 27; refine (bare_any _ _ hs').mono ?_; rintro e w' ⟨rfl, rfl⟩) | (go_at_call 28; refine (quoted_any _ _ hs).mono ?_; rintro e w1 ⟨rfl, hb1⟩))
      go_ret2
      exact ⟨by rw [HU.out.1, HU.out.2]; rfl, hb1⟩
    · have HU := Lib.hid (unquote_no hb hn)
      by_cases hp : 0 < qn (bs s)
      · have h2 : ((qn (bs s) : Int) == (s.size : Int)) = false := by rw [beq_eq_false_iff_ne]; have := bs_len s; omega
        clear hn
        go_enter Tryd.func9, Tryd.ntmps9
        go_wp2_with (first | (go_at_call 27; refine (bare_any _ _ hs').mono ?_; rintro e w' ⟨rfl, rfl⟩) | (go_at_call 28; refine (quoted_any _ _ hs).mono ?_; rintro e w1 ⟨rfl, hb1⟩))
        go_ret2
        exact ⟨by rw [HU.out.1, HU.out.2]; rfl, hb1⟩
      · have h1 : qn (bs s) = 0 := by omega
        clear hn hp
        go_enter Tryd.func9, Tryd.ntmps9
        go_wp2_with (first | (go_at_call 27; refine (bare_any _ _ hs').mono ?_; rintro e w' ⟨rfl, rfl⟩) | (go_at_call 28; refine (quoted_any _ _ hs).mono ?_; rintro e w1 ⟨rfl, hb1⟩))
        go_ret2
        exact ⟨by rw [HU.out.1, HU.out.2]; rfl, hb1⟩

/-- The bytes of a quoted word that stand ahead of a place. -/
def pre (l : List UInt8) (k : Nat) : List UInt8 := 34 :: (l.take k).flatMap Cl.esc
theorem pre_len (l : List UInt8) (k : Nat) : (pre l k).length ≤ 4 * k + 1 := by
  have h := (Cl.flat_len (l.take k)).1
  have h2 := List.length_take_le k l
  simp only [pre, List.length_cons]; omega
theorem pre_succ (s : ByteArray) (k : Nat) (h : k < s.size) : pre (bs s) (k + 1) = pre (bs s) k ++ Cl.esc s[k] := by
  unfold pre; rw [bs_take_succ s k h, List.flatMap_append]; simp
theorem quote_pre (s : ByteArray) (h : Cl.bare (bs s) = false) : Cl.quote (bs s) = pre (bs s) s.size ++ [34] := by
  unfold Cl.quote pre
  rw [h, List.take_of_length_le (by rw [bs_len]; exact Nat.le_refl _)]; rfl
theorem and15_fin : ∀ n : Fin 256, bits BinOp.and .u8 (n.val : Int) 15 = ((n.val % 16 : Nat) : Int) := by decide +kernel
theorem and15 (n : Nat) (h : n < 256) : bits BinOp.and .u8 (n : Int) 15 = ((n % 16 : Nat) : Int) := and15_fin ⟨n, h⟩
abbrev digs : ByteArray := ⟨#[48, 49, 50, 51, 52, 53, 54, 55, 56, 57, 97, 98, 99, 100, 101, 102]⟩
theorem dig_hi : ∀ n : Fin 256, ∀ h : n.val / 16 < digs.size, digs[n.val / 16] = Cl.hexd (UInt8.ofNat n.val / 16) := by decide +kernel
theorem dig_lo : ∀ n : Fin 256, ∀ h : n.val % 16 < digs.size, digs[n.val % 16] = Cl.hexd (UInt8.ofNat n.val % 16) := by decide +kernel
theorem dig_hi' (c : UInt8) (h : ((c.toNat : Int) / 16).toNat < digs.size) : digs[((c.toNat : Int) / 16).toNat] = Cl.hexd (c / 16) := by
  have e : ((c.toNat : Int) / 16).toNat = c.toNat / 16 := by omega
  have := dig_hi ⟨c.toNat, c.toNat_lt⟩ (by rw [← e]; exact h)
  simp only [e]
  simpa using this
theorem dig_lo' (c : UInt8) (h : ((c.toNat : Int) % 16).toNat < digs.size) : digs[((c.toNat : Int) % 16).toNat] = Cl.hexd (c % 16) := by
  have e : ((c.toNat : Int) % 16).toNat = c.toNat % 16 := by omega
  have := dig_lo ⟨c.toNat, c.toNat_lt⟩ (by rw [← e]; exact h)
  simp only [e]
  simpa using this
theorem hexCells (c : UInt8) (h1 : ((c.toNat : Int) / 16).toNat < digs.size) (h2 : ((c.toNat : Int) % 16).toNat < digs.size) :
    #[Value.int .u8 92, .int .u8 120, .int .u8 (digs[((c.toNat : Int) / 16).toNat].toNat : Int), .int .u8 (digs[((c.toNat : Int) % 16).toNat].toNat : Int)] = (bytesV [92, 120, Cl.hexd (c / 16), Cl.hexd (c % 16)]).toArray := by
  rw [dig_hi', dig_lo']; rfl
theorem esc_back (c : UInt8) (h : c.toNat = 34 ∨ c.toNat = 92) : Cl.esc c = [92, c] := by
  unfold Cl.esc
  rw [if_pos]
  rcases h with h | h
  · exact .inl ((u8_eq (n := 34) (by omega)).2 h)
  · exact .inr ((u8_eq (n := 92) (by omega)).2 h)
theorem esc_self (c : UInt8) (h : ¬ (c.toNat = 34 ∨ c.toNat = 92)) (h1 : 32 ≤ c.toNat) (h2 : c.toNat ≤ 126) : Cl.esc c = [c] := by
  unfold Cl.esc
  rw [if_neg, if_pos ⟨UInt8.le_iff_toNat_le.2 h1, UInt8.le_iff_toNat_le.2 h2⟩]
  rintro (e | e)
  · exact h (.inl (by rw [e]; rfl))
  · exact h (.inr (by rw [e]; rfl))
theorem esc_hex (c : UInt8) (h : ¬ (32 ≤ c.toNat ∧ c.toNat ≤ 126)) : Cl.esc c = [92, 120, Cl.hexd (c / 16), Cl.hexd (c % 16)] := by
  unfold Cl.esc
  rw [if_neg, if_neg]
  · rintro ⟨h1, h2⟩; exact h ⟨UInt8.le_iff_toNat_le.1 h1, UInt8.le_iff_toNat_le.1 h2⟩
  · rintro (e | e) <;> subst e <;> exact h ⟨by decide, by decide⟩

set_option maxRecDepth 100000 in
set_option maxHeartbeats 2000000 in
theorem quote_any (s : ByteArray) (w : World) (hs : s.size ≤ 1000000000000) : Calls Tryd.prog 11 #[.string s] w fun e w' => e = .returned (.string (mk (Cl.quote (bs s)))) ∧ Below w.heap.size w w' := by
  have hs' : s.size ≤ 1000000000000000 := by omega
  cases hb : Cl.bare (bs s) with
  | true =>
    have HU := Lib.hid (show Cl.quote (bs s) = bs s by unfold Cl.quote; rw [hb]; rfl)
    go_enter Tryd.func11, Tryd.ntmps11
    go_wp2_with (go_at_call 27; refine (bare_any _ _ hs').mono ?_; rintro e w' ⟨rfl, rfl⟩)
    go_ret
    exact ⟨by rw [HU.out]; rfl, Below.refl _ _⟩
  | false =>
    have HU := Lib.hid (quote_pre s hb)
    go_enter Tryd.func11, Tryd.ntmps11
    go_wp2_with (go_at_call 27; refine (bare_any _ _ hs').mono ?_; rintro e w' ⟨rfl, rfl⟩)
    go_loopw [3, 12] (fun v i wr => ∃ k : Nat, k ≤ s.size ∧ i = .int .i64 k ∧ wr.ownsRow w.heap.size 5 1 v (pre (bs s) k).length (bytesV (pre (bs s) k)) ∧ Below w.heap.size w wr) (fun _ i _ => s.size - (intOf i).toNat)
    case atStart =>
      refine ⟨0, Nat.zero_le _, rfl, ?_, (Below.refl _ _).alloc (Nat.le_refl _) _⟩
      exact World.ownsRow_lit w #[.int .u8 34] 1 (Nat.le_refl _) (by unfold maxLen; decide) rfl
    case round =>
      obtain ⟨k, hk, rfl, hown, hnx⟩ := hrel
      clear hb
      have hsz := hnx.size
      have hpl := pre_len (bs s) k
      by_cases hlt : k < s.size
      · have HP := Lib.hid (pre_succ s k hlt)
        have hc := u8_lt s[k]
        by_cases h1 : s[k].toNat = 34 ∨ s[k].toNat = 92
        · have HE := Lib.hid (esc_back s[k] h1)
          rcases h1 with h1 | h1
          all_goals
            go_wp2_with (at_builtin; refine wpList_append_bytes bytesT wr rfl _ _ rfl _ w.heap.size _ (pre (bs s) k) [92, s[k]] 2 (by first | rfl | (simp only [bytesV, List.map_cons, List.map_nil, h1]; rfl)) (by rfl) (by rfl) hown (by rfl) (by simp only [List.length_cons, List.length_nil]; omega) hsz ?_; intro v1 w1 ho1 hg1 _)
            go_roundw
            case rel =>
              refine ⟨k + 1, by omega, by go_num, ?_, hnx.grown hg1 hsz (fun j hj => (hown.lt j hj).1)⟩
              rw [HP.out, HE.out]; exact ho1
            case measure => simp [intOf]; omega
        · have e1 : ((s[k].toNat : Int) == 34) = false := by rw [beq_eq_false_iff_ne]; omega
          have e2 : ((s[k].toNat : Int) == 92) = false := by rw [beq_eq_false_iff_ne]; omega
          by_cases h2 : 32 ≤ s[k].toNat ∧ s[k].toNat ≤ 126
          · have HE := Lib.hid (esc_self s[k] h1 h2.1 h2.2)
            have e3 : decide ((32 : Int) ≤ (s[k].toNat : Int)) = true := by rw [decide_eq_true_eq]; omega
            have e4 : decide ((s[k].toNat : Int) ≤ 126) = true := by rw [decide_eq_true_eq]; omega
            clear h1 h2
            go_wp2_with (at_builtin; refine wpList_append_bytes bytesT wr rfl _ _ rfl _ w.heap.size _ (pre (bs s) k) [s[k]] 1 (by rfl) (by rfl) (by rfl) hown (by rfl) (by simp only [List.length_cons, List.length_nil]; omega) hsz ?_; intro v1 w1 ho1 hg1 _)
            go_roundw
            case rel =>
              refine ⟨k + 1, by omega, by go_num, ?_, hnx.grown hg1 hsz (fun j hj => (hown.lt j hj).1)⟩
              rw [HP.out, HE.out]; exact ho1
            case measure => simp [intOf]; omega
          · have HE := Lib.hid (esc_hex s[k] h2)
            have hand : bits BinOp.and .u8 (s[k].toNat : Int) 15 = ((s[k].toNat % 16 : Nat) : Int) := and15 _ hc
            have q1 : (0 : Int) ≤ (s[k].toNat : Int) / 16 := by omega
            have q2 : (s[k].toNat : Int) / 16 < 16 := by omega
            have q3 : (0 : Int) ≤ (s[k].toNat : Int) % 16 := by omega
            have q4 : (s[k].toNat : Int) % 16 < 16 := by omega
            rcases (show s[k].toNat < 32 ∨ (32 ≤ s[k].toNat ∧ 126 < s[k].toNat) by omega) with h3 | ⟨h3, h4⟩
            · have e3 : decide ((32 : Int) ≤ (s[k].toNat : Int)) = false := by rw [decide_eq_false_iff_not]; omega
              clear h1 h2 h3
              go_wp2
              go_region_held3 (fun _ => True) (trivial) ((refine step_append_bytes_drew bytesT _ rfl _ _ rfl _ w.heap.size _ (pre (bs s) k) [92, 120, Cl.hexd (s[k] / 16), Cl.hexd (s[k] % 16)] 4 (by exact hexCells _ _ _) (by rfl) (by simp) (by rfl) (by exact hown) (by rfl) (by simp only [List.length_cons, List.length_nil]; omega) (by exact hsz) ?_; intro v1 w1 ho1 hg1))
              all_goals
                go_wp2
                go_roundw
                case rel =>
                  refine ⟨k + 1, by omega, by go_num, ?_, hnx.grown hg1 hsz (fun j hj => (hown.lt j hj).1)⟩
                  rw [HP.out, HE.out]; exact ho1
                case measure => simp [intOf]; omega
            · have e3 : decide ((32 : Int) ≤ (s[k].toNat : Int)) = true := by rw [decide_eq_true_eq]; omega
              have e4 : decide ((s[k].toNat : Int) ≤ 126) = false := by rw [decide_eq_false_iff_not]; omega
              clear h1 h2 h3 h4
              go_wp2
              go_region_held3 (fun _ => True) (trivial) ((refine step_append_bytes_drew bytesT _ rfl _ _ rfl _ w.heap.size _ (pre (bs s) k) [92, 120, Cl.hexd (s[k] / 16), Cl.hexd (s[k] % 16)] 4 (by exact hexCells _ _ _) (by rfl) (by simp) (by rfl) (by exact hown) (by rfl) (by simp only [List.length_cons, List.length_nil]; omega) (by exact hsz) ?_; intro v1 w1 ho1 hg1))
              all_goals
                go_wp2
                go_roundw
                case rel =>
                  refine ⟨k + 1, by omega, by go_num, ?_, hnx.grown hg1 hsz (fun j hj => (hown.lt j hj).1)⟩
                  rw [HP.out, HE.out]; exact ho1
                case measure => simp [intOf]; omega
      · have hkz : k = s.size := by omega
        subst hkz
        go_wp2_with (first | (at_builtin; refine wpList_append_bytes bytesT wr rfl _ _ rfl _ w.heap.size _ (pre (bs s) s.size) [34] 1 (by rfl) (by rfl) (by rfl) hown (by rfl) (by simp only [List.length_cons, List.length_nil]; omega) hsz ?_; intro v1 w1 ho1 hg1 _) | (refine wpList_bytes_string bytesT Tryd.underlying9 _ rfl _ rfl w.heap.size _ (pre (bs s) s.size ++ [34]) (by rfl) ho1 ?_))
        go_ret
        exact ⟨by rw [HU.out]; rfl, hnx.grown hg1 hsz (fun j hj => (hown.lt j hj).1)⟩
end Qw
end Go.Proofs.YtjloonijnbfhhaaDoor
