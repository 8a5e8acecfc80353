/- The walks of quoted words and of Unquote: the program's. -/
import Derived.Test.YtjloonijnbfhhaaDoorQMark
import Derived.Lib.IndexBytes
namespace Go.Proofs.YtjloonijnbfhhaaDoor
open Go.RowKit

namespace Qw
/-- What quoted answers. -/
def qd (l : List UInt8) : Option (List UInt8 × Nat) := match l with
  | [] => none
  | c :: r => if c = 34 then (Cl.dq r).map (fun p => (p.1, p.2 + 1)) else none
def qx (l : List UInt8) : List UInt8 := ((qd l).map (·.1)).getD []
def qn (l : List UInt8) : Nat := ((qd l).map (·.2)).getD 0

/-- The words that have been read ahead of a place. -/
def Ahead (l : List UInt8) (k : Nat) (acc : List UInt8) : Prop := qd l = (Cl.dq (l.drop k)).map (fun p => (acc ++ p.1, k + p.2))
theorem ahead0 {r : List UInt8} : Ahead (34 :: r) 1 [] := by
  unfold Ahead qd
  simp only [if_true, List.drop_succ_cons, List.drop_zero, List.nil_append]
  cases Cl.dq r with
  | none => rfl
  | some p => simp [Nat.add_comm]
theorem ahead_end {s : ByteArray} {k : Nat} {acc : List UInt8} (h : Ahead (bs s) k acc) (hk : k < s.size) (hc : s[k].toNat = 34) : qx (bs s) = acc ∧ qn (bs s) = k + 1 := by
  unfold Ahead at h
  rw [bs_drop s k hk, (u8_eq (n := 34) (by omega)).2 hc] at h
  have h34 : (UInt8.ofNat 34 : UInt8) = 34 := rfl
  rw [h34, Cl.dq_end] at h
  simp [qx, qn, h]
theorem ahead_none {s : ByteArray} {k : Nat} {acc : List UInt8} (h : Ahead (bs s) k acc) (hk : k < s.size) (hc : s[k].toNat ≠ 34) (hm : mn ((bs s).drop k) = 0) : qx (bs s) = [] ∧ qn (bs s) = 0 := by
  unfold Ahead at h
  have hne : s[k] ≠ 34 := fun e => hc (by rw [e]; rfl)
  have hmn : Cl.mark ((bs s).drop k) = none := by
    cases hq : Cl.mark ((bs s).drop k) with
    | none => rfl
    | some p =>
      obtain ⟨x, n⟩ := p
      have := Cl.mark_pos hq
      simp only [mn, hq, Option.map_some, Option.getD_some] at hm
      omega
  rw [bs_drop s k hk] at h hmn
  rw [Cl.dq_none_of_mark hne hmn] at h
  simp [qx, qn, h]
theorem ahead_out {s : ByteArray} {k : Nat} {acc : List UInt8} (h : Ahead (bs s) k acc) (hk : s.size ≤ k) : qx (bs s) = [] ∧ qn (bs s) = 0 := by
  unfold Ahead at h
  rw [List.drop_eq_nil_of_le (by rw [bs_len]; exact hk), Cl.dq_nil] at h
  simp [qx, qn, h]
theorem ahead_step {s : ByteArray} {k : Nat} {acc : List UInt8} (h : Ahead (bs s) k acc) (hk : k < s.size) (hc : s[k].toNat ≠ 34) (hm : mn ((bs s).drop k) ≠ 0) :
    Ahead (bs s) (k + mn ((bs s).drop k)) (acc ++ [mx ((bs s).drop k)]) ∧ k + mn ((bs s).drop k) ≤ s.size := by
  unfold Ahead at *
  have hne : s[k] ≠ 34 := fun e => hc (by rw [e]; rfl)
  cases hq : Cl.mark ((bs s).drop k) with
  | none => simp [mn, hq] at hm
  | some p =>
    obtain ⟨x, n⟩ := p
    have hp := Cl.mark_pos hq
    have e1 : mn ((bs s).drop k) = n := by simp [mn, hq]
    have e2 : mx ((bs s).drop k) = x := by simp [mx, hq]
    rw [e1, e2]
    rw [List.length_drop, bs_len] at hp
    refine ⟨?_, by omega⟩
    rw [h]
    have hq' := hq
    rw [bs_drop s k hk] at hq'
    rw [bs_drop s k hk, Cl.dq_some_of_mark hne hq', ← bs_drop s k hk, List.drop_drop]
    cases Cl.dq ((bs s).drop (k + n)) with
    | none => rfl
    | some p => simp [Nat.add_assoc]
theorem qd_no {s : ByteArray} (h : ∀ hp : 0 < s.size, s[0].toNat ≠ 34) : qx (bs s) = [] ∧ qn (bs s) = 0 := by
  have : qd (bs s) = none := by
    cases hb : bs s with
    | nil => rfl
    | cons c r =>
      have hp : 0 < s.size := by have := bs_len s; rw [hb] at this; simp only [List.length_cons] at this; omega
      have h1 := bs1 s hp
      rw [hb] at h1
      have hc : c = s[0] := by injection h1
      unfold qd
      simp only
      rw [if_neg]
      intro e
      exact h hp (by rw [← hc, e]; rfl)
  simp [qx, qn, this]
theorem extract_drop (s : ByteArray) (k : Nat) : bs (s.extract k s.size) = (bs s).drop k := Lib.extract_to_end s k

set_option maxRecDepth 100000 in
set_option maxHeartbeats 2000000 in
theorem quoted_any (s : ByteArray) (w : World) (hs : s.size ≤ 1000000000000) : Calls Tryd.prog 28 #[.string s] w fun e w' => e = .returned (.tuple #[.string (mk (qx (bs s))), .int .i64 (qn (bs s))]) ∧ Below w.heap.size w w' := by
  by_cases h0 : s.size = 0
  · obtain ⟨hd, _⟩ := empty_of h0
    have HQ := Lib.hid (qd_no (s := s) (fun h => by omega))
    go_enter Tryd.func28, Tryd.ntmps28
    go_wp2
    go_ret2
    exact ⟨by rw [HQ.out.1, HQ.out.2]; rfl, Below.refl _ _⟩
  · have hp : 0 < s.size := by omega
    have hd := nonempty_of hp
    by_cases hq : s[0].toNat = 34
    · have h0' : Ahead (bs s) 1 [] := by
        have e : s[0] = 34 := (u8_eq (n := 34) (by omega)).2 hq
        rw [bs1 s hp, e]; exact ahead0
      have H0 := Lib.hid h0'
      clear h0'
      have hb34 : ((s[0].toNat : Int) != 34) = false := by rw [bne_eq_false_iff_eq]; omega
      clear hq
      go_enter Tryd.func28, Tryd.ntmps28
      go_wp2
      go_loopw [4, 5] (fun v i wr => ∃ (k : Nat) (acc : List UInt8), k ≤ s.size ∧ 1 ≤ k ∧ acc.length < k ∧ i = .int .i64 k ∧ Ahead (bs s) k acc ∧ wr.ownsRow w.heap.size 5 1 v acc.length (bytesV acc) ∧ Below w.heap.size w wr) (fun _ i _ => s.size - (intOf i).toNat)
      case atStart => exact ⟨1, [], by omega, by omega, by decide, rfl, H0.out, World.ownsRow_nil _ _ _ _, Below.refl _ _⟩
      case round =>
        obtain ⟨k, acc, hk, hk1, hacc, rfl, hA, hown, hnx⟩ := hrel
        have HA := Lib.hid hA
        clear hA H0 hb34 hd
        by_cases hlt : k < s.size
        · by_cases hc : s[k].toNat = 34
          · have HE := Lib.hid (ahead_end HA.out hlt hc)
            have hcb : ((s[k].toNat : Int) == 34) = true := by rw [beq_iff_eq]; omega
            clear hc
            go_wp2_with (refine wpList_bytes_string bytesT Tryd.underlying9 _ rfl _ rfl _ _ acc rfl hown ?_)
            go_ret2
            exact ⟨by rw [HE.out.1, HE.out.2]; rfl, hnx⟩
          · have hcb : ((s[k].toNat : Int) == 34) = false := by rw [beq_eq_false_iff_ne]; omega
            have hsz := hnx.size
            have hex := extract_drop s k
            have HX := Lib.hid hex
            have HL : (s.extract k s.size).size ≤ 1000000000000000 := by rw [← bs_len, hex, List.length_drop, bs_len]; omega
            clear hex
            by_cases hm : mn ((bs s).drop k) = 0
            · have HN := Lib.hid (ahead_none HA.out hlt hc hm)
              clear hc
              go_wp2_with (go_at_call 47; refine (mark_any _ _ HL).mono ?_; rw [HX.out]; rintro e w' ⟨rfl, nq, rfl⟩)
              go_ret2
              exact ⟨by rw [HN.out.1, HN.out.2]; rfl, below_drewN hnx _⟩
            · have HN := Lib.hid (ahead_step HA.out hlt hc hm)
              have hmb : ((mn ((bs s).drop k) : Int) == 0) = false := by rw [beq_eq_false_iff_ne]; omega
              have hmx : (mn ((bs s).drop k) : Int) ≤ s.size := by have := HN.out.2; omega
              clear hc
              go_wp2_with (first | (go_at_call 47; refine (mark_any _ _ HL).mono ?_; rw [HX.out]; rintro e w2 ⟨rfl, nq, hq2⟩; have hown2 := own_drewN hown nq; rw [← hq2] at hown2; have hnx2 := below_drewN hnx nq; rw [← hq2] at hnx2; have hsz2 := hnx2.size; clear hq2) | (at_builtin; refine wpList_append_bytes bytesT w2 rfl _ _ rfl _ w.heap.size _ acc [mx ((bs s).drop k)] 1 (by rfl) (by rfl) (by rfl) hown2 (by rfl) (by simp only [List.length_cons, List.length_nil]; omega) hsz2 ?_; intro v1 w1 ho1 hg1 _))
              go_roundw
              case rel =>
                refine ⟨k + mn ((bs s).drop k), _, HN.out.2, by omega, by simp only [List.length_append, List.length_cons, List.length_nil]; omega, by go_num, HN.out.1, ho1, ?_⟩
                exact hnx2.grown hg1 hsz2 (fun j hj => (hown2.lt j hj).1)
              case measure => simp [intOf]; omega
        · have HN := Lib.hid (ahead_out HA.out (by omega))
          go_wp2
          go_ret2
          exact ⟨by rw [HN.out.1, HN.out.2]; rfl, hnx⟩
    · have HQ := Lib.hid (qd_no (s := s) (fun _ => hq))
      have hb34 : ((s[0].toNat : Int) != 34) = true := by rw [bne_iff_ne]; omega
      clear hq
      go_enter Tryd.func28, Tryd.ntmps28
      go_wp2
      go_ret2
      exact ⟨by rw [HQ.out.1, HQ.out.2]; rfl, Below.refl _ _⟩
end Qw
end Go.Proofs.YtjloonijnbfhhaaDoor
