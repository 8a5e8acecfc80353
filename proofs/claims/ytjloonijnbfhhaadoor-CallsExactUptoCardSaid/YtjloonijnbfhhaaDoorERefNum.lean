/- The walks of the document's numbers in decimal: how one is written, and read. -/
import Derived.Test.YtjloonijnbfhhaaDoorERefWalk
import Derived.Test.YtjloonijnbfhhaaDoorCallsNum
import Derived.PlainAid
namespace Go.Proofs.YtjloonijnbfhhaaDoor
open Go.RowKit

namespace Er
open Qw
theorem mk_add (a b : List UInt8) : mk a ++ mk b = mk (a ++ b) := (ByteArray.mk_append_mk _ _).trans (by simp [mk])
theorem dec_len (u : Nat) (h : u < 18446744073709551616) : (Lib.decDigits u).length ≤ 20 := Cl.dec_len 20 u (by decide) (by omega)

set_option maxRecDepth 100000 in
set_option maxHeartbeats 2000000 in
theorem unsigned_any (u : Nat) (w : World) (hu : u < 18446744073709551616) : Calls Tryd.prog 63 #[.int .u64 u] w fun e w' => e = .returned (.string (mk (Lib.decDigits u))) ∧ Below w.heap.size w w' := by
  have hdl := dec_len u hu
  go_enter Tryd.func63, Tryd.ntmps63
  go_wp2
  go_loopw [0, 3] (fun n s wr => ∃ (m : Nat) (acc : List UInt8), m < 18446744073709551616 ∧ n = .int .u64 m ∧ s = .string (mk acc) ∧ Hid (Lib.decDigits u = Lib.decDigits m ++ acc) ∧ Below w.heap.size w wr) (fun n _ _ => (intOf n).toNat)
  case atStart => exact ⟨u, [], hu, rfl, rfl, by show _ = _; simp, Below.refl _ _⟩
  case round =>
    obtain ⟨m, acc, hm, rfl, rfl, HD, hnx⟩ := hrel
    have hsz := hnx.size
    have hal : acc.length ≤ 20 := by have := congrArg List.length HD.out; rw [List.length_append] at this; omega
    obtain ⟨dg, hdg⟩ : ∃ dg, UInt8.ofNat (48 + m % 10) = dg := ⟨_, rfl⟩
    have hd := (Cl.dig_of (m % 10) (by omega)).2
    rw [hdg] at hd
    have hcs : #[Value.int .u8 (48 + (m : Int) % 10)] = (bytesV [dg]).toArray := by
      have e : (48 + (m : Int) % 10) = (dg.toNat : Int) := by rw [hd]; omega
      rw [e]; rfl
    have hown : (wr.alloc (.cells #[Value.int .u8 (48 + (m : Int) % 10)] 5)).ownsRow wr.heap.size 5 1 (.slice (some ⟨wr.heap.size, 0, none⟩) 1 1) 1 (bytesV [dg]) := by
      have := World.ownsRow_lit (base := wr.heap.size) (e := 5) (size := 1) wr #[Value.int .u8 (48 + (m : Int) % 10)] 1 (Nat.le_refl _) (by unfold maxLen; decide) rfl
      rw [hcs] at this ⊢
      exact this
    have HO := Lib.hid hown
    have HDG := Lib.hid hdg
    have z1 : ¬ 9223372036854775807 < (mk [dg]).size + (mk acc).size := by rw [mk_size, mk_size]; simp only [List.length_cons, List.length_nil]; omega
    clear hd hcs hown hdg
    by_cases hs : m < 10
    · have HS := Lib.hid (show Lib.decDigits u = dg :: acc by
        have e : m % 10 = m := by omega
        rw [HD.out, Cl.dec_small hs, ← HDG.out, e]; rfl)
      have hq : (m : Int) / 10 = 0 := by omega
      go_wp2_with (refine wpList_bytes_string bytesT Tryd.underlying9 _ rfl _ rfl wr.heap.size _ [dg] (by rfl) HO.out ?_)
      go_ret
      refine ⟨?_, hnx.alloc hsz _⟩
      rw [mk_add, HS.out]; rfl
    · have HS := Lib.hid (show Lib.decDigits u = Lib.decDigits (m / 10) ++ (dg :: acc) by rw [HD.out, Cl.dec_big hs, HDG.out]; simp)
      go_wp2_with (refine wpList_bytes_string bytesT Tryd.underlying9 _ rfl _ rfl wr.heap.size _ [dg] (by rfl) HO.out ?_)
      go_roundw
      case rel => exact ⟨m / 10, dg :: acc, by omega, by go_num, by rw [mk_add]; rfl, HS, hnx.alloc hsz _⟩
      case measure => simp [intOf]; omega

set_option maxRecDepth 100000 in
theorem decimal_any (n : Int) (w : World) (hn : Cl.inRange n) : Calls Tryd.prog 37 #[.int .i64 n] w fun e w' => e = .returned (.string (mk (Lib.itoa n))) ∧ Below w.heap.size w w' := by
  obtain ⟨h1, h2⟩ := hn
  by_cases h : n < 0
  · have HI := Lib.hid (show Lib.itoa n = 45 :: Lib.decDigits n.natAbs by unfold Lib.itoa; rw [if_pos h])
    have hdl := dec_len n.natAbs (by omega)
    have e1 : IntKind.u64.wrap n = n + 18446744073709551616 := PlainAid.u64_neg h (by omega)
    have e2 : IntKind.u64.wrap (-(n + 18446744073709551616)) = -n := by
      rw [PlainAid.u64_neg (by omega) (by omega)]; omega
    have z1 : ¬ 9223372036854775807 < 1 + (mk (Lib.decDigits n.natAbs)).size := by rw [mk_size]; omega
    have hc : ∀ W, Calls Tryd.prog 63 #[.int .u64 (-n)] W fun e w' => e = .returned (.string (mk (Lib.decDigits n.natAbs))) ∧ Below W.heap.size W w' := fun W => by
      have := unsigned_any n.natAbs W (by omega)
      rw [show ((n.natAbs : Nat) : Int) = -n by omega] at this
      exact this
    have HC := Lib.hid hc
    clear hc
    go_enter Tryd.func37, Tryd.ntmps37
    go_wp2_with fail
    refine (HC.out _).mono ?_
    rintro e w' ⟨rfl, hb⟩
    go_wp2
    go_ret
    refine ⟨?_, hb⟩
    rw [HI.out]
    exact ret_str (mk_add [45] (Lib.decDigits n.natAbs))
  · have HI := Lib.hid (show Lib.itoa n = Lib.decDigits n.toNat by unfold Lib.itoa; rw [if_neg h])
    have hc : ∀ W, Calls Tryd.prog 63 #[.int .u64 n] W fun e w' => e = .returned (.string (mk (Lib.decDigits n.toNat))) ∧ Below W.heap.size W w' := fun W => by
      have := unsigned_any n.toNat W (by omega)
      rw [show ((n.toNat : Nat) : Int) = n by omega] at this
      exact this
    have HC := Lib.hid hc
    have h0 : 0 ≤ n := by omega
    clear hc h
    go_enter Tryd.func37, Tryd.ntmps37
    go_wp2_with fail
    refine (HC.out _).mono ?_
    rintro e w' ⟨rfl, hb⟩
    go_wp2
    go_ret
    exact ⟨by rw [HI.out]; rfl, hb⟩

/-- What the document's number answers. -/
def NR (s : ByteArray) (w : World) (e : Ending) (w' : World) : Prop :=
  (∃ n, e = .returned (.tuple #[.int .i64 n, .bool (Cl.num (bs s)).isSome]) ∧ ∀ m, Cl.num (bs s) = some m → n = m) ∧ w = w'
theorem num_none {s : ByteArray} {w : World} {n : Int} (h : Cl.num (bs s) = none) : NR s w (.returned (.tuple #[.int .i64 n, .bool false])) w :=
  ⟨⟨n, by rw [h]; rfl, fun m hm => by rw [h] at hm; cases hm⟩, rfl⟩
theorem num_noneb {s : ByteArray} {w : World} {n : Int} {b : Bool} (hb : b = false) (h : Cl.num (bs s) = none) : NR s w (.returned (.tuple #[.int .i64 n, .bool b])) w := by
  subst hb; exact num_none h
theorem num_some {s : ByteArray} {w : World} {n : Int} (h : Cl.num (bs s) = some n) : NR s w (.returned (.tuple #[.int .i64 n, .bool true])) w :=
  ⟨⟨n, by rw [h]; rfl, fun m hm => by rw [h] at hm; exact Option.some.inj hm⟩, rfl⟩
/-- What a text is behind its sign. -/
def Signed (s T : ByteArray) (neg : Bool) : Prop := Cl.num (bs s) = Cl.numT neg (bs T)
theorem bad_num {s T : ByteArray} {neg : Bool} (h : Signed s T neg) (hb : Cl.badT neg (bs T) = true) : Cl.num (bs s) = none := by
  unfold Signed at h
  rw [h, Cl.numT, if_pos hb]
theorem val_lt : ∀ (t : List UInt8), t.all Cl.isDig = true → ∀ k, t.length ≤ k → Cl.val 0 t < 10 ^ k := by
  intro t
  generalize hl : t.length = n
  induction n generalizing t with
  | zero => intro _ k _; have : t = [] := List.length_eq_zero_iff.1 hl; subst this; exact Nat.pow_pos (by decide)
  | succ n ih =>
    intro ha k hk
    obtain ⟨s, x, rfl⟩ : ∃ s x, t = s ++ [x] := ⟨t.dropLast, t.getLast (by rintro rfl; simp at hl), (List.dropLast_concat_getLast _).symm⟩
    rw [List.all_append, Bool.and_eq_true] at ha
    have hx := Cl.dig_nat (by simpa using ha.2 : Cl.isDig x = true)
    have h1 := ih s (by simpa using hl) ha.1 (k - 1) (by omega)
    rw [Cl.val_app, Cl.val_cons]
    simp only [Cl.val, List.foldl_nil] at *
    have h2 : 10 ^ k = 10 ^ (k - 1) * 10 := by rw [← Nat.pow_succ, show (k - 1).succ = k by omega]
    omega
theorem pow_19 {k : Nat} (h : k ≤ 19) : 10 ^ k ≤ 10000000000000000000 := Nat.le_trans (Nat.pow_le_pow_right (by decide) h) (by decide)
theorem pow_18 {k : Nat} (h : k ≤ 18) : 10 ^ k ≤ 1000000000000000000 := Nat.le_trans (Nat.pow_le_pow_right (by decide) h) (by decide)
theorem val_step (T : ByteArray) (k : Nat) (hk : k < T.size) (hd : 48 ≤ T[k].toNat ∧ T[k].toNat ≤ 57) (ha : ((bs T).take k).all Cl.isDig = true) : Cl.val 0 ((bs T).take (k + 1)) = Cl.val 0 ((bs T).take k) * 10 + (T[k].toNat - 48) ∧ ((bs T).take (k + 1)).all Cl.isDig = true := by
  rw [bs_take_succ T k hk, Cl.val_app, List.all_append, ha]
  refine ⟨rfl, ?_⟩
  simp only [List.all_cons, List.all_nil, Bool.and_true, Bool.true_and, Cl.isDig, decide_eq_true_eq, UInt8.le_iff_toNat_le]
  exact hd
theorem bad_digit {neg : Bool} (T : ByteArray) (k : Nat) (hk : k < T.size) (hd : ¬ (48 ≤ T[k].toNat ∧ T[k].toNat ≤ 57)) : Cl.badT neg (bs T) = true := by
  have hm : T[k] ∈ bs T := List.mem_of_getElem? (bs_get T k hk)
  have hn : Cl.isDig T[k] = false := by
    simp only [Cl.isDig, decide_eq_false_iff_not, UInt8.le_iff_toNat_le]
    exact hd
  have : (bs T).all Cl.isDig = false := by rw [List.all_eq_false]; exact ⟨_, hm, by simp [hn]⟩
  simp [Cl.badT, this]
theorem good_neg {s T : ByteArray} (h : Signed s T true) (h0 : 0 < T.size) (h19 : ¬ 19 < T.size) (hh : (bs T).head? = some T[0]) (h48 : ¬ T[0].toNat = 48) (n : Nat) (ha : (bs T).all Cl.isDig = true) : Cl.num (bs s) = (if n = Cl.val 0 (bs T) then (if n ≤ 9223372036854775808 then some (-(n : Int)) else none) else Cl.num (bs s)) := by
  split
  · rename_i e
    have hb : Cl.badT true (bs T) = false := by
      have h1 : (bs T).isEmpty = false := by cases hq : bs T with
        | nil => rw [hq] at hh; cases hh
        | cons a b => rfl
      have h2 : T[0] ≠ 48 := fun e => h48 (by rw [e]; rfl)
      have h3 := bs_len T
      simp [Cl.badT, h1, ha, hh, h2]; omega
    unfold Signed at h
    rw [h, Cl.numT, hb, ← e]; simp
  · rfl
theorem good_pos {s T : ByteArray} (h : Signed s T false) (h0 : 0 < T.size) (h19 : ¬ 19 < T.size) (hh : (bs T).head? = some T[0]) (h48 : ¬ (T[0].toNat = 48 ∧ 1 < T.size)) (n : Nat) (ha : (bs T).all Cl.isDig = true) : Cl.num (bs s) = (if n = Cl.val 0 (bs T) then (if n < 9223372036854775808 then some (n : Int) else none) else Cl.num (bs s)) := by
  split
  · rename_i e
    have hb : Cl.badT false (bs T) = false := by
      have h1 : (bs T).isEmpty = false := by cases hq : bs T with
        | nil => rw [hq] at hh; cases hh
        | cons a b => rfl
      have h3 := bs_len T
      have h2 : ¬ (T[0] = 48 ∧ 1 < (bs T).length) := by
        rintro ⟨e1, e2⟩
        exact h48 ⟨by rw [e1]; rfl, by omega⟩
      have h4 : ¬ 19 < (bs T).length := by omega
      rw [not_and] at h2
      simp only [Cl.badT, h1, ha, hh, Option.some.injEq, Bool.or_false, Bool.false_or, Bool.not_true, decide_eq_false h4]
      by_cases e1 : T[0] = 48
      · simp [e1, h2 e1]
      · simp [e1]
    unfold Signed at h
    rw [h, Cl.numT, hb, ← e]; simp
  · rfl

set_option maxRecDepth 100000 in
set_option maxHeartbeats 4000000 in
theorem number_neg (s : ByteArray) (w : World) (hs : s.size ≤ 1000000000000) (h0 : 0 < s.size) (h45 : s[0].toNat = 45) (T : ByteArray) (hT : s.extract 1 s.size = T) : Calls Tryd.prog 36 #[.string s] w (NR s w) := by
  have hnum : Signed s T true := by
    unfold Signed
    rw [← hT, extract_drop, bs1 s h0, (u8_eq (n := 45) (by omega)).2 h45]; rfl
  have HN := Lib.hid hnum
  have hsne := nonempty_of h0
  have hs1 : (1 : Int) ≤ (s.size : Int) := by omega
  have g45 : ((s[0].toNat : Int) == 45) = true := by rw [beq_iff_eq]; omega
  clear hnum h45
  by_cases hz : T.size = 0
  · have HB := Lib.hid (bad_num (neg := true) HN.out (by simp [Cl.badT, (empty_of hz).2]))
    obtain ⟨he, _⟩ := empty_of hz
    go_enter Tryd.func36, Tryd.ntmps36
    go_wp2
    go_ret2
    exact num_none HB.out
  · have hne := nonempty_of (s := T) (by omega)
    skip
    by_cases h19 : 19 < T.size
    · have HB := Lib.hid (bad_num (neg := true) HN.out (by have := bs_len T; simp [Cl.badT]; omega))
      have h19i : (19 : Int) < (T.size : Int) := by omega
      clear h19
      go_enter Tryd.func36, Tryd.ntmps36
      go_wp2
      go_ret2
      exact num_none HB.out
    · have h19i : (T.size : Int) ≤ 19 := by omega
      have hp : 0 < T.size := by omega
      have HH := Lib.hid (show (bs T).head? = some T[0] by rw [bs1 T hp]; rfl)
      by_cases h48 : T[0].toNat = 48
      · have HB := Lib.hid (bad_num (neg := true) HN.out (by
          have e : T[0] = 48 := (u8_eq (n := 48) (by omega)).2 h48
          simp [Cl.badT, HH.out, e]))
        have g48 : ((T[0].toNat : Int) == 48) = true := by rw [beq_iff_eq]; omega
        clear h48
        rcases (show T.size = 1 ∨ 1 < T.size by omega) with h1 | h1
        · have h1i : (T.size : Int) ≤ 1 := by omega
          clear h1
          go_enter Tryd.func36, Tryd.ntmps36
          go_wp2
          go_ret2
          exact num_none HB.out
        · have h1i : (1 : Int) < (T.size : Int) := by omega
          clear h1
          go_enter Tryd.func36, Tryd.ntmps36
          go_wp2
          go_ret2
          exact num_none HB.out
      · have g48 : ((T[0].toNat : Int) == 48) = false := by rw [beq_eq_false_iff_ne]; omega
        have HG := Lib.hid (show ∀ n, ((bs T).all Cl.isDig = true) → Cl.num (bs s) = (if n = Cl.val 0 (bs T) then (if n ≤ 9223372036854775808 then some (-(n : Int)) else none) else Cl.num (bs s)) from good_neg HN.out (by omega) h19 HH.out h48)
        clear h48
        go_enter Tryd.func36, Tryd.ntmps36
        go_wp2
        go_loop [5, 6] (fun n i => ∃ k : Nat, k ≤ T.size ∧ i = .int .i64 k ∧ n = .int .u64 (Cl.val 0 ((bs T).take k)) ∧ ((bs T).take k).all Cl.isDig = true) (fun _ i => T.size - (intOf i).toNat)
        case atStart => exact ⟨0, Nat.zero_le _, rfl, rfl, rfl⟩
        case round =>
          obtain ⟨k, hk, rfl, rfl, ha⟩ := hrel
          have HA := Lib.hid ha
          have hv := val_lt ((bs T).take k) ha k (List.length_take_le _ _)
          have hv19 := pow_19 (k := k) (by omega)
          clear ha
          by_cases hlt : k < T.size
          · have hc := u8_lt T[k]
            by_cases hd : 48 ≤ T[k].toNat ∧ T[k].toNat ≤ 57
            · have HS := Lib.hid (val_step T k hlt hd HA.out)
              have hv18 := pow_18 (k := k) (by omega)
              obtain ⟨hd1, hd2⟩ := hd
              have g1 : decide ((T[k].toNat : Int) < 48) = false := by rw [decide_eq_false_iff_not]; omega
              have g2 : decide ((57 : Int) < (T[k].toNat : Int)) = false := by rw [decide_eq_false_iff_not]; omega
              have hvi : (Cl.val 0 ((bs T).take k) : Int) ≤ 1000000000000000000 := by omega
              clear hv hv19 hv18
              go_wp2
              go_round
              case rel => exact ⟨k + 1, by omega, by go_num, by rw [HS.out.1]; go_num, HS.out.2⟩
              case measure => simp [intOf]; omega
            · have HB := Lib.hid (bad_num (neg := true) HN.out (bad_digit T k hlt hd))
              clear hv hv19
              rcases (show T[k].toNat < 48 ∨ (48 ≤ T[k].toNat ∧ 57 < T[k].toNat) by omega) with h | ⟨h, h'⟩
              all_goals
                clear hd
                go_wp2
                go_ret2
                exact num_none HB.out
          · obtain rfl : k = T.size := by omega
            have hat : (bs T).take T.size = bs T := List.take_of_length_le (by rw [bs_len]; exact Nat.le_refl _)
            have HG2 := Lib.hid (HG.out (Cl.val 0 (bs T)) (by have := HA.out; rwa [hat] at this))
            have HAT := Lib.hid hat
            rw [hat] at hv
            generalize hV : Cl.val 0 ((bs T).take T.size) = V
            have HV := Lib.hid (show Cl.val 0 (bs T) = V by rw [← hV, HAT.out])
            have hv2 : V < 10000000000000000000 := by have := HV.out; omega
            clear hV hv hat hv19
            rcases (show V ≤ 9223372036854775808 ∨ 9223372036854775808 < V by omega) with hb | hb
            · by_cases hv0 : V = 0
              · have HV0 := Lib.hid hv0
                clear hb
                subst hv0
                go_wp2
                go_ret2
                exact num_some (n := 0) (by rw [HG2.out, HV.out]; rfl)
              · have e1 : IntKind.u64.wrap (-(V : Int)) = 18446744073709551616 - V := by rw [PlainAid.u64_neg (by omega) (by omega)]; omega
                have e2 : IntKind.i64.wrap (18446744073709551616 - (V : Int)) = -(V : Int) := by rw [PlainAid.i64_high (by omega) (by omega)]; omega
                have hbi : (V : Int) ≤ 9223372036854775808 := by omega
                have HBB := Lib.hid hb
                clear hb hv0
                go_wp2
                go_ret2
                exact num_some (n := -(V : Int)) (by rw [HG2.out, HV.out]; simp [HBB.out])
            · have hbi : (9223372036854775808 : Int) < (V : Int) := by omega
              have HBB := Lib.hid hb
              clear hb
              go_wp2
              go_ret2
              exact num_noneb (by rw [decide_eq_false_iff_not]; omega) (by rw [HG2.out, HV.out]; have := HBB.out; simp; omega)

set_option maxRecDepth 100000 in
set_option maxHeartbeats 4000000 in
theorem number_pos (s : ByteArray) (w : World) (hs : s.size ≤ 1000000000000) (h45 : ∀ h0 : 0 < s.size, s[0].toNat ≠ 45) : Calls Tryd.prog 36 #[.string s] w (NR s w) := by
  have hnum : Signed s s false := by
    unfold Signed
    cases hb : bs s with
    | nil => rfl
    | cons c r =>
      have h0 : 0 < s.size := by rw [← bs_len, hb]; simp
      have e := bs1 s h0
      rw [hb] at e
      injection e with e1 e2
      rw [Cl.num_cons, if_neg]
      intro e
      exact h45 h0 (by rw [← e1, e]; rfl)
  have HN := Lib.hid hnum
  clear hnum
  by_cases hz : s.size = 0
  · have HB := Lib.hid (bad_num (neg := false) HN.out (by simp [Cl.badT, (empty_of hz).2]))
    obtain ⟨he, _⟩ := empty_of hz
    go_enter Tryd.func36, Tryd.ntmps36
    go_wp2
    go_ret2
    exact num_none HB.out
  · have hne := nonempty_of (s := s) (by omega)
    have g45 : ((s[0].toNat : Int) == 45) = false := by have := h45 (by omega); rw [beq_eq_false_iff_ne]; omega
    clear h45
    by_cases h19 : 19 < s.size
    · have HB := Lib.hid (bad_num (neg := false) HN.out (by have := bs_len s; simp [Cl.badT]; omega))
      have h19i : (19 : Int) < (s.size : Int) := by omega
      clear h19
      go_enter Tryd.func36, Tryd.ntmps36
      go_wp2
      go_ret2
      exact num_none HB.out
    · have h19i : (s.size : Int) ≤ 19 := by omega
      have hp : 0 < s.size := by omega
      have HH := Lib.hid (show (bs s).head? = some s[0] by rw [bs1 s hp]; rfl)
      by_cases h48 : s[0].toNat = 48 ∧ 1 < s.size
      · have HB := Lib.hid (bad_num (neg := false) HN.out (by
          have e : s[0] = 48 := (u8_eq (n := 48) (by omega)).2 h48.1
          have := bs_len s
          simp [Cl.badT, HH.out, e]; omega))
        have g48 : ((s[0].toNat : Int) == 48) = true := by rw [beq_iff_eq]; omega
        have h1i : (1 : Int) < (s.size : Int) := by omega
        clear h48
        go_enter Tryd.func36, Tryd.ntmps36
        go_wp2
        go_ret2
        exact num_none HB.out
      · have HG := Lib.hid (show ∀ n, ((bs s).all Cl.isDig = true) → Cl.num (bs s) = (if n = Cl.val 0 (bs s) then (if n < 9223372036854775808 then some (n : Int) else none) else Cl.num (bs s)) from good_pos HN.out (by omega) h19 HH.out h48)
        rcases (show s[0].toNat ≠ 48 ∨ (s[0].toNat = 48 ∧ s.size ≤ 1) by omega) with h48' | ⟨h48', h1⟩
        · have g48 : ((s[0].toNat : Int) == 48) = false := by rw [beq_eq_false_iff_ne]; omega
          clear h48 h48'
          go_enter Tryd.func36, Tryd.ntmps36
          go_wp2
          go_loop [5, 6] (fun n i => ∃ k : Nat, k ≤ s.size ∧ i = .int .i64 k ∧ n = .int .u64 (Cl.val 0 ((bs s).take k)) ∧ ((bs s).take k).all Cl.isDig = true) (fun _ i => s.size - (intOf i).toNat)
          case atStart => exact ⟨0, Nat.zero_le _, rfl, rfl, rfl⟩
          case round =>
            obtain ⟨k, hk, rfl, rfl, ha⟩ := hrel
            have HA := Lib.hid ha
            have hv := val_lt ((bs s).take k) ha k (List.length_take_le _ _)
            have hv19 := pow_19 (k := k) (by omega)
            clear ha
            by_cases hlt : k < s.size
            · have hc := u8_lt s[k]
              by_cases hd : 48 ≤ s[k].toNat ∧ s[k].toNat ≤ 57
              · have HS := Lib.hid (val_step s k hlt hd HA.out)
                have hv18 := pow_18 (k := k) (by omega)
                obtain ⟨hd1, hd2⟩ := hd
                have g1 : decide ((s[k].toNat : Int) < 48) = false := by rw [decide_eq_false_iff_not]; omega
                have g2 : decide ((57 : Int) < (s[k].toNat : Int)) = false := by rw [decide_eq_false_iff_not]; omega
                have hvi : (Cl.val 0 ((bs s).take k) : Int) ≤ 1000000000000000000 := by omega
                clear hv hv19 hv18
                go_wp2
                go_round
                case rel => exact ⟨k + 1, by omega, by go_num, by rw [HS.out.1]; go_num, HS.out.2⟩
                case measure => simp [intOf]; omega
              · have HB := Lib.hid (bad_num (neg := false) HN.out (bad_digit s k hlt hd))
                clear hv hv19
                rcases (show s[k].toNat < 48 ∨ (48 ≤ s[k].toNat ∧ 57 < s[k].toNat) by omega) with h | ⟨h, h'⟩
                all_goals
                  clear hd
                  go_wp2
                  go_ret2
                  exact num_none HB.out
            · obtain rfl : k = s.size := by omega
              have hat : (bs s).take s.size = bs s := List.take_of_length_le (by rw [bs_len]; exact Nat.le_refl _)
              have HG2 := Lib.hid (HG.out (Cl.val 0 (bs s)) (by have := HA.out; rwa [hat] at this))
              have HAT := Lib.hid hat
              rw [hat] at hv
              generalize hV : Cl.val 0 ((bs s).take s.size) = V
              have HV := Lib.hid (show Cl.val 0 (bs s) = V by rw [← hV, HAT.out])
              have hv2 : V < 10000000000000000000 := by have := HV.out; omega
              clear hV hv hat hv19
              rcases (show V < 9223372036854775808 ∨ 9223372036854775808 ≤ V by omega) with hb | hb
              · have hbi : (V : Int) < 9223372036854775808 := by omega
                have HBB := Lib.hid hb
                clear hb
                go_wp2
                go_ret2
                exact num_some (n := (V : Int)) (by rw [HG2.out, HV.out]; simp [HBB.out])
              · have hbi : (9223372036854775808 : Int) ≤ (V : Int) := by omega
                have HBB := Lib.hid hb
                clear hb
                go_wp2
                go_ret2
                exact num_noneb (by rw [decide_eq_false_iff_not]; omega) (by rw [HG2.out, HV.out]; have := HBB.out; simp; omega)
        · have g48 : ((s[0].toNat : Int) == 48) = true := by rw [beq_iff_eq]; omega
          have h1i : (s.size : Int) ≤ 1 := by omega
          clear h48 h48' h1
          go_enter Tryd.func36, Tryd.ntmps36
          go_wp2
          go_loop [5, 6] (fun n i => ∃ k : Nat, k ≤ s.size ∧ i = .int .i64 k ∧ n = .int .u64 (Cl.val 0 ((bs s).take k)) ∧ ((bs s).take k).all Cl.isDig = true) (fun _ i => s.size - (intOf i).toNat)
          case atStart => exact ⟨0, Nat.zero_le _, rfl, rfl, rfl⟩
          case round =>
            obtain ⟨k, hk, rfl, rfl, ha⟩ := hrel
            have HA := Lib.hid ha
            have hv := val_lt ((bs s).take k) ha k (List.length_take_le _ _)
            have hv19 := pow_19 (k := k) (by omega)
            clear ha
            by_cases hlt : k < s.size
            · have hc := u8_lt s[k]
              by_cases hd : 48 ≤ s[k].toNat ∧ s[k].toNat ≤ 57
              · have HS := Lib.hid (val_step s k hlt hd HA.out)
                have hv18 := pow_18 (k := k) (by omega)
                obtain ⟨hd1, hd2⟩ := hd
                have g1 : decide ((s[k].toNat : Int) < 48) = false := by rw [decide_eq_false_iff_not]; omega
                have g2 : decide ((57 : Int) < (s[k].toNat : Int)) = false := by rw [decide_eq_false_iff_not]; omega
                have hvi : (Cl.val 0 ((bs s).take k) : Int) ≤ 1000000000000000000 := by omega
                clear hv hv19 hv18
                go_wp2
                go_round
                case rel => exact ⟨k + 1, by omega, by go_num, by rw [HS.out.1]; go_num, HS.out.2⟩
                case measure => simp [intOf]; omega
              · have HB := Lib.hid (bad_num (neg := false) HN.out (bad_digit s k hlt hd))
                clear hv hv19
                rcases (show s[k].toNat < 48 ∨ (48 ≤ s[k].toNat ∧ 57 < s[k].toNat) by omega) with h | ⟨h, h'⟩
                all_goals
                  clear hd
                  go_wp2
                  go_ret2
                  exact num_none HB.out
            · obtain rfl : k = s.size := by omega
              have hat : (bs s).take s.size = bs s := List.take_of_length_le (by rw [bs_len]; exact Nat.le_refl _)
              have HG2 := Lib.hid (HG.out (Cl.val 0 (bs s)) (by have := HA.out; rwa [hat] at this))
              have HAT := Lib.hid hat
              rw [hat] at hv
              generalize hV : Cl.val 0 ((bs s).take s.size) = V
              have HV := Lib.hid (show Cl.val 0 (bs s) = V by rw [← hV, HAT.out])
              have hv2 : V < 10000000000000000000 := by have := HV.out; omega
              clear hV hv hat hv19
              rcases (show V < 9223372036854775808 ∨ 9223372036854775808 ≤ V by omega) with hb | hb
              · have hbi : (V : Int) < 9223372036854775808 := by omega
                have HBB := Lib.hid hb
                clear hb
                go_wp2
                go_ret2
                exact num_some (n := (V : Int)) (by rw [HG2.out, HV.out]; simp [HBB.out])
              · have hbi : (9223372036854775808 : Int) ≤ (V : Int) := by omega
                have HBB := Lib.hid hb
                clear hb
                go_wp2
                go_ret2
                exact num_noneb (by rw [decide_eq_false_iff_not]; omega) (by rw [HG2.out, HV.out]; have := HBB.out; simp; omega)

theorem number_any (s : ByteArray) (w : World) (hs : s.size ≤ 1000000000000) : Calls Tryd.prog 36 #[.string s] w (NR s w) := by
  by_cases h : ∃ h0 : 0 < s.size, s[0].toNat = 45
  · obtain ⟨h0, h45⟩ := h
    exact number_neg s w hs h0 h45 _ rfl
  · exact number_pos s w hs (fun h0 e => h ⟨h0, e⟩)
end Er
end Go.Proofs.YtjloonijnbfhhaaDoor
