/- The program's answers and the document's are one and the same. -/
import Derived.Test.YtjloonijnbfhhaaDoorERefNames
import Derived.Test.YtjloonijnbfhhaaDoorRBack
namespace Go.Proofs.YtjloonijnbfhhaaDoor
open Go.RowKit Go.Maps Go.WideShapes

namespace Ex
open Qw Rw Tw Er
/-- What both Tells answer. -/
structure Told (c : Cl.PCall) (err : Int) (a : PAns) (nm : List (List UInt8)) (t : List UInt8) : Prop where
  prog : ∀ ao ca w, NamesAt w ao nm → Vars w → Calls Tryd.prog 17 #[.agg #[.int .i64 c.kind, .string (mk c.path), .string (mk c.other), .int .i64 c.off, .int .i64 c.size, .string (mk c.data)], .agg #[.int .i64 err, .int .i64 a.N, .string (mk a.data), .int .i64 a.i, .int .i64 a.k, .int .i64 a.l, .int .i64 a.z, .int .i64 a.b, .slice ao nm.length ca, .int .i64 a.f1, .int .i64 a.f2, .int .i64 a.f3, .int .i64 a.f4]] w fun e w' => e = .returned (.string (mk t)) ∧ Below w.heap.size w w'
  ref : ∀ ao ca w, NamesAt w ao nm → Calls Tryd.prog 18 #[.agg #[.int .i64 c.kind, .string (mk c.path), .string (mk c.other), .int .i64 c.off, .int .i64 c.size, .string (mk c.data)], .agg #[.int .i64 err, .int .i64 a.N, .string (mk a.data), .int .i64 a.i, .int .i64 a.k, .int .i64 a.l, .int .i64 a.z, .int .i64 a.b, .slice ao nm.length ca, .int .i64 a.f1, .int .i64 a.f2, .int .i64 a.f3, .int .i64 a.f4]] w fun e w' => e = .returned (.string (mk t)) ∧ Below w.heap.size w w'
theorem told_is (c : Cl.PCall) (err : Int) (a : PAns) (nm : List (List UInt8)) (hk : Cl.inRange c.kind) (he : Cl.inRange err) (hf : AFits a) (hF : NFits nm) : ∃ t, Told c err a nm t := by
  by_cases h0 : err = 0
  · subst h0
    by_cases hkk : 1 ≤ c.kind ∧ c.kind ≤ 15
    · obtain ⟨kind, path, other, data, off, size⟩ := c
      obtain ⟨m, rfl⟩ : ∃ m : Nat, kind = (m : Int) + 1 := ⟨(kind - 1).toNat, by have := hkk.1; simp only at this; omega⟩
      have hm : m < 15 := by have := hkk.2; simp only at this; omega
      obtain ⟨cmd, ps, hr⟩ := rowsT_at hm
      have h1 : 1 ≤ m + 1 := by omega
      have hn : m + 1 < 16 := by omega
      generalize hc : (⟨(m : Int) + 1, path, other, data, off, size⟩ : Cl.PCall) = c
      have hV : ∀ {w : World}, Vars w → ∀ W, Below w.heap.size w W → Vars W := fun hv W hW => hv.below hW hv.lt
      have hck : c.kind = (m : Int) + 1 := by rw [← hc]
      clear hkk hk
      generalize hn0 : m + 1 = n0 at h1 hn
      have hcn : c.kind = (n0 : Int) := by rw [hck, ← hn0]; rfl
      have hr' : Cl.rowsT[n0 - 1]? = some (cmd, ps) := by rw [← hn0]; exact hr
      rcases (show m = 0 ∨ m = 1 ∨ m = 2 ∨ m = 3 ∨ m = 4 ∨ m = 5 ∨ m = 6 ∨ m = 7 ∨ m = 8 ∨ m = 9 ∨ m = 10 ∨ m = 11 ∨ m = 12 ∨ m = 13 ∨ m = 14 by omega) with h | h | h | h | h | h | h | h | h | h | h | h | h | h | h
      · have ht : told[n0 - 1]? = some 110 := by rw [← hn0, h]; rfl
        have hT : tellF[m]? = some 57 := by rw [h]; rfl
        refine ⟨Lib.itoa a.N, fun ao ca w hN hv => ?_, fun ao ca w hN => ?_⟩
        · rw [hck]
          exact tell_good c a ao nm.length ca w m hm cmd ps _ hr hT _ (fun W hW => by rw [← nums_one]; exact tellN_any a ao nm.length ca W hf (hV hv W hW))
        · rw [hcn]
          exact tell_n c a ao nm.length ca w n0 h1 hn cmd ps hr' ht hf
      · have ht : told[n0 - 1]? = some 110 := by rw [← hn0, h]; rfl
        have hT : tellF[m]? = some 57 := by rw [h]; rfl
        refine ⟨Lib.itoa a.N, fun ao ca w hN hv => ?_, fun ao ca w hN => ?_⟩
        · rw [hck]
          exact tell_good c a ao nm.length ca w m hm cmd ps _ hr hT _ (fun W hW => by rw [← nums_one]; exact tellN_any a ao nm.length ca W hf (hV hv W hW))
        · rw [hcn]
          exact tell_n c a ao nm.length ca w n0 h1 hn cmd ps hr' ht hf
      · have ht : told[n0 - 1]? = some 100 := by rw [← hn0, h]; rfl
        have hT : tellF[m]? = some 58 := by rw [h]; rfl
        refine ⟨Cl.quote a.data, fun ao ca w hN hv => ?_, fun ao ca w hN => ?_⟩
        · rw [hck]
          exact tell_good c a ao nm.length ca w m hm cmd ps _ hr hT _ (fun W hW => tellData_any a ao nm.length ca W hf)
        · rw [hcn]
          exact tell_d c a ao nm.length ca w n0 h1 hn cmd ps hr' ht hf
      · have ht : told[n0 - 1]? = some 110 := by rw [← hn0, h]; rfl
        have hT : tellF[m]? = some 57 := by rw [h]; rfl
        refine ⟨Lib.itoa a.N, fun ao ca w hN hv => ?_, fun ao ca w hN => ?_⟩
        · rw [hck]
          exact tell_good c a ao nm.length ca w m hm cmd ps _ hr hT _ (fun W hW => by rw [← nums_one]; exact tellN_any a ao nm.length ca W hf (hV hv W hW))
        · rw [hcn]
          exact tell_n c a ao nm.length ca w n0 h1 hn cmd ps hr' ht hf
      · have ht : told[n0 - 1]? = some 111 := by rw [← hn0, h]; rfl
        have hT : tellF[m]? = some 59 := by rw [h]; rfl
        refine ⟨[111, 107], fun ao ca w hN hv => ?_, fun ao ca w hN => ?_⟩
        · rw [hck]
          exact tell_good c a ao nm.length ca w m hm cmd ps _ hr hT _ (fun W hW => tellOK_any a ao nm.length ca W)
        · rw [hcn]
          exact tell_o c a ao nm.length ca w n0 h1 hn cmd ps hr' ht
      · have ht : told[n0 - 1]? = some 111 := by rw [← hn0, h]; rfl
        have hT : tellF[m]? = some 59 := by rw [h]; rfl
        refine ⟨[111, 107], fun ao ca w hN hv => ?_, fun ao ca w hN => ?_⟩
        · rw [hck]
          exact tell_good c a ao nm.length ca w m hm cmd ps _ hr hT _ (fun W hW => tellOK_any a ao nm.length ca W)
        · rw [hcn]
          exact tell_o c a ao nm.length ca w n0 h1 hn cmd ps hr' ht
      · have ht : told[n0 - 1]? = some 111 := by rw [← hn0, h]; rfl
        have hT : tellF[m]? = some 59 := by rw [h]; rfl
        refine ⟨[111, 107], fun ao ca w hN hv => ?_, fun ao ca w hN => ?_⟩
        · rw [hck]
          exact tell_good c a ao nm.length ca w m hm cmd ps _ hr hT _ (fun W hW => tellOK_any a ao nm.length ca W)
        · rw [hcn]
          exact tell_o c a ao nm.length ca w n0 h1 hn cmd ps hr' ht
      · have ht : told[n0 - 1]? = some 111 := by rw [← hn0, h]; rfl
        have hT : tellF[m]? = some 59 := by rw [h]; rfl
        refine ⟨[111, 107], fun ao ca w hN hv => ?_, fun ao ca w hN => ?_⟩
        · rw [hck]
          exact tell_good c a ao nm.length ca w m hm cmd ps _ hr hT _ (fun W hW => tellOK_any a ao nm.length ca W)
        · rw [hcn]
          exact tell_o c a ao nm.length ca w n0 h1 hn cmd ps hr' ht
      · have ht : told[n0 - 1]? = some 111 := by rw [← hn0, h]; rfl
        have hT : tellF[m]? = some 59 := by rw [h]; rfl
        refine ⟨[111, 107], fun ao ca w hN hv => ?_, fun ao ca w hN => ?_⟩
        · rw [hck]
          exact tell_good c a ao nm.length ca w m hm cmd ps _ hr hT _ (fun W hW => tellOK_any a ao nm.length ca W)
        · rw [hcn]
          exact tell_o c a ao nm.length ca w n0 h1 hn cmd ps hr' ht
      · have ht : told[n0 - 1]? = some 110 := by rw [← hn0, h]; rfl
        have hT : tellF[m]? = some 57 := by rw [h]; rfl
        refine ⟨Lib.itoa a.N, fun ao ca w hN hv => ?_, fun ao ca w hN => ?_⟩
        · rw [hck]
          exact tell_good c a ao nm.length ca w m hm cmd ps _ hr hT _ (fun W hW => by rw [← nums_one]; exact tellN_any a ao nm.length ca W hf (hV hv W hW))
        · rw [hcn]
          exact tell_n c a ao nm.length ca w n0 h1 hn cmd ps hr' ht hf
      · have ht : told[n0 - 1]? = some 100 := by rw [← hn0, h]; rfl
        have hT : tellF[m]? = some 58 := by rw [h]; rfl
        refine ⟨Cl.quote a.data, fun ao ca w hN hv => ?_, fun ao ca w hN => ?_⟩
        · rw [hck]
          exact tell_good c a ao nm.length ca w m hm cmd ps _ hr hT _ (fun W hW => tellData_any a ao nm.length ca W hf)
        · rw [hcn]
          exact tell_d c a ao nm.length ca w n0 h1 hn cmd ps hr' ht hf
      · have ht : told[n0 - 1]? = some 115 := by rw [← hn0, h]; rfl
        have hT : tellF[m]? = some 60 := by rw [h]; rfl
        refine ⟨nums [a.i, a.k, a.l, a.z, a.b], fun ao ca w hN hv => ?_, fun ao ca w hN => ?_⟩
        · rw [hck]
          exact tell_good c a ao nm.length ca w m hm cmd ps _ hr hT _ (fun W hW => tellStat_any a ao nm.length ca W hf (hV hv W hW))
        · rw [hcn]
          exact tell_s c a ao nm.length ca w n0 h1 hn cmd ps hr' ht hf
      · have ht : told[n0 - 1]? = some 115 := by rw [← hn0, h]; rfl
        have hT : tellF[m]? = some 60 := by rw [h]; rfl
        refine ⟨nums [a.i, a.k, a.l, a.z, a.b], fun ao ca w hN hv => ?_, fun ao ca w hN => ?_⟩
        · rw [hck]
          exact tell_good c a ao nm.length ca w m hm cmd ps _ hr hT _ (fun W hW => tellStat_any a ao nm.length ca W hf (hV hv W hW))
        · rw [hcn]
          exact tell_s c a ao nm.length ca w n0 h1 hn cmd ps hr' ht hf
      · have ht : told[n0 - 1]? = some 108 := by rw [← hn0, h]; rfl
        have hT : tellF[m]? = some 61 := by rw [h]; rfl
        refine ⟨namesT nm, fun ao ca w hN hv => ?_, fun ao ca w hN => ?_⟩
        · rw [hck]
          exact tell_good c a ao nm.length ca w m hm cmd ps _ hr hT _ (fun W hW => tellNames_any a ao ca nm W (hN.below hW (Nat.le_refl _)) hF (hV hv W hW))
        · rw [hcn]
          exact tell_l c a ao ca nm w n0 h1 hn cmd ps hr' ht hN hF
      · have ht : told[n0 - 1]? = some 114 := by rw [← hn0, h]; rfl
        have hT : tellF[m]? = some 62 := by rw [h]; rfl
        refine ⟨nums [a.f1, a.f2, a.f3, a.f4], fun ao ca w hN hv => ?_, fun ao ca w hN => ?_⟩
        · rw [hck]
          exact tell_good c a ao nm.length ca w m hm cmd ps _ hr hT _ (fun W hW => tellRoom_any a ao nm.length ca W hf (hV hv W hW))
        · rw [hcn]
          exact tell_r c a ao nm.length ca w n0 h1 hn cmd ps hr' ht hf
    · exact ⟨[111, 107], fun ao ca w _ _ => Tw.tell_none c a ao nm.length ca w hk hkk, fun ao ca w _ => Er.tell_none c a ao nm.length ca w hkk⟩
  · exact ⟨33 :: 32 :: 69 :: Lib.itoa err, fun ao ca w _ hv => Rw.tell_err c err a.N a.i a.k a.l a.z a.b a.f1 a.f2 a.f3 a.f4 (mk a.data) ao nm.length ca w he h0 hv, fun ao ca w _ => Er.tell_err c a ao nm.length ca w err he h0⟩

/-- What both Prints answer. -/
structure Printed (c : Cl.PCall) (t : List UInt8) (E : Int) : Prop where
  prog : ∀ w, Vars w → Calls Tryd.prog 15 #[.agg #[.int .i64 c.kind, .string (mk c.path), .string (mk c.other), .int .i64 c.off, .int .i64 c.size, .string (mk c.data)]] w fun e w' => e = .returned (.tuple #[.string (mk t), .int .i64 E]) ∧ Below w.heap.size w w'
  ref : ∀ w, Calls Tryd.prog 16 #[.agg #[.int .i64 c.kind, .string (mk c.path), .string (mk c.other), .int .i64 c.off, .int .i64 c.size, .string (mk c.data)]] w fun e w' => e = .returned (.tuple #[.string (mk t), .int .i64 E]) ∧ Below w.heap.size w w'
theorem printed_is (c : Cl.PCall) (hk : Cl.inRange c.kind) (hs : Sized c) (hf : Cl.Fits c) : ∃ t E, Printed c t E := by
  by_cases hkk : 1 ≤ c.kind ∧ c.kind ≤ 15
  · obtain ⟨⟨cmd, ps⟩, hr⟩ := Cl.rowAt_is hkk
    obtain ⟨n, hn, hr2⟩ := Cl.rowAt_some hr
    have hn15 : n < 15 := by omega
    obtain ⟨f, hF⟩ := tellF_at hn15
    obtain ⟨t, ht⟩ : ∃ t, told[n]? = some t := ⟨_, List.getElem?_eq_getElem (by exact hn15)⟩
    have hcn : c.kind = ((n + 1 : Nat) : Int) := by rw [hn]; rfl
    refine ⟨cmd ++ ps.flatMap fun p => 32 :: Cl.text c p, 0, fun w hv => ?_, fun w => ?_⟩
    · rw [hn]
      exact Rw.print_some c w n hn15 cmd ps f hr2 hF hs hf hv
    · rw [hcn]
      exact Er.print_some c w (n + 1) (by omega) (by omega) cmd ps t hr2 ht hs hf
  · exact ⟨[], 1, fun w _ => Rw.print_none c w hk hkk, fun w => Er.print_none c w hkk⟩
/-- What both Parses answer. -/
structure Parsed (s : ByteArray) (z : Cl.PCall) (E : Int) : Prop where
  prog : ∀ w, Vars w → Calls Tryd.prog 13 #[.string s] w fun e w' => e = .returned (.tuple #[.agg #[.int .i64 z.kind, .string (mk z.path), .string (mk z.other), .int .i64 z.off, .int .i64 z.size, .string (mk z.data)], .int .i64 E]) ∧ Below w.heap.size w w'
  ref : ∀ w, Calls Tryd.prog 14 #[.string s] w fun e w' => e = .returned (.tuple #[.agg #[.int .i64 z.kind, .string (mk z.path), .string (mk z.other), .int .i64 z.off, .int .i64 z.size, .string (mk z.data)], .int .i64 E]) ∧ Below w.heap.size w w'
theorem parse_ref (s : ByteArray) (w : World) (hs : s.size ≤ 1000000000000) : Calls Tryd.prog 14 #[.string s] w (PParse w (Cl.parse (bs s))) := by
  cases h : Cl.toks Cl.tokR (bs s) with
  | none => exact Er.parse_bad s w hs h
  | some l =>
    cases l with
    | nil => exact Er.parse_nil s w hs h
    | cons t ts =>
      have e : Cl.parse (bs s) = Cl.parseToks (t :: ts) := parse_cutR h
      rw [e]
      exact Er.parse_go s w hs t ts h
theorem parsed_is (s : ByteArray) (hs : s.size ≤ 1000000000000) : ∃ z E, Parsed s z E :=
  ⟨(Cl.parse (bs s)).getD (Cl.zero 0), if (Cl.parse (bs s)).isSome then 0 else 250, fun w hv => (parse_any s w hs hv).mono fun _ _ ⟨hb, he⟩ => ⟨he, hb⟩, fun w => (parse_ref s w hs).mono fun _ _ ⟨hb, he⟩ => ⟨he, hb⟩⟩
theorem run_neq_call (A : Cl.PCall) (w : World) : (binOp .neq 23 (.agg #[.int .i64 A.kind, .string (mk A.path), .string (mk A.other), .int .i64 A.off, .int .i64 A.size, .string (mk A.data)]) (.agg #[.int .i64 A.kind, .string (mk A.path), .string (mk A.other), .int .i64 A.off, .int .i64 A.size, .string (mk A.data)])).run Tryd.prog w = .ok (.bool false) w := by
  simp only [binOp]
  simp [Op.equal, Op.maxDepth, go_sem]
end Ex
end Go.Proofs.YtjloonijnbfhhaaDoor
