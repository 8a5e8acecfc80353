/- Laws for slices of bytes that the call owns: what is appended, and the text that they make. -/
import Derived.Test.YtnmgdlmicgbapaaDoorGen
import Derived.Laws.IdiomStrings
import Derived.Deep.AppendLies
import Derived.Deep.RegionHeld3
namespace Go.Proofs.YtnmgdlmicgbapaaDoor
open Go.RowKit

/-- A text's bytes. -/
def bs (s : ByteArray) : List UInt8 := s.data.toList
/-- A text of these bytes. -/
def mk (l : List UInt8) : ByteArray := ⟨l.toArray⟩
theorem bs_mk (l : List UInt8) : bs (mk l) = l := rfl
theorem mk_bs (s : ByteArray) : mk (bs s) = s := rfl
theorem bs_len (s : ByteArray) : (bs s).length = s.size := rfl
theorem mk_size (l : List UInt8) : (mk l).size = l.length := rfl
theorem bs_inj {s t : ByteArray} (h : bs s = bs t) : s = t := by rw [← mk_bs s, ← mk_bs t, h]
theorem bs_get (s : ByteArray) (k : Nat) (h : k < s.size) : (bs s)[k]? = some s[k] := by
  have : (bs s)[k]? = some ((bs s)[k]'h) := List.getElem?_eq_getElem h
  rw [this]; rfl
theorem bs_take_succ (s : ByteArray) (k : Nat) (h : k < s.size) : (bs s).take (k + 1) = (bs s).take k ++ [s[k]] := by
  rw [List.take_succ_eq_append_getElem (by simpa [bs] using h)]; rfl
theorem bs_drop (s : ByteArray) (k : Nat) (h : k < s.size) : (bs s).drop k = s[k] :: (bs s).drop (k + 1) := by
  rw [List.drop_eq_getElem_cons (by simpa [bs] using h)]; rfl
theorem toList_bs (s : ByteArray) : s.toList = bs s := ByteArray.toList_eq s
theorem empty_of {s : ByteArray} (h : s.size = 0) : s.toList.isEmpty = true ∧ bs s = [] := by
  have h1 : bs s = [] := List.length_eq_zero_iff.1 h
  rw [toList_bs, h1]; exact ⟨rfl, rfl⟩
theorem nonempty_of {s : ByteArray} (h : 0 < s.size) : s.toList.isEmpty = false := by
  rw [toList_bs]
  cases hq : bs s with
  | nil => have := bs_len s; rw [hq] at this; simp only [List.length_nil] at this; omega
  | cons a b => rfl
theorem u8_lt (c : UInt8) : c.toNat < 256 := c.toNat_lt
theorem ret_bool {a b : Bool} (h : a = b) : Ending.returned (.bool a) = .returned (.bool b) := by rw [h]
theorem ret_int {k : IntKind} {a b : Int} (h : a = b) : Ending.returned (.int k a) = .returned (.int k b) := by rw [h]
theorem ret_str {a b : ByteArray} (h : a = b) : Ending.returned (.string a) = .returned (.string b) := by rw [h]
theorem ret_mk {a : ByteArray} {l : List UInt8} (h : bs a = l) : Ending.returned (.string a) = .returned (.string (mk l)) := by rw [← h]; rfl
theorem ret_two {a b c d : Value} (h : a = c) (h' : b = d) : Ending.returned (.tuple #[a, b]) = .returned (.tuple #[c, d]) := by rw [h, h']

/-- Bytes as cells. -/
def bytesV (l : List UInt8) : List Value := l.map fun c => Value.int .u8 c.toNat
theorem bytesV_len (l : List UInt8) : (bytesV l).length = l.length := by simp [bytesV]
theorem bytesV_app (l r : List UInt8) : bytesV (l ++ r) = bytesV l ++ bytesV r := by simp [bytesV]
theorem bytesV_one (l : List UInt8) : ∀ u ∈ bytesV l, u.oneCell' = true := by
  intro u hu
  obtain ⟨c, _, rfl⟩ := List.mem_map.1 hu
  rfl

/-- The types []byte and byte of a program. -/
structure BytesT (P : Program) (S T : TypeId) : Prop where
  und : P.underlying S = some (.slice T)
  elem : P.underlying T = some (.int .u8)
  info : (P.info? T).map (fun i => (i.zero, i.size, i.bytes)) = some (some (.int .u8 0), 1, 1)

theorem news_new (w : World) (l : List Value) (t : TypeId) : ∀ j u, l[j]? = some u → (w.alloc (.cells l.toArray t)).cell? ((⟨w.heap.size, 0, none⟩ : Addr).add j) = some u := by
  intro j u hj
  have hjl := (List.getElem?_eq_some_iff.1 hj).1
  rw [Addr.add_lit, Nat.zero_add]
  simp only [World.cell?]
  rw [heap_alloc_new]
  simpa using hj

/-- 'out = append(out, x, y ..)', out bytes that the call owns. -/
theorem wpList_append_bytes {P : Program} {S T : TypeId} (B : BytesT P S T) (W : World) {ops : Array Oper} {rest : List Oper} {o : Oper} {a : Act} {Q : Exit → Act → World → Prop} (hgd : o.guard = none) (s x : Operand)
    (ho : o.op = .call { callee := .builtin .append, args := #[s, x], argTypes := #[S, S] }) (cs : Array Value) (base : Nat) (v : Value) (l k : List UInt8) (m : Nat) (hk : cs = (bytesV k).toArray) (hm : m = k.length)
    (hs : a.eval s = v) (hown : W.ownsRow base T 1 v l.length (bytesV l)) (hx : a.eval x = .slice (some ⟨W.heap.size, 0, none⟩) m m)
    (hlen : l.length + k.length ≤ 140737488355328) (hbase : base ≤ W.heap.size)
    (h : ∀ v' w', w'.ownsRow base T 1 v' (l ++ k).length (bytesV (l ++ k)) → W.grownBy w' v.ownBlock → (v'.ownBlock = v.ownBlock ∨ ∃ g, v'.ownBlock = some g ∧ W.heap.size ≤ g) → wpList P ops Q rest (a.put o.dst v') w') :
    wpList P ops Q (o :: rest) a (W.alloc (.cells cs T)) := by
  obtain ⟨i0, hi, hz0, hz1, hz2⟩ := info_parts B.info
  subst hk; subst hm
  refine wpList_append_own_at _ hgd s x S ho base T i0 (.int .u8 0) 1 1 B.und hi hz0 hz1 hz2 rfl (by decide) v _ _ hs (hown.alloc _) ⟨W.heap.size, 0, none⟩ k.length k.length (bytesV k) hx (by simp [bytesV]) (news_new _ _ _) (bytesV_one k) (by unfold maxLen; omega) (by omega) (by simp; omega) ?_
  intro v' w' ho' hg' _ hat
  rw [← bytesV_app, ← List.length_append] at ho'
  refine h v' w' ho' ((World.grownBy_alloc W _ _).trans hg') ?_
  rcases hat with e | e
  · exact .inl e
  · exact .inr ⟨_, e, by simp⟩

/-- .. in a region that draws its order. -/
theorem step_append_bytes {P : Program} {S T : TypeId} (B : BytesT P S T) (W : World) {ops : Array Oper} {o : Oper} {a : Act} {K : Act → World → Prop} {Q : Exit → Act → World → Prop} {E : Prop} (hgd : o.guard = none) (s x : Operand)
    (ho : o.op = .call { callee := .builtin .append, args := #[s, x], argTypes := #[S, S] }) (cs : Array Value) (base : Nat) (v : Value) (l k : List UInt8) (m : Nat) (hk : cs = (bytesV k).toArray) (hm : m = k.length) (hpos : 0 < k.length)
    (hs : a.eval s = v) (hown : W.ownsRow base T 1 v l.length (bytesV l)) (hx : a.eval x = .slice (some ⟨W.heap.size, 0, none⟩) m m)
    (hlen : l.length + k.length ≤ 140737488355328) (hbase : base ≤ W.heap.size)
    (h : ∀ v' w', w'.ownsRow base T 1 v' (l ++ k).length (bytesV (l ++ k)) → W.grownBy w' v.ownBlock → K (a.put o.dst v') w') :
    if Region.wanted o (yielded ops a.tmps) = true then Oper.wp P o a (W.alloc (.cells cs T)) K Q else E := by
  obtain ⟨i0, hi, hz0, hz1, hz2⟩ := info_parts B.info
  subst hk; subst hm
  refine step_append_lies _ hgd s x S ho base T i0 (.int .u8 0) 1 1 B.und hi hz0 hz1 hz2 rfl (by decide) v _ _ hs (hown.alloc _) ⟨W.heap.size, 0, none⟩ k.length k.length (bytesV k) hx (by simp [bytesV]) (news_new _ _ _) (bytesV_one k) hpos (by unfold maxLen; omega) (by omega) (by simp; omega) _ rfl ?_
  intro g cap w' ho' hg' _ _
  rw [← bytesV_app] at ho'
  refine h _ w' ?_ ((World.grownBy_alloc W _ _).trans hg')
  rw [List.length_append]; exact ho'

/-- .. behind a region's draw. -/
theorem step_append_bytes_drew {P : Program} {S T : TypeId} (B : BytesT P S T) (W : World) {ops : Array Oper} {o : Oper} {a : Act} {K : Act → World → Prop} {Q : Exit → Act → World → Prop} {E : Prop} (hgd : o.guard = none) (s x : Operand)
    (ho : o.op = .call { callee := .builtin .append, args := #[s, x], argTypes := #[S, S] }) (cs : Array Value) (base : Nat) (v : Value) (l k : List UInt8) (m : Nat) (hk : cs = (bytesV k).toArray) (hm : m = k.length) (hpos : 0 < k.length)
    (hs : a.eval s = v) (hown : W.ownsRow base T 1 v l.length (bytesV l)) (hx : a.eval x = .slice (some ⟨W.heap.size, 0, none⟩) m m)
    (hlen : l.length + k.length ≤ 140737488355328) (hbase : base ≤ W.heap.size)
    (h : ∀ v' w', w'.ownsRow base T 1 v' (l ++ k).length (bytesV (l ++ k)) → W.grownBy w' v.ownBlock → K (a.put o.dst v') w') :
    if Region.wanted o (yielded ops a.tmps) = true then Oper.wp P o a (W.alloc (.cells cs T)).drew K Q else E := by
  obtain ⟨i0, hi, hz0, hz1, hz2⟩ := info_parts B.info
  subst hk; subst hm
  refine step_append_lies _ hgd s x S ho base T i0 (.int .u8 0) 1 1 B.und hi hz0 hz1 hz2 rfl (by decide) v _ _ hs ((hown.alloc _).drew) ⟨W.heap.size, 0, none⟩ k.length k.length (bytesV k) hx (by simp [bytesV]) (news_new _ _ _) (bytesV_one k) hpos (by unfold maxLen; omega) (by omega) (by simp; omega) _ rfl ?_
  intro g cap w' ho' hg' _ _
  rw [← bytesV_app] at ho'
  have hg0 := World.grownBy_alloc W (.cells (bytesV k).toArray T) v.ownBlock
  refine h _ w' ?_ ((show W.grownBy (W.alloc (.cells (bytesV k).toArray T)).drew v.ownBlock from ⟨hg0.os, hg0.tape, hg0.output, hg0.size, hg0.block⟩).trans hg')
  rw [List.length_append]; exact ho'

/-- 'string(out)', out bytes that the call owns. -/
theorem wpList_bytes_string {P : Program} {S T D : TypeId} (B : BytesT P S T) (hd : P.underlying D = some .string) (w : World) {ops : Array Oper} {rest : List Oper} {o : Oper} {a : Act} {Q : Exit → Act → World → Prop} (hgd : o.guard = none) (s : Operand)
    (ho : o.op = Op.convert S D s) (base : Nat) (v : Value) (l : List UInt8) (hs : a.eval s = v) (hown : w.ownsRow base T 1 v l.length (bytesV l))
    (h : wpList P ops Q rest (a.put o.dst (.string (mk l))) w) : wpList P ops Q (o :: rest) a w := by
  refine wpList_plain hgd fun K hK => ?_
  have hrun : (convert S D v).run P w = .ok (.string (mk l)) w := by
    rcases hown.2 with ⟨rfl, hn⟩ | ⟨g, cap, cur, rfl, _⟩
    · have hl : l = [] := List.length_eq_zero_iff.1 hn
      subst hl
      rw [run_convert_bytes_string w S D T none 0 0 B.und B.elem hd]
      simp [Conv.bytesToString, Sem.run_pure]
      rfl
    · refine run_convert_bytes_back w S D T ⟨g, 0, none⟩ cap l B.und B.elem hd ?_
      intro j hj
      have := hown.cellAt j (by omega)
      rw [Addr.add_lit, Nat.zero_add, this]
      simp [bytesV, hj]
  unfold Oper.wp
  simp [execOp, ho, hs, hrun, Result.andThen]
  exact hK _ _ h

/-- A quiet callee in a region that draws its order: the caller's world on the left. -/
theorem quiet_left {P : Program} {f : FuncId} {args : Array Value} {w : World} {n : Nat} {v : Value}
    (h : Calls P f args (w.drewN n) fun e w' => e = .returned v ∧ w.drewN n = w') : Calls P f args (w.drewN n) fun e w'' => e = .returned v ∧ ∃ m, w'' = w.drewN m :=
  h.mono fun _ _ ⟨he, hm⟩ => ⟨he, n, hm.symm⟩
theorem own_drewN {w : World} {base : Nat} {e : TypeId} {size : Nat} {v : Value} {n : Nat} {xs : List Value} (h : w.ownsRow base e size v n xs) (k : Nat) : (w.drewN k).ownsRow base e size v n xs := h
theorem draws0 (w : World) : w = w.drewN 0 := rfl
end Go.Proofs.YtnmgdlmicgbapaaDoor
