/- Laws for slices of bytes that the call owns: what is appended, and the text that they make. -/
import Derived.Test.YtegplehbcdeeoaaGreatDoorChkB01
import Derived.Laws.IdiomStrings
import Derived.Deep.AppendLies
import Derived.Deep.RegionHeld3
import Derived.Lib.AppendZerosOnto
import Derived.Lib.AppendStr
import Derived.Test.YtegplehbcdeeoaaGreatDoorChecked
import Derived.WalkLawsBesides
import Derived.WalkSmall
import Derived.Lib.Hide
namespace Go.Proofs.YtegplehbcdeeoaaGreatDoor
open Go.RowKit

/-- A text's bytes. -/
def bs (s : ByteArray) : List UInt8 := s.data.toList
/-- A text of these bytes. -/
def mk (l : List UInt8) : ByteArray := ⟨l.toArray⟩
theorem bs_mk (l : List UInt8) : bs (mk l) = l := rfl
theorem mk_bs (s : ByteArray) : mk (bs s) = s := rfl
theorem bs_len (s : ByteArray) : (bs s).length = s.size := rfl
theorem mk_size (l : List UInt8) : (mk l).size = l.length := rfl
theorem bs_inj {s t : ByteArray} (h : bs s = bs t) : s = t := by rw [← mk_bs s, ← mk_bs t, h]
theorem bs_get (s : ByteArray) (k : Nat) (h : k < s.size) : (bs s)[k]? = some s[k] := by
  have : (bs s)[k]? = some ((bs s)[k]'h) := List.getElem?_eq_getElem h
  rw [this]; rfl
theorem bs_take_succ (s : ByteArray) (k : Nat) (h : k < s.size) : (bs s).take (k + 1) = (bs s).take k ++ [s[k]] := by
  rw [List.take_succ_eq_append_getElem (by simpa [bs] using h)]; rfl
theorem bs_drop (s : ByteArray) (k : Nat) (h : k < s.size) : (bs s).drop k = s[k] :: (bs s).drop (k + 1) := by
  rw [List.drop_eq_getElem_cons (by simpa [bs] using h)]; rfl
theorem toList_bs (s : ByteArray) : s.toList = bs s := ByteArray.toList_eq s
theorem empty_of {s : ByteArray} (h : s.size = 0) : s.toList.isEmpty = true ∧ bs s = [] := by
  have h1 : bs s = [] := List.length_eq_zero_iff.1 h
  rw [toList_bs, h1]; exact ⟨rfl, rfl⟩
theorem nonempty_of {s : ByteArray} (h : 0 < s.size) : s.toList.isEmpty = false := by
  rw [toList_bs]
  cases hq : bs s with
  | nil => have := bs_len s; rw [hq] at this; simp only [List.length_nil] at this; omega
  | cons a b => rfl
theorem u8_lt (c : UInt8) : c.toNat < 256 := c.toNat_lt
theorem ret_bool {a b : Bool} (h : a = b) : Ending.returned (.bool a) = .returned (.bool b) := by rw [h]
theorem ret_int {k : IntKind} {a b : Int} (h : a = b) : Ending.returned (.int k a) = .returned (.int k b) := by rw [h]
theorem ret_str {a b : ByteArray} (h : a = b) : Ending.returned (.string a) = .returned (.string b) := by rw [h]
theorem ret_mk {a : ByteArray} {l : List UInt8} (h : bs a = l) : Ending.returned (.string a) = .returned (.string (mk l)) := by rw [← h]; rfl
theorem ret_two {a b c d : Value} (h : a = c) (h' : b = d) : Ending.returned (.tuple #[a, b]) = .returned (.tuple #[c, d]) := by rw [h, h']

/-- Bytes as cells. -/
def bytesV (l : List UInt8) : List Value := l.map fun c => Value.int .u8 c.toNat
theorem bytesV_len (l : List UInt8) : (bytesV l).length = l.length := by simp [bytesV]
theorem bytesV_app (l r : List UInt8) : bytesV (l ++ r) = bytesV l ++ bytesV r := by simp [bytesV]
theorem bytesV_one (l : List UInt8) : ∀ u ∈ bytesV l, u.oneCell' = true := by
  intro u hu
  obtain ⟨c, _, rfl⟩ := List.mem_map.1 hu
  rfl

/-- The types []byte and byte of a program. -/
structure BytesT (P : Program) (S T : TypeId) : Prop where
  und : P.underlying S = some (.slice T)
  elem : P.underlying T = some (.int .u8)
  info : (P.info? T).map (fun i => (i.zero, i.size, i.bytes)) = some (some (.int .u8 0), 1, 1)

theorem news_new (w : World) (l : List Value) (t : TypeId) : ∀ j u, l[j]? = some u → (w.alloc (.cells l.toArray t)).cell? ((⟨w.heap.size, 0, none⟩ : Addr).add j) = some u := by
  intro j u hj
  have hjl := (List.getElem?_eq_some_iff.1 hj).1
  rw [Addr.add_lit, Nat.zero_add]
  simp only [World.cell?]
  rw [heap_alloc_new]
  simpa using hj

/-- 'out = append(out, x, y ..)', out bytes that the call owns. -/
theorem wpList_append_bytes {P : Program} {S T : TypeId} (B : BytesT P S T) (W : World) {ops : Array Oper} {rest : List Oper} {o : Oper} {a : Act} {Q : Exit → Act → World → Prop} (hgd : o.guard = none) (s x : Operand)
    (ho : o.op = .call { callee := .builtin .append, args := #[s, x], argTypes := #[S, S] }) (cs : Array Value) (base : Nat) (v : Value) (l k : List UInt8) (m : Nat) (hk : cs = (bytesV k).toArray) (hm : m = k.length)
    (hs : a.eval s = v) (hown : W.ownsRow base T 1 v l.length (bytesV l)) (hx : a.eval x = .slice (some ⟨W.heap.size, 0, none⟩) m m)
    (hlen : l.length + k.length ≤ 140737488355328) (hbase : base ≤ W.heap.size)
    (h : ∀ v' w', w'.ownsRow base T 1 v' (l ++ k).length (bytesV (l ++ k)) → W.grownBy w' v.ownBlock → (v'.ownBlock = v.ownBlock ∨ ∃ g, v'.ownBlock = some g ∧ W.heap.size ≤ g) → wpList P ops Q rest (a.put o.dst v') w') :
    wpList P ops Q (o :: rest) a (W.alloc (.cells cs T)) := by
  obtain ⟨i0, hi, hz0, hz1, hz2⟩ := info_parts B.info
  subst hk; subst hm
  refine wpList_append_own_at _ hgd s x S ho base T i0 (.int .u8 0) 1 1 B.und hi hz0 hz1 hz2 rfl (by decide) v _ _ hs (hown.alloc _) ⟨W.heap.size, 0, none⟩ k.length k.length (bytesV k) hx (by simp [bytesV]) (news_new _ _ _) (bytesV_one k) (by unfold maxLen; omega) (by omega) (by simp; omega) ?_
  intro v' w' ho' hg' _ hat
  rw [← bytesV_app, ← List.length_append] at ho'
  refine h v' w' ho' ((World.grownBy_alloc W _ _).trans hg') ?_
  rcases hat with e | e
  · exact .inl e
  · exact .inr ⟨_, e, by simp⟩

/-- .. in a region that draws its order. -/
theorem step_append_bytes {P : Program} {S T : TypeId} (B : BytesT P S T) (W : World) {ops : Array Oper} {o : Oper} {a : Act} {K : Act → World → Prop} {Q : Exit → Act → World → Prop} {E : Prop} (hgd : o.guard = none) (s x : Operand)
    (ho : o.op = .call { callee := .builtin .append, args := #[s, x], argTypes := #[S, S] }) (cs : Array Value) (base : Nat) (v : Value) (l k : List UInt8) (m : Nat) (hk : cs = (bytesV k).toArray) (hm : m = k.length) (hpos : 0 < k.length)
    (hs : a.eval s = v) (hown : W.ownsRow base T 1 v l.length (bytesV l)) (hx : a.eval x = .slice (some ⟨W.heap.size, 0, none⟩) m m)
    (hlen : l.length + k.length ≤ 140737488355328) (hbase : base ≤ W.heap.size)
    (h : ∀ v' w', w'.ownsRow base T 1 v' (l ++ k).length (bytesV (l ++ k)) → W.grownBy w' v.ownBlock → K (a.put o.dst v') w') :
    if Region.wanted o (yielded ops a.tmps) = true then Oper.wp P o a (W.alloc (.cells cs T)) K Q else E := by
  obtain ⟨i0, hi, hz0, hz1, hz2⟩ := info_parts B.info
  subst hk; subst hm
  refine step_append_lies _ hgd s x S ho base T i0 (.int .u8 0) 1 1 B.und hi hz0 hz1 hz2 rfl (by decide) v _ _ hs (hown.alloc _) ⟨W.heap.size, 0, none⟩ k.length k.length (bytesV k) hx (by simp [bytesV]) (news_new _ _ _) (bytesV_one k) hpos (by unfold maxLen; omega) (by omega) (by simp; omega) _ rfl ?_
  intro g cap w' ho' hg' _ _
  rw [← bytesV_app] at ho'
  refine h _ w' ?_ ((World.grownBy_alloc W _ _).trans hg')
  rw [List.length_append]; exact ho'

/-- .. behind a region's draw. -/
theorem step_append_bytes_drew {P : Program} {S T : TypeId} (B : BytesT P S T) (W : World) {ops : Array Oper} {o : Oper} {a : Act} {K : Act → World → Prop} {Q : Exit → Act → World → Prop} {E : Prop} (hgd : o.guard = none) (s x : Operand)
    (ho : o.op = .call { callee := .builtin .append, args := #[s, x], argTypes := #[S, S] }) (cs : Array Value) (base : Nat) (v : Value) (l k : List UInt8) (m : Nat) (hk : cs = (bytesV k).toArray) (hm : m = k.length) (hpos : 0 < k.length)
    (hs : a.eval s = v) (hown : W.ownsRow base T 1 v l.length (bytesV l)) (hx : a.eval x = .slice (some ⟨W.heap.size, 0, none⟩) m m)
    (hlen : l.length + k.length ≤ 140737488355328) (hbase : base ≤ W.heap.size)
    (h : ∀ v' w', w'.ownsRow base T 1 v' (l ++ k).length (bytesV (l ++ k)) → W.grownBy w' v.ownBlock → K (a.put o.dst v') w') :
    if Region.wanted o (yielded ops a.tmps) = true then Oper.wp P o a (W.alloc (.cells cs T)).drew K Q else E := by
  obtain ⟨i0, hi, hz0, hz1, hz2⟩ := info_parts B.info
  subst hk; subst hm
  refine step_append_lies _ hgd s x S ho base T i0 (.int .u8 0) 1 1 B.und hi hz0 hz1 hz2 rfl (by decide) v _ _ hs ((hown.alloc _).drew) ⟨W.heap.size, 0, none⟩ k.length k.length (bytesV k) hx (by simp [bytesV]) (news_new _ _ _) (bytesV_one k) hpos (by unfold maxLen; omega) (by omega) (by simp; omega) _ rfl ?_
  intro g cap w' ho' hg' _ _
  rw [← bytesV_app] at ho'
  have hg0 := World.grownBy_alloc W (.cells (bytesV k).toArray T) v.ownBlock
  refine h _ w' ?_ ((show W.grownBy (W.alloc (.cells (bytesV k).toArray T)).drew v.ownBlock from ⟨hg0.os, hg0.tape, hg0.output, hg0.size, hg0.block⟩).trans hg')
  rw [List.length_append]; exact ho'

/-- 'string(out)', out bytes that the call owns. -/
theorem wpList_bytes_string {P : Program} {S T D : TypeId} (B : BytesT P S T) (hd : P.underlying D = some .string) (w : World) {ops : Array Oper} {rest : List Oper} {o : Oper} {a : Act} {Q : Exit → Act → World → Prop} (hgd : o.guard = none) (s : Operand)
    (ho : o.op = Op.convert S D s) (base : Nat) (v : Value) (l : List UInt8) (hs : a.eval s = v) (hown : w.ownsRow base T 1 v l.length (bytesV l))
    (h : wpList P ops Q rest (a.put o.dst (.string (mk l))) w) : wpList P ops Q (o :: rest) a w := by
  refine wpList_plain hgd fun K hK => ?_
  have hrun : (convert S D v).run P w = .ok (.string (mk l)) w := by
    rcases hown.2 with ⟨rfl, hn⟩ | ⟨g, cap, cur, rfl, _⟩
    · have hl : l = [] := List.length_eq_zero_iff.1 hn
      subst hl
      rw [run_convert_bytes_string w S D T none 0 0 B.und B.elem hd]
      simp [Conv.bytesToString, Sem.run_pure]
      rfl
    · refine run_convert_bytes_back w S D T ⟨g, 0, none⟩ cap l B.und B.elem hd ?_
      intro j hj
      have := hown.cellAt j (by omega)
      rw [Addr.add_lit, Nat.zero_add, this]
      simp [bytesV, hj]
  unfold Oper.wp
  simp [execOp, ho, hs, hrun, Result.andThen]
  exact hK _ _ h

/-- A quiet callee in a region that draws its order: the caller's world on the left. -/
theorem quiet_left {P : Program} {f : FuncId} {args : Array Value} {w : World} {n : Nat} {v : Value}
    (h : Calls P f args (w.drewN n) fun e w' => e = .returned v ∧ w.drewN n = w') : Calls P f args (w.drewN n) fun e w'' => e = .returned v ∧ ∃ m, w'' = w.drewN m :=
  h.mono fun _ _ ⟨he, hm⟩ => ⟨he, n, hm.symm⟩
theorem own_drewN {w : World} {base : Nat} {e : TypeId} {size : Nat} {v : Value} {n : Nat} {xs : List Value} (h : w.ownsRow base e size v n xs) (k : Nat) : (w.drewN k).ownsRow base e size v n xs := h
theorem draws0 (w : World) : w = w.drewN 0 := rfl
end Go.Proofs.YtegplehbcdeeoaaGreatDoor
/- 'b = append(b, make([]byte, n)...)' onto bytes that the call owns. No program's function in sight. -/
namespace Go.Proofs.YtegplehbcdeeoaaGreatDoor
open Go.RowKit

namespace Pw
def zs (k : Nat) : List UInt8 := List.replicate k 0
theorem zs_len (k : Nat) : (zs k).length = k := by simp [zs]
theorem zeroCells_bytes (k : Nat) : (Builtin.zeroCells (Value.cells (.int .u8 0)) k).toList = bytesV (zs k) := by
  have e : Value.cells (.int .u8 0) = #[.int .u8 0] := rfl
  rw [e]
  apply List.ext_getElem
  · simp [Builtin.zeroCells, bytesV, zs]
  · intro i h1 h2
    simp [Builtin.zeroCells, bytesV, zs]
    simp [Nat.mod_one]
theorem run_append_own_zeros {P : Program} {S T tn : TypeId} {kn : IntKind} (B : BytesT P S T) (htn : P.underlying tn = some (.int kn)) (ty : TypeId) {base : Nat} {w : World} {v : Value} {l : List UInt8} (hown : w.ownsRow base T 1 v l.length (bytesV l))
    (k : Nat) (hk : 0 < k) (kq : IntKind) (hlen : l.length + k ≤ 140737488355328) (hbase : base ≤ w.heap.size) :
    ∃ v' w', (Builtin.append_ #[S, tn] ty #[v, .int kq k]).run P w = .ok v' w' ∧ w'.ownsRow base T 1 v' (l ++ zs k).length (bytesV (l ++ zs k)) ∧ w.grownBy w' v.ownBlock ∧ (v'.ownBlock = v.ownBlock ∨ ∃ g, v'.ownBlock = some g ∧ w.heap.size ≤ g) := by
  obtain ⟨i, hi, hz, hz1, hz2⟩ := info_parts B.info
  have hll : (bytesV (l ++ zs k)).length = (l ++ zs k).length * 1 := by rw [bytesV_len, Nat.mul_one]
  have hnl : (l ++ zs k).length = l.length + k := by rw [List.length_append, zs_len]
  have hzc := zeroCells_bytes k
  have hzsz : ∀ m, (Builtin.zeroCells (Value.cells (.int .u8 0)) m).size = m := fun m => by rw [← Array.length_toList, zeroCells_bytes, bytesV_len, zs_len]
  have grown : ∀ (c : Nat), l.length + k ≤ c → c ≤ maxLen → ∀ row : Option Nat,
      (w.drew.alloc (.cells ((bytesV l).toArray ++ Builtin.zeroCells (Value.cells (.int .u8 0)) k ++ Builtin.zeroCells (Value.cells (.int .u8 0)) (c - (l.length + k))) T)).ownsRow base T 1 (.slice (some ⟨w.heap.size, 0, none⟩) (l.length + k) c) (l ++ zs k).length (bytesV (l ++ zs k)) ∧
      w.grownBy (w.drew.alloc (.cells ((bytesV l).toArray ++ Builtin.zeroCells (Value.cells (.int .u8 0)) k ++ Builtin.zeroCells (Value.cells (.int .u8 0)) (c - (l.length + k))) T)) row := by
    intro c hc hcm row
    refine ⟨⟨hll, .inr ⟨w.heap.size, c, _, by rw [hnl], hbase, heap_alloc_new w.drew _, by rw [hnl]; exact hc, hcm, ?_, ?_⟩⟩, ⟨rfl, rfl, rfl, by simp, fun j hj _ => heap_alloc_old w.drew _ hj⟩⟩
    · simp only [Array.size_append, List.size_toArray, bytesV_len, hzsz]
      omega
    · simp only [Array.toList_append, hzc, hnl, Nat.mul_one]
      rw [← bytesV_app]
      have : (bytesV (l ++ zs k)).length = l.length + k := by rw [bytesV_len, hnl]
      rw [← this]
      exact List.take_left
  have hcm : ∀ o, grownCap w (l.length + k) o T ≤ maxLen := fun o => grownCap_le_maxLen w (l.length + k) o T (by unfold maxLen; omega)
  have hcg : ∀ o, l.length + k ≤ grownCap w (l.length + k) o T := fun o => grownCap_ge w (l.length + k) o T
  rcases hown.2 with ⟨rfl, hn⟩ | ⟨g, cap, cur, rfl, hbg, hg, hnc, hcap, hcs, htake⟩
  · have hl : l = [] := List.length_eq_zero_iff.1 hn
    subst hl
    have hr := Lib.run_append_nil_zeros (P := P) w S tn ty T i (.int .u8 0) kq kn B.und htn hi hz k hk (by omega) (by omega) (by rw [hz2]; omega)
    have := grown (grownCap w k 0 T) (by simpa using hcg 0) (by simpa using hcm 0) (Value.ownBlock (.slice none 0 0))
    simp only [List.length_nil, Nat.zero_add, bytesV, List.map_nil, List.nil_append, Array.empty_append] at this ⊢
    exact ⟨_, _, hr, this.1, this.2, .inr ⟨_, rfl, Nat.le_refl _⟩⟩
  · by_cases hroom : l.length + k ≤ cap
    · have hst := run_storeCells_at P g (l.length * i.size) T (bytesV (zs k)) 0 cur w hg (by rw [bytesV_len, zs_len, hz1]; omega) (bytesV_one _)
      simp only [Nat.add_zero] at hst
      have hw : IntKind.i64.wrap (k : Int) = k := by rw [IntKind.wrap_i64]; omega
      have hneg : ¬ ((k : Int) < 0) := by omega
      have h48i : ¬ (281474976710656 < (k : Int) * (i.bytes : Int)) := by rw [hz2]; omega
      have hns : ¬ (k * i.size = 0) := by rw [hz1]; omega
      have hr : (Builtin.append_ #[S, tn] ty #[.slice (some ⟨g, 0, none⟩) l.length cap, .int kq k]).run P w = .ok (.slice (some ⟨g, 0, none⟩) (l.length + k) cap) (w.setRow g (cur.toList.take (l.length * i.size) ++ bytesV (zs k) ++ cur.toList.drop (l.length * i.size + (bytesV (zs k)).length)).toArray) := by
        simp [Builtin.append_, run_underlying B.und, run_underlying htn, sizeOf, typeInfo, zeroValue, hi, hz, asInt, asIntOf, hw, hneg, h48i, hns, hroom, Addr.add_lit, hzc, hst]
      refine ⟨_, _, hr, ⟨hll, .inr ⟨g, cap, _, by rw [hnl], hbg, setRow_heap w g cur _ T _ hg, by rw [hnl]; exact hroom, hcap, ?_, ?_⟩⟩, ⟨rfl, rfl, rfl, by simp, fun j _ hj => setRow_other w g j _ (fun e => hj (by simp [Value.ownBlock, e]))⟩, .inl rfl⟩
      · simp only [List.size_toArray, List.length_append, List.length_take, List.length_drop, Array.length_toList, bytesV_len, zs_len, hz1]
        omega
      · rw [hz1, htake, hnl, bytesV_app]
        have : (bytesV l ++ bytesV (zs k)).length = (l.length + k) * 1 := by simp [bytesV_len, zs_len]
        rw [← this]
        exact List.take_left
    · have holds := hown.cells (g := g) rfl
      have hold := run_firstCells_some (P := P) w.drew i.size l.length ⟨g, 0, none⟩ l.length cap (bytesV l) (by rw [hz1, bytesV_len, Nat.mul_one]) (by simpa using holds)
      have hr := Lib.run_append_grow_zeros (P := P) w S tn ty T i (.int .u8 0) kq kn B.und htn hi hz (some ⟨g, 0, none⟩) l.length cap (bytesV l) hold k hk (by omega) (by omega) (by omega) (by rw [hz2]; omega) (by rw [hz2]; exact growslice_fits (by omega) (by omega))
      have := grown (grownCap w (l.length + k) cap T) (hcg cap) (hcm cap) (Value.ownBlock (.slice (some ⟨g, 0, none⟩) l.length cap))
      exact ⟨_, _, hr, this.1, this.2, .inr ⟨_, rfl, Nat.le_refl _⟩⟩
/-- 'b = append(b, make([]byte, k)...)', b full: whatever block, whatever mark. -/
theorem run_append_full_zeros {P : Program} {S T tn : TypeId} {kn : IntKind} (B : BytesT P S T) (htn : P.underlying tn = some (.int kn)) (ty : TypeId) {w : World} {g : Nat} {l : List UInt8} (hc : ∀ j u, (bytesV l)[j]? = some u → w.cell? ⟨g, j, none⟩ = some u)
    (k : Nat) (hk : 0 < k) (kq : IntKind) (hlen : l.length + k ≤ 140737488355328) :
    ∃ v' w', (Builtin.append_ #[S, tn] ty #[.slice (some ⟨g, 0, none⟩) l.length l.length, .int kq k]).run P w = .ok v' w' ∧ w'.ownsRow w.heap.size T 1 v' (l ++ zs k).length (bytesV (l ++ zs k)) ∧ w.grownBy w' none ∧ ∃ g', v'.ownBlock = some g' ∧ w.heap.size ≤ g' := by
  obtain ⟨i, hi, hz, hz1, hz2⟩ := info_parts B.info
  have hll : (bytesV (l ++ zs k)).length = (l ++ zs k).length * 1 := by rw [bytesV_len, Nat.mul_one]
  have hnl : (l ++ zs k).length = l.length + k := by rw [List.length_append, zs_len]
  have hzc := zeroCells_bytes k
  have hzsz : ∀ m, (Builtin.zeroCells (Value.cells (.int .u8 0)) m).size = m := fun m => by rw [← Array.length_toList, zeroCells_bytes, bytesV_len, zs_len]
  have hold := run_firstCells_some (P := P) w.drew i.size l.length ⟨g, 0, none⟩ l.length l.length (bytesV l) (by rw [hz1, bytesV_len, Nat.mul_one]) (by
    intro j u hj
    have := hc j u hj
    rw [Addr.add_lit, Nat.zero_add]
    exact this)
  have hr := Lib.run_append_grow_zeros (P := P) w S tn ty T i (.int .u8 0) kq kn B.und htn hi hz (some ⟨g, 0, none⟩) l.length l.length (bytesV l) hold k hk (by omega) (by omega) (by omega) (by rw [hz2]; omega) (by rw [hz2]; exact growslice_fits (by omega) (by omega))
  refine ⟨_, _, hr, ⟨hll, .inr ⟨w.heap.size, _, _, by rw [hnl], Nat.le_refl _, heap_alloc_new w.drew _, by rw [hnl]; exact grownCap_ge w (l.length + k) l.length T, grownCap_le_maxLen w (l.length + k) l.length T (by unfold maxLen; omega), ?_, ?_⟩⟩, ⟨rfl, rfl, rfl, by simp, fun j hj _ => heap_alloc_old w.drew _ hj⟩, ⟨_, rfl, Nat.le_refl _⟩⟩
  · have := grownCap_ge w (l.length + k) l.length T
    simp only [Array.size_append, List.size_toArray, bytesV_len, hzsz]
    omega
  · simp only [Array.toList_append, hzc, hnl, Nat.mul_one]
    rw [← bytesV_app]
    have : (bytesV (l ++ zs k)).length = l.length + k := by rw [bytesV_len, hnl]
    rw [← this]
    exact List.take_left
/-- 'b = append(b, x ..)', b full: whatever block, whatever mark. -/
theorem wpList_append_full {P : Program} {S T : TypeId} (B : BytesT P S T) (W : World) {ops : Array Oper} {rest : List Oper} {o : Oper} {a : Act} {Q : Exit → Act → World → Prop} (hgd : o.guard = none) (s x : Operand)
    (ho : o.op = .call { callee := .builtin .append, args := #[s, x], argTypes := #[S, S] }) (cs : Array Value) (g : Nat) (l k : List UInt8) (m : Nat) (hk : cs = (bytesV k).toArray) (hm : m = k.length) (hpos : 0 < k.length)
    (hs : a.eval s = .slice (some ⟨g, 0, none⟩) l.length l.length) (hc : ∀ j u, (bytesV l)[j]? = some u → W.cell? ⟨g, j, none⟩ = some u) (hg : g < W.heap.size) (hx : a.eval x = .slice (some ⟨W.heap.size, 0, none⟩) m m)
    (hlen : l.length + k.length ≤ 140737488355328)
    (h : ∀ v' w', w'.ownsRow W.heap.size T 1 v' (l ++ k).length (bytesV (l ++ k)) → W.grownBy w' none → wpList P ops Q rest (a.put o.dst v') w') :
    wpList P ops Q (o :: rest) a (W.alloc (.cells cs T)) := by
  obtain ⟨i0, hi, hz0, hz1, hz2⟩ := info_parts B.info
  subst hk; subst hm
  refine wpList_append_grows _ hgd s x S ho T i0 (.int .u8 0) 1 1 B.und hi hz0 hz1 hz2 rfl (by decide) (some ⟨g, 0, none⟩) l.length l.length (bytesV l) hs (by simp) (by rw [bytesV_len, Nat.mul_one]) ?_ ⟨W.heap.size, 0, none⟩ k.length k.length (bytesV k) hx (by rw [bytesV_len, Nat.mul_one]) ?_ (bytesV_one k) (by omega) (by unfold maxLen; omega) (by omega) ?_
  · rintro b hb j u hj
    cases hb
    rw [Addr.add_lit, Nat.zero_add]
    exact (World.cell?_of_block (a := ⟨g, j, none⟩) (heap_alloc_old W _ hg)).trans (hc j u hj)
  · exact news_new _ _ _
  · intro v' w' ho' hg'
    rw [← bytesV_app, ← List.length_append] at ho'
    refine h v' w' ⟨ho'.1, ho'.2.elim Or.inl (fun ⟨g, cap, cur, hv, hg, r⟩ => Or.inr ⟨g, cap, cur, hv, Nat.le_trans (by simp) hg, r⟩)⟩ ((World.grownBy_alloc W _ _).trans hg')
theorem strCells_mk (k : List UInt8) : Lib.strCells (mk k) = bytesV k := rfl
/-- 'b = append(b, s...)', s a text. -/
theorem run_append_own_text {P : Program} {S T D : TypeId} (B : BytesT P S T) (hd : P.underlying D = some .string) (ty : TypeId) {base : Nat} {w : World} {v : Value} {l : List UInt8} (hown : w.ownsRow base T 1 v l.length (bytesV l))
    (k : List UInt8) (hlen : l.length + k.length ≤ 140737488355328) (hbase : base ≤ w.heap.size) :
    ∃ v' w', (Builtin.append_ #[S, D] ty #[v, .string (mk k)]).run P w = .ok v' w' ∧ w'.ownsRow base T 1 v' (l ++ k).length (bytesV (l ++ k)) ∧ w.grownBy w' v.ownBlock ∧ (v'.ownBlock = v.ownBlock ∨ ∃ g, v'.ownBlock = some g ∧ w.heap.size ≤ g) := by
  obtain ⟨i, hi, hz, hz1, hz2⟩ := info_parts B.info
  have hll : (bytesV (l ++ k)).length = (l ++ k).length * 1 := by rw [bytesV_len, Nat.mul_one]
  have hnl : (l ++ k).length = l.length + k.length := List.length_append
  have hfc : ∀ W : World, (Builtin.firstCells i.size k.length (.string (mk k))).run P W = .ok (bytesV k).toArray W := fun W => Lib.run_firstCells_string (P := P) W i.size (mk k)
  have hzsz : ∀ m, (Builtin.zeroCells (Value.cells (.int .u8 0)) m).size = m := fun m => by rw [← Array.length_toList, zeroCells_bytes, bytesV_len, zs_len]
  have hsz : (mk k).size = k.length := rfl
  have grown : ∀ (c : Nat), l.length + k.length ≤ c → c ≤ maxLen → ∀ row : Option Nat,
      (w.drew.alloc (.cells ((bytesV l).toArray ++ (bytesV k).toArray ++ Builtin.zeroCells (Value.cells (.int .u8 0)) (c - (l.length + k.length))) T)).ownsRow base T 1 (.slice (some ⟨w.heap.size, 0, none⟩) (l.length + k.length) c) (l ++ k).length (bytesV (l ++ k)) ∧
      w.grownBy (w.drew.alloc (.cells ((bytesV l).toArray ++ (bytesV k).toArray ++ Builtin.zeroCells (Value.cells (.int .u8 0)) (c - (l.length + k.length))) T)) row := by
    intro c hc hcm row
    refine ⟨⟨hll, .inr ⟨w.heap.size, c, _, by rw [hnl], hbase, heap_alloc_new w.drew _, by rw [hnl]; exact hc, hcm, ?_, ?_⟩⟩, ⟨rfl, rfl, rfl, by simp, fun j hj _ => heap_alloc_old w.drew _ hj⟩⟩
    · simp only [Array.size_append, List.size_toArray, bytesV_len, hzsz]
      omega
    · simp only [Array.toList_append, hnl, Nat.mul_one]
      rw [← bytesV_app]
      have : (bytesV (l ++ k)).length = l.length + k.length := by rw [bytesV_len, hnl]
      rw [← this]
      exact List.take_left
  have hcm : ∀ o, grownCap w (l.length + k.length) o T ≤ maxLen := fun o => grownCap_le_maxLen w (l.length + k.length) o T (by unfold maxLen; omega)
  have hcg : ∀ o, l.length + k.length ≤ grownCap w (l.length + k.length) o T := fun o => grownCap_ge w (l.length + k.length) o T
  rcases hown.2 with ⟨rfl, hn⟩ | ⟨g, cap, cur, rfl, hbg, hg, hnc, hcap, hcs, htake⟩
  · have hl : l = [] := List.length_eq_zero_iff.1 hn
    subst hl
    by_cases hk : k = []
    · subst hk
      refine ⟨.slice none 0 0, w, ?_, World.ownsRow_nil w base T 1, World.grownBy.refl _ _, .inl rfl⟩
      simp [Builtin.append_, run_underlying B.und, run_underlying hd, sizeOf, typeInfo, hi, Builtin.lenOf, Builtin.firstCells, mk]
      rfl
    · have hk0 : 0 < k.length := List.length_pos_iff.2 hk
      have hr := run_append_grow_src (P := P) (w := w) S D ty T i (.int .u8 0) B.und hi hz none 0 0 [] (by simp [Builtin.firstCells]) (.string (mk k)) k.length (bytesV k) (by rw [hz1]; exact Src.ofString w hd (mk k)) (by omega) (by omega) (by rw [hz2]; exact growslice_fits (by omega) (by omega))
      have := grown (grownCap w (0 + k.length) 0 T) (by simpa using hcg 0) (by simpa using hcm 0) (Value.ownBlock (.slice none 0 0))
      simp only [List.length_nil, Nat.zero_add, bytesV, List.map_nil, List.nil_append, Array.empty_append] at this hr ⊢
      exact ⟨_, _, hr, this.1, this.2, .inr ⟨_, rfl, Nat.le_refl _⟩⟩
  · by_cases hroom : l.length + k.length ≤ cap
    · have hst := run_storeCells_at P g (l.length * i.size) T (bytesV k) 0 cur w hg (by rw [bytesV_len, hz1]; omega) (bytesV_one _)
      simp only [Nat.add_zero] at hst
      have hr : (Builtin.append_ #[S, D] ty #[.slice (some ⟨g, 0, none⟩) l.length cap, .string (mk k)]).run P w = .ok (.slice (some ⟨g, 0, none⟩) (l.length + k.length) cap) (w.setRow g (cur.toList.take (l.length * i.size) ++ bytesV k ++ cur.toList.drop (l.length * i.size + (bytesV k).length)).toArray) := by
        simp [Builtin.append_, run_underlying B.und, run_underlying hd, sizeOf, typeInfo, hi, Builtin.lenOf, hsz, hroom, Addr.add_lit, hfc, hst]
      refine ⟨_, _, hr, ⟨hll, .inr ⟨g, cap, _, by rw [hnl], hbg, setRow_heap w g cur _ T _ hg, by rw [hnl]; exact hroom, hcap, ?_, ?_⟩⟩, ⟨rfl, rfl, rfl, by simp, fun j _ hj => setRow_other w g j _ (fun e => hj (by simp [Value.ownBlock, e]))⟩, .inl rfl⟩
      · simp only [List.size_toArray, List.length_append, List.length_take, List.length_drop, Array.length_toList, bytesV_len, hz1]
        omega
      · rw [hz1, htake, hnl, bytesV_app]
        have : (bytesV l ++ bytesV k).length = (l.length + k.length) * 1 := by simp [bytesV_len]
        rw [← this]
        exact List.take_left
    · have holds := hown.cells (g := g) rfl
      have hold := run_firstCells_some (P := P) w.drew i.size l.length ⟨g, 0, none⟩ l.length cap (bytesV l) (by rw [hz1, bytesV_len, Nat.mul_one]) (by simpa using holds)
      have hr := run_append_grow_src (P := P) (w := w) S D ty T i (.int .u8 0) B.und hi hz (some ⟨g, 0, none⟩) l.length cap (bytesV l) hold (.string (mk k)) k.length (bytesV k) (by rw [hz1]; exact Src.ofString w hd (mk k)) (by omega) (by omega) (by rw [hz2]; exact growslice_fits (by omega) (by omega))
      have := grown (grownCap w (l.length + k.length) cap T) (hcg cap) (hcm cap) (Value.ownBlock (.slice (some ⟨g, 0, none⟩) l.length cap))
      rw [show (bytesV l ++ bytesV k).toArray = (bytesV l).toArray ++ (bytesV k).toArray by simp] at hr
      exact ⟨_, _, hr, this.1, this.2, .inr ⟨_, rfl, Nat.le_refl _⟩⟩
end Pw
end Go.Proofs.YtegplehbcdeeoaaGreatDoor
/- Bytes where they lie; numbers and zeros read out of them. -/
namespace Go.Proofs.YtegplehbcdeeoaaGreatDoor
open Go.RowKit

namespace Ck
open Pk
abbrev B := List UInt8
/-- A part of bytes. -/
def sub (l : B) (i n : Nat) : B := (l.drop i).take n
theorem sub_len {l : B} {i n : Nat} (h : i + n ≤ l.length) : (sub l i n).length = n := by unfold sub; rw [List.length_take, List.length_drop]; omega
theorem sub_get {l : B} {i n j : Nat} (hj : j < n) : (sub l i n)[j]? = l[i + j]? := by
  unfold sub
  rw [List.getElem?_take_of_lt hj, List.getElem?_drop]
theorem sub_all (l : B) : sub l 0 l.length = l := by unfold sub; rw [List.drop_zero, List.take_length]
theorem sub_sub {l : B} {i n j m : Nat} (h : j + m ≤ n) : sub (sub l i n) j m = sub l (i + j) m := by
  unfold sub
  rw [List.drop_take, List.take_take, List.drop_drop, Nat.min_eq_left (by omega)]
/-- Bytes, where they lie. -/
def SeenAt (w : World) (g o : Nat) (l : B) : Prop := ∀ j c, l[j]? = some c → w.cell? ⟨g, o + j, none⟩ = some (.int .u8 c.toNat)
section
variable {w w' : World} {g o : Nat} {l : B}
theorem SeenAt.part (h : SeenAt w g o l) (i n : Nat) : SeenAt w g (o + i) (sub l i n) := fun j c hj => by
  have hjn : j < n := by
    have := (List.getElem?_eq_some_iff.1 hj).1
    unfold sub at this
    rw [List.length_take] at this
    omega
  rw [sub_get hjn] at hj
  rw [Nat.add_assoc]
  exact h _ _ hj
theorem SeenAt.same (h : SeenAt w g o l) (e : w'.heap[g]? = w.heap[g]?) : SeenAt w' g o l := fun j c hj => (World.cell?_of_block e).trans (h j c hj)
theorem SeenAt.below (h : SeenAt w g o l) (hg : g < w.heap.size) (hb : Below w.heap.size w w') : SeenAt w' g o l := h.same (hb.block g hg)
theorem SeenAt.drew (h : SeenAt w g o l) : SeenAt w.drew g o l := h
theorem SeenAt.of_own {base : Nat} {e : TypeId} {n cap : Nat} (h : w.ownsRow base e 1 (.slice (some ⟨g, 0, none⟩) n cap) n (bytesV l)) : SeenAt w g 0 l := by
  intro j c hc
  have hn : n = l.length := by have := h.1; rw [bytesV_len] at this; omega
  have hj := (List.getElem?_eq_some_iff.1 hc).1
  rcases own_at h (by omega) with ⟨g', cap', e1, _, _, _, _, h2, _⟩
  cases e1
  rw [Nat.zero_add, h2 j (by omega)]
  simp [bytesV, hc]
end
/-- What the program's tables hold. -/
structure KVars (w : World) : Prop where
  half : ∀ k, k < 16 → w.cell? ⟨5, k, none⟩ = some (.int .u32 (half.getD k 0 : Nat))
  wid1 : w.cell? ⟨4, 1, none⟩ = some (.bool true)
  wid2 : w.cell? ⟨4, 2, none⟩ = some (.bool true)
  wid4 : w.cell? ⟨4, 4, none⟩ = some (.bool true)
  lt1 : 5 < w.heap.size
  lt2 : 4 < w.heap.size
theorem KVars.same {w w' : World} (h : KVars w) (hs : w.heap.size ≤ w'.heap.size) (e1 : w'.heap[5]? = w.heap[5]?) (e2 : w'.heap[4]? = w.heap[4]?) : KVars w' :=
  ⟨fun k hk => (World.cell?_of_block e1).trans (h.half k hk), (World.cell?_of_block e2).trans h.wid1, (World.cell?_of_block e2).trans h.wid2, (World.cell?_of_block e2).trans h.wid4, Nat.lt_of_lt_of_le h.lt1 hs, Nat.lt_of_lt_of_le h.lt2 hs⟩
theorem KVars.below {w w' : World} (h : KVars w) (hb : Below w.heap.size w w') : KVars w' := h.same hb.size (hb.block _ h.lt1) (hb.block _ h.lt2)
theorem KVars.drew {w : World} (h : KVars w) : KVars w.drew := ⟨h.half, h.wid1, h.wid2, h.wid4, h.lt1, h.lt2⟩
def isW (n : Nat) : Prop := n = 1 ∨ n = 2 ∨ n = 4
theorem KVars.wid {w : World} (h : KVars w) {n : Nat} (hn : isW n) : w.cell? ⟨4, n, none⟩ = some (.bool true) := by
  rcases hn with rfl | rfl | rfl
  · exact h.wid1
  · exact h.wid2
  · exact h.wid4
theorem isWidth_any (n : Nat) (hn : isW n) (w : World) (hw : KVars w) : Calls Tryz.prog 127 #[.int .i64 n] w fun e w' => e = .returned (.bool true) ∧ w = w' := by
  have hc := hw.wid hn
  rcases hn with rfl | rfl | rfl
  all_goals
    go_enter Tryz.func127, Tryz.ntmps127
    go_wp2
    go_ret
    exact ⟨rfl, rfl⟩
theorem lie_any (v : Value) (ao : Option Addr) (n cap at' k : Nat) (w : World) (hv : v = .slice ao n cap) (h : at' + k ≤ n) (hn : n ≤ 1000000000000000) : Calls Tryz.prog 128 #[v, .int .i64 at', .int .i64 k] w fun e w' => e = .returned (.bool true) ∧ w = w' := by
  subst hv
  have h1 : (0 : Int) ≤ at' := by omega
  have h2 : (0 : Int) ≤ k := by omega
  have h3 : (at' : Int) ≤ n := by omega
  have h4 : (k : Int) ≤ n - at' := by omega
  have h5 : IntKind.i64.wrap ((n : Int) - at') = n - at' := IntWalk.i64_in _ (by omega)
  go_enter Tryz.func128, Tryz.ntmps128
  go_wp2
  go_ret
  exact ⟨rfl, rfl⟩
theorem val_take (l : List UInt8) (k : Nat) (c : UInt8) (h : l[k]? = some c) : val (l.take (k + 1)) = val (l.take k) + 256 ^ k * c.toNat := by
  have hk := (List.getElem?_eq_some_iff.1 h).1
  rw [List.take_add_one, h]
  show val (l.take k ++ [c]) = _
  rw [val_snoc, List.length_take, Nat.min_eq_left (by omega)]
theorem or_step (v c k : Nat) (hv : v < 256 ^ k) (hc : c < 256) (hk : k ≤ 3) : bits .or .u64 (v : Int) (IntKind.u64.wrap ((c : Int) * 2 ^ (8 * k))) = ((v + 256 ^ k * c : Nat) : Int) := by
  have e : 256 ^ k = 2 ^ (8 * k) := by rw [Nat.pow_mul]
  have hb : 2 ^ (8 * k) ≤ 16777216 := by
    have : 2 ^ (8 * k) ≤ 2 ^ 24 := Nat.pow_le_pow_right (by decide) (by omega)
    exact this
  have hp : 0 < 2 ^ (8 * k) := Nat.two_pow_pos _
  have hm : 2 ^ (8 * k) * c < 4294967296 := by
    have : 2 ^ (8 * k) * c ≤ 16777216 * 255 := Nat.mul_le_mul hb (by omega)
    omega
  have hw : IntKind.u64.wrap ((c : Int) * 2 ^ (8 * k)) = ((2 ^ (8 * k) * c : Nat) : Int) := by
    rw [IntKind.wrap_u64]
    have : (c : Int) * 2 ^ (8 * k) = ((2 ^ (8 * k) * c : Nat) : Int) := by push_cast; exact Int.mul_comm _ _
    rw [this]
    omega
  rw [hw, Go.u64_or_nat v (2 ^ (8 * k) * c) (by rw [e] at hv; omega) (by omega)]
  congr 1
  rw [Nat.or_comm, ← Nat.two_pow_add_eq_or_of_lt (by rw [← e]; exact hv), e, Nat.add_comm]
set_option maxRecDepth 100000 in
theorem get_at (l : B) (g o cap at' n : Nat) (w : World) (hwd : isW n) (hw : KVars w) (hs : SeenAt w g o l) (hl : at' + n ≤ l.length) (hle : l.length ≤ 1000000000000000) :
    Calls Tryz.prog 92 #[.slice (some ⟨g, o, none⟩) l.length cap, .int .i64 at', .int .i64 n] w fun e w' => e = .returned (.tuple #[.int .u64 (val (sub l at' n)), .int .i64 0]) ∧ w = w' := by
  have h4 : n ≤ 4 := by rcases hwd with h | h | h <;> omega
  have HW := isWidth_any n hwd w hw
  have HL := lie_any _ (some ⟨g, o, none⟩) l.length cap at' n w rfl hl hle
  obtain ⟨L, hL⟩ : ∃ L, L = sub l at' n := ⟨_, rfl⟩
  have hLl : L.length = n := by rw [hL]; exact sub_len hl
  have hsL : ∀ j c, L[j]? = some c → w.cell? ⟨g, o + (at' + j), none⟩ = some (.int .u8 c.toNat) := fun j c hj => by
    have := hs.part at' n
    rw [← hL] at this
    have := this j c hj
    rwa [Nat.add_assoc] at this
  rw [← hL]
  clear hL hs hw hwd
  go_enter Tryz.func92, Tryz.ntmps92
  go_wp2_with (first | (go_at_call 127; refine HW.mono ?_; rintro e w1 ⟨rfl, rfl⟩) | (go_at_call 128; refine HL.mono ?_; rintro e w1 ⟨rfl, rfl⟩))
  go_loop [8, 21] (fun v i => ∃ k : Nat, k ≤ n ∧ i = .int .i64 k ∧ v = .int .u64 (val (L.take k))) (fun _ i => n - (intOf i).toNat)
  case atStart => exact ⟨0, Nat.zero_le _, rfl, rfl⟩
  case round =>
    obtain ⟨k, hk, rfl, rfl⟩ := hrel
    by_cases hlt : k < n
    · obtain ⟨c, hc⟩ : ∃ c, L[k]? = some c := ⟨_, List.getElem?_eq_getElem (by omega)⟩
      have hcell := hsL k c hc
      have hki : (k : Int) < (n : Int) := by omega
      have hka : IntKind.i64.wrap ((at' : Int) + k) = ((at' + k : Nat) : Int) := by rw [IntWalk.i64_in _ (by omega)]; omega
      have hlo : ((at' + k : Nat) : Int) < (l.length : Int) := by omega
      have HV := Lib.hid (val_take L k c hc)
      have hvl := val_lt (L.take k)
      rw [List.length_take, Nat.min_eq_left (by omega)] at hvl
      have hcl := c.toNat_lt
      clear hc HW HL hsL hLl
      generalize val (L.take k) = v at *
      have HO := Lib.hid (or_step v c.toNat k hvl hcl (by omega))
      go_wp2
      go_round
      case rel => exact ⟨k + 1, by omega, by go_num, by rw [HO.out, HV.out]⟩
      case measure => simp [intOf]; omega
    · obtain rfl : k = n := by omega
      rw [List.take_of_length_le (by omega)]
      go_wp2
      go_ret2
      exact ⟨rfl, rfl⟩
theorem allZero_take {l : B} {k : Nat} {c : UInt8} (h : l[k]? = some c) : allZero (l.take (k + 1)) = (allZero (l.take k) && (c == 0)) := by
  rw [List.take_add_one, h]
  unfold allZero
  rw [List.all_append]
  simp
theorem zeros_at (l : B) (g o cap : Nat) (w : World) (hs : SeenAt w g o l) (hle : l.length ≤ 1000000000000000) :
    Calls Tryz.prog 139 #[.slice (some ⟨g, o, none⟩) l.length cap] w fun e w' => e = .returned (.bool (allZero l)) ∧ w = w' := by
  go_enter Tryz.func139, Tryz.ntmps139
  go_wp2
  go_loop [7] (fun i => ∃ k : Nat, k ≤ l.length ∧ i = .int .i64 k ∧ Hid (allZero (l.take k) = true)) (fun i => l.length - (intOf i).toNat)
  case atStart => exact ⟨0, Nat.zero_le _, rfl, rfl⟩
  case round =>
    obtain ⟨k, hk, rfl, hz⟩ := hrel
    by_cases hlt : k < l.length
    · obtain ⟨c, hc⟩ : ∃ c, l[k]? = some c := ⟨_, List.getElem?_eq_getElem hlt⟩
      have hcell := hs k c hc
      have hki : (k : Int) < (l.length : Int) := by omega
      have ht := allZero_take hc
      rw [show allZero (l.take k) = true from hz, Bool.true_and] at ht
      by_cases h0 : c = 0
      · have hq : ((c.toNat : Int) != 0) = false := by rw [h0]; rfl
        have ht' : Hid (allZero (l.take (k + 1)) = true) := by unfold Hid; rw [ht, h0]; rfl
        clear hc hs ht h0
        go_wp2
        go_round
        case rel => exact ⟨k + 1, by omega, by go_num, ht'⟩
        case measure => simp [intOf]; omega
      · have hq : ((c.toNat : Int) != 0) = true := by
          rw [bne_iff_ne]
          intro e
          exact h0 (UInt8.toNat_inj.1 (by show c.toNat = 0; omega))
        have hf : allZero l = false := by
          unfold allZero
          rw [List.all_eq_false]
          exact ⟨c, List.mem_of_getElem? hc, by simpa using h0⟩
        have hf := Lib.hid hf
        clear hc hs ht
        go_wp2
        go_ret
        exact ⟨rfl, rfl⟩
    · obtain rfl : k = l.length := by omega
      have hf : allZero l = true := by rw [← hz.out, List.take_length]
      have hf := Lib.hid hf
      go_wp2
      go_ret
      exact ⟨rfl, rfl⟩
set_option maxRecDepth 100000 in
set_option maxHeartbeats 1000000 in
theorem zero_at (l : B) (g o cap at' n : Nat) (w : World) (hs : SeenAt w g o l) (hl : at' + n ≤ l.length) (hle : l.length ≤ 1000000000000000) (hcap : l.length ≤ cap ∧ cap ≤ 9223372036854775807) :
    Calls Tryz.prog 104 #[.slice (some ⟨g, o, none⟩) l.length cap, .int .i64 at', .int .i64 n] w fun e w' => e = .returned (.tuple #[.bool (allZero (sub l at' n)), .int .i64 0]) ∧ w = w' := by
  have HL := lie_any _ (some ⟨g, o, none⟩) l.length cap at' n w rfl hl hle
  have hpart := hs.part at' n
  have hlen := sub_len hl
  have HZ := fun cap => zeros_at (sub l at' n) g (o + at') cap w hpart (by omega)
  rw [hlen] at HZ
  have hka : IntKind.i64.wrap ((at' : Int) + n) = ((at' + n : Nat) : Int) := by rw [IntWalk.i64_in _ (by omega)]; omega
  have h1 : ((at' + n : Nat) : Int) ≤ (cap : Int) := by omega
  have h2 : (at' : Int) ≤ ((at' + n : Nat) : Int) := by omega
  have h3 : at' + n - at' = n := by omega
  clear hpart hlen hs
  by_cases hca : cap = at'
  · have hn : n = 0 := by omega
    subst hca
    subst hn
    have HZ0 := fun cap => zeros_at [] g o cap w (fun j c hj => by cases hj) (by simp)
    have e0 : sub l cap 0 = [] := by unfold sub; rw [List.take_zero]
    rw [e0]
    clear HZ e0
    go_enter Tryz.func104, Tryz.ntmps104
    go_wp2_with (first | (go_at_call 139; refine (HZ0 _).mono ?_; rintro e w1 ⟨rfl, rfl⟩) | (go_at_call 128; refine HL.mono ?_; rintro e w1 ⟨rfl, rfl⟩))
    go_ret2
    exact ⟨rfl, rfl⟩
  · go_enter Tryz.func104, Tryz.ntmps104
    go_wp2_with (first | (go_at_call 139; refine (HZ _).mono ?_; rintro e w1 ⟨rfl, rfl⟩) | (go_at_call 128; refine HL.mono ?_; rintro e w1 ⟨rfl, rfl⟩))
    go_ret2
    exact ⟨rfl, rfl⟩
end Ck
end Go.Proofs.YtegplehbcdeeoaaGreatDoor
