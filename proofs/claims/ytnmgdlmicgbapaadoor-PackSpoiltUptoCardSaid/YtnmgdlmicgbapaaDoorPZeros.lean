/- 'b = append(b, make([]byte, n)...)' onto bytes that the call owns. No program's function in sight. -/
import Derived.Test.YtnmgdlmicgbapaaDoorBytes
import Derived.Lib.AppendZerosOnto
import Derived.Lib.AppendStr
namespace Go.Proofs.YtnmgdlmicgbapaaDoor
open Go.RowKit

namespace Pw
def zs (k : Nat) : List UInt8 := List.replicate k 0
theorem zs_len (k : Nat) : (zs k).length = k := by simp [zs]
theorem zeroCells_bytes (k : Nat) : (Builtin.zeroCells (Value.cells (.int .u8 0)) k).toList = bytesV (zs k) := by
  have e : Value.cells (.int .u8 0) = #[.int .u8 0] := rfl
  rw [e]
  apply List.ext_getElem
  · simp [Builtin.zeroCells, bytesV, zs]
  · intro i h1 h2
    simp [Builtin.zeroCells, bytesV, zs]
    simp [Nat.mod_one]
theorem run_append_own_zeros {P : Program} {S T tn : TypeId} {kn : IntKind} (B : BytesT P S T) (htn : P.underlying tn = some (.int kn)) (ty : TypeId) {base : Nat} {w : World} {v : Value} {l : List UInt8} (hown : w.ownsRow base T 1 v l.length (bytesV l))
    (k : Nat) (hk : 0 < k) (kq : IntKind) (hlen : l.length + k ≤ 140737488355328) (hbase : base ≤ w.heap.size) :
    ∃ v' w', (Builtin.append_ #[S, tn] ty #[v, .int kq k]).run P w = .ok v' w' ∧ w'.ownsRow base T 1 v' (l ++ zs k).length (bytesV (l ++ zs k)) ∧ w.grownBy w' v.ownBlock ∧ (v'.ownBlock = v.ownBlock ∨ ∃ g, v'.ownBlock = some g ∧ w.heap.size ≤ g) := by
  obtain ⟨i, hi, hz, hz1, hz2⟩ := info_parts B.info
  have hll : (bytesV (l ++ zs k)).length = (l ++ zs k).length * 1 := by rw [bytesV_len, Nat.mul_one]
  have hnl : (l ++ zs k).length = l.length + k := by rw [List.length_append, zs_len]
  have hzc := zeroCells_bytes k
  have hzsz : ∀ m, (Builtin.zeroCells (Value.cells (.int .u8 0)) m).size = m := fun m => by rw [← Array.length_toList, zeroCells_bytes, bytesV_len, zs_len]
  have grown : ∀ (c : Nat), l.length + k ≤ c → c ≤ maxLen → ∀ row : Option Nat,
      (w.drew.alloc (.cells ((bytesV l).toArray ++ Builtin.zeroCells (Value.cells (.int .u8 0)) k ++ Builtin.zeroCells (Value.cells (.int .u8 0)) (c - (l.length + k))) T)).ownsRow base T 1 (.slice (some ⟨w.heap.size, 0, none⟩) (l.length + k) c) (l ++ zs k).length (bytesV (l ++ zs k)) ∧
      w.grownBy (w.drew.alloc (.cells ((bytesV l).toArray ++ Builtin.zeroCells (Value.cells (.int .u8 0)) k ++ Builtin.zeroCells (Value.cells (.int .u8 0)) (c - (l.length + k))) T)) row := by
    intro c hc hcm row
    refine ⟨⟨hll, .inr ⟨w.heap.size, c, _, by rw [hnl], hbase, heap_alloc_new w.drew _, by rw [hnl]; exact hc, hcm, ?_, ?_⟩⟩, ⟨rfl, rfl, rfl, by simp, fun j hj _ => heap_alloc_old w.drew _ hj⟩⟩
    · simp only [Array.size_append, List.size_toArray, bytesV_len, hzsz]
      omega
    · simp only [Array.toList_append, hzc, hnl, Nat.mul_one]
      rw [← bytesV_app]
      have : (bytesV (l ++ zs k)).length = l.length + k := by rw [bytesV_len, hnl]
      rw [← this]
      exact List.take_left
  have hcm : ∀ o, grownCap w (l.length + k) o T ≤ maxLen := fun o => grownCap_le_maxLen w (l.length + k) o T (by unfold maxLen; omega)
  have hcg : ∀ o, l.length + k ≤ grownCap w (l.length + k) o T := fun o => grownCap_ge w (l.length + k) o T
  rcases hown.2 with ⟨rfl, hn⟩ | ⟨g, cap, cur, rfl, hbg, hg, hnc, hcap, hcs, htake⟩
  · have hl : l = [] := List.length_eq_zero_iff.1 hn
    subst hl
    have hr := Lib.run_append_nil_zeros (P := P) w S tn ty T i (.int .u8 0) kq kn B.und htn hi hz k hk (by omega) (by omega) (by rw [hz2]; omega)
    have := grown (grownCap w k 0 T) (by simpa using hcg 0) (by simpa using hcm 0) (Value.ownBlock (.slice none 0 0))
    simp only [List.length_nil, Nat.zero_add, bytesV, List.map_nil, List.nil_append, Array.empty_append] at this ⊢
    exact ⟨_, _, hr, this.1, this.2, .inr ⟨_, rfl, Nat.le_refl _⟩⟩
  · by_cases hroom : l.length + k ≤ cap
    · have hst := run_storeCells_at P g (l.length * i.size) T (bytesV (zs k)) 0 cur w hg (by rw [bytesV_len, zs_len, hz1]; omega) (bytesV_one _)
      simp only [Nat.add_zero] at hst
      have hw : IntKind.i64.wrap (k : Int) = k := by rw [IntKind.wrap_i64]; omega
      have hneg : ¬ ((k : Int) < 0) := by omega
      have h48i : ¬ (281474976710656 < (k : Int) * (i.bytes : Int)) := by rw [hz2]; omega
      have hns : ¬ (k * i.size = 0) := by rw [hz1]; omega
      have hr : (Builtin.append_ #[S, tn] ty #[.slice (some ⟨g, 0, none⟩) l.length cap, .int kq k]).run P w = .ok (.slice (some ⟨g, 0, none⟩) (l.length + k) cap) (w.setRow g (cur.toList.take (l.length * i.size) ++ bytesV (zs k) ++ cur.toList.drop (l.length * i.size + (bytesV (zs k)).length)).toArray) := by
        simp [Builtin.append_, run_underlying B.und, run_underlying htn, sizeOf, typeInfo, zeroValue, hi, hz, asInt, asIntOf, hw, hneg, h48i, hns, hroom, Addr.add_lit, hzc, hst]
      refine ⟨_, _, hr, ⟨hll, .inr ⟨g, cap, _, by rw [hnl], hbg, setRow_heap w g cur _ T _ hg, by rw [hnl]; exact hroom, hcap, ?_, ?_⟩⟩, ⟨rfl, rfl, rfl, by simp, fun j _ hj => setRow_other w g j _ (fun e => hj (by simp [Value.ownBlock, e]))⟩, .inl rfl⟩
      · simp only [List.size_toArray, List.length_append, List.length_take, List.length_drop, Array.length_toList, bytesV_len, zs_len, hz1]
        omega
      · rw [hz1, htake, hnl, bytesV_app]
        have : (bytesV l ++ bytesV (zs k)).length = (l.length + k) * 1 := by simp [bytesV_len, zs_len]
        rw [← this]
        exact List.take_left
    · have holds := hown.cells (g := g) rfl
      have hold := run_firstCells_some (P := P) w.drew i.size l.length ⟨g, 0, none⟩ l.length cap (bytesV l) (by rw [hz1, bytesV_len, Nat.mul_one]) (by simpa using holds)
      have hr := Lib.run_append_grow_zeros (P := P) w S tn ty T i (.int .u8 0) kq kn B.und htn hi hz (some ⟨g, 0, none⟩) l.length cap (bytesV l) hold k hk (by omega) (by omega) (by omega) (by rw [hz2]; omega) (by rw [hz2]; exact growslice_fits (by omega) (by omega))
      have := grown (grownCap w (l.length + k) cap T) (hcg cap) (hcm cap) (Value.ownBlock (.slice (some ⟨g, 0, none⟩) l.length cap))
      exact ⟨_, _, hr, this.1, this.2, .inr ⟨_, rfl, Nat.le_refl _⟩⟩
/-- 'b = append(b, make([]byte, k)...)', b full: whatever block, whatever mark. -/
theorem run_append_full_zeros {P : Program} {S T tn : TypeId} {kn : IntKind} (B : BytesT P S T) (htn : P.underlying tn = some (.int kn)) (ty : TypeId) {w : World} {g : Nat} {l : List UInt8} (hc : ∀ j u, (bytesV l)[j]? = some u → w.cell? ⟨g, j, none⟩ = some u)
    (k : Nat) (hk : 0 < k) (kq : IntKind) (hlen : l.length + k ≤ 140737488355328) :
    ∃ v' w', (Builtin.append_ #[S, tn] ty #[.slice (some ⟨g, 0, none⟩) l.length l.length, .int kq k]).run P w = .ok v' w' ∧ w'.ownsRow w.heap.size T 1 v' (l ++ zs k).length (bytesV (l ++ zs k)) ∧ w.grownBy w' none ∧ ∃ g', v'.ownBlock = some g' ∧ w.heap.size ≤ g' := by
  obtain ⟨i, hi, hz, hz1, hz2⟩ := info_parts B.info
  have hll : (bytesV (l ++ zs k)).length = (l ++ zs k).length * 1 := by rw [bytesV_len, Nat.mul_one]
  have hnl : (l ++ zs k).length = l.length + k := by rw [List.length_append, zs_len]
  have hzc := zeroCells_bytes k
  have hzsz : ∀ m, (Builtin.zeroCells (Value.cells (.int .u8 0)) m).size = m := fun m => by rw [← Array.length_toList, zeroCells_bytes, bytesV_len, zs_len]
  have hold := run_firstCells_some (P := P) w.drew i.size l.length ⟨g, 0, none⟩ l.length l.length (bytesV l) (by rw [hz1, bytesV_len, Nat.mul_one]) (by
    intro j u hj
    have := hc j u hj
    rw [Addr.add_lit, Nat.zero_add]
    exact this)
  have hr := Lib.run_append_grow_zeros (P := P) w S tn ty T i (.int .u8 0) kq kn B.und htn hi hz (some ⟨g, 0, none⟩) l.length l.length (bytesV l) hold k hk (by omega) (by omega) (by omega) (by rw [hz2]; omega) (by rw [hz2]; exact growslice_fits (by omega) (by omega))
  refine ⟨_, _, hr, ⟨hll, .inr ⟨w.heap.size, _, _, by rw [hnl], Nat.le_refl _, heap_alloc_new w.drew _, by rw [hnl]; exact grownCap_ge w (l.length + k) l.length T, grownCap_le_maxLen w (l.length + k) l.length T (by unfold maxLen; omega), ?_, ?_⟩⟩, ⟨rfl, rfl, rfl, by simp, fun j hj _ => heap_alloc_old w.drew _ hj⟩, ⟨_, rfl, Nat.le_refl _⟩⟩
  · have := grownCap_ge w (l.length + k) l.length T
    simp only [Array.size_append, List.size_toArray, bytesV_len, hzsz]
    omega
  · simp only [Array.toList_append, hzc, hnl, Nat.mul_one]
    rw [← bytesV_app]
    have : (bytesV (l ++ zs k)).length = l.length + k := by rw [bytesV_len, hnl]
    rw [← this]
    exact List.take_left
/-- 'b = append(b, x ..)', b full: whatever block, whatever mark. -/
theorem wpList_append_full {P : Program} {S T : TypeId} (B : BytesT P S T) (W : World) {ops : Array Oper} {rest : List Oper} {o : Oper} {a : Act} {Q : Exit → Act → World → Prop} (hgd : o.guard = none) (s x : Operand)
    (ho : o.op = .call { callee := .builtin .append, args := #[s, x], argTypes := #[S, S] }) (cs : Array Value) (g : Nat) (l k : List UInt8) (m : Nat) (hk : cs = (bytesV k).toArray) (hm : m = k.length) (hpos : 0 < k.length)
    (hs : a.eval s = .slice (some ⟨g, 0, none⟩) l.length l.length) (hc : ∀ j u, (bytesV l)[j]? = some u → W.cell? ⟨g, j, none⟩ = some u) (hg : g < W.heap.size) (hx : a.eval x = .slice (some ⟨W.heap.size, 0, none⟩) m m)
    (hlen : l.length + k.length ≤ 140737488355328)
    (h : ∀ v' w', w'.ownsRow W.heap.size T 1 v' (l ++ k).length (bytesV (l ++ k)) → W.grownBy w' none → wpList P ops Q rest (a.put o.dst v') w') :
    wpList P ops Q (o :: rest) a (W.alloc (.cells cs T)) := by
  obtain ⟨i0, hi, hz0, hz1, hz2⟩ := info_parts B.info
  subst hk; subst hm
  refine wpList_append_grows _ hgd s x S ho T i0 (.int .u8 0) 1 1 B.und hi hz0 hz1 hz2 rfl (by decide) (some ⟨g, 0, none⟩) l.length l.length (bytesV l) hs (by simp) (by rw [bytesV_len, Nat.mul_one]) ?_ ⟨W.heap.size, 0, none⟩ k.length k.length (bytesV k) hx (by rw [bytesV_len, Nat.mul_one]) ?_ (bytesV_one k) (by omega) (by unfold maxLen; omega) (by omega) ?_
  · rintro b hb j u hj
    cases hb
    rw [Addr.add_lit, Nat.zero_add]
    exact (World.cell?_of_block (a := ⟨g, j, none⟩) (heap_alloc_old W _ hg)).trans (hc j u hj)
  · exact news_new _ _ _
  · intro v' w' ho' hg'
    rw [← bytesV_app, ← List.length_append] at ho'
    refine h v' w' ⟨ho'.1, ho'.2.elim Or.inl (fun ⟨g, cap, cur, hv, hg, r⟩ => Or.inr ⟨g, cap, cur, hv, Nat.le_trans (by simp) hg, r⟩)⟩ ((World.grownBy_alloc W _ _).trans hg')
theorem strCells_mk (k : List UInt8) : Lib.strCells (mk k) = bytesV k := rfl
/-- 'b = append(b, s...)', s a text. -/
theorem run_append_own_text {P : Program} {S T D : TypeId} (B : BytesT P S T) (hd : P.underlying D = some .string) (ty : TypeId) {base : Nat} {w : World} {v : Value} {l : List UInt8} (hown : w.ownsRow base T 1 v l.length (bytesV l))
    (k : List UInt8) (hlen : l.length + k.length ≤ 140737488355328) (hbase : base ≤ w.heap.size) :
    ∃ v' w', (Builtin.append_ #[S, D] ty #[v, .string (mk k)]).run P w = .ok v' w' ∧ w'.ownsRow base T 1 v' (l ++ k).length (bytesV (l ++ k)) ∧ w.grownBy w' v.ownBlock ∧ (v'.ownBlock = v.ownBlock ∨ ∃ g, v'.ownBlock = some g ∧ w.heap.size ≤ g) := by
  obtain ⟨i, hi, hz, hz1, hz2⟩ := info_parts B.info
  have hll : (bytesV (l ++ k)).length = (l ++ k).length * 1 := by rw [bytesV_len, Nat.mul_one]
  have hnl : (l ++ k).length = l.length + k.length := List.length_append
  have hfc : ∀ W : World, (Builtin.firstCells i.size k.length (.string (mk k))).run P W = .ok (bytesV k).toArray W := fun W => Lib.run_firstCells_string (P := P) W i.size (mk k)
  have hzsz : ∀ m, (Builtin.zeroCells (Value.cells (.int .u8 0)) m).size = m := fun m => by rw [← Array.length_toList, zeroCells_bytes, bytesV_len, zs_len]
  have hsz : (mk k).size = k.length := rfl
  have grown : ∀ (c : Nat), l.length + k.length ≤ c → c ≤ maxLen → ∀ row : Option Nat,
      (w.drew.alloc (.cells ((bytesV l).toArray ++ (bytesV k).toArray ++ Builtin.zeroCells (Value.cells (.int .u8 0)) (c - (l.length + k.length))) T)).ownsRow base T 1 (.slice (some ⟨w.heap.size, 0, none⟩) (l.length + k.length) c) (l ++ k).length (bytesV (l ++ k)) ∧
      w.grownBy (w.drew.alloc (.cells ((bytesV l).toArray ++ (bytesV k).toArray ++ Builtin.zeroCells (Value.cells (.int .u8 0)) (c - (l.length + k.length))) T)) row := by
    intro c hc hcm row
    refine ⟨⟨hll, .inr ⟨w.heap.size, c, _, by rw [hnl], hbase, heap_alloc_new w.drew _, by rw [hnl]; exact hc, hcm, ?_, ?_⟩⟩, ⟨rfl, rfl, rfl, by simp, fun j hj _ => heap_alloc_old w.drew _ hj⟩⟩
    · simp only [Array.size_append, List.size_toArray, bytesV_len, hzsz]
      omega
    · simp only [Array.toList_append, hnl, Nat.mul_one]
      rw [← bytesV_app]
      have : (bytesV (l ++ k)).length = l.length + k.length := by rw [bytesV_len, hnl]
      rw [← this]
      exact List.take_left
  have hcm : ∀ o, grownCap w (l.length + k.length) o T ≤ maxLen := fun o => grownCap_le_maxLen w (l.length + k.length) o T (by unfold maxLen; omega)
  have hcg : ∀ o, l.length + k.length ≤ grownCap w (l.length + k.length) o T := fun o => grownCap_ge w (l.length + k.length) o T
  rcases hown.2 with ⟨rfl, hn⟩ | ⟨g, cap, cur, rfl, hbg, hg, hnc, hcap, hcs, htake⟩
  · have hl : l = [] := List.length_eq_zero_iff.1 hn
    subst hl
    by_cases hk : k = []
    · subst hk
      refine ⟨.slice none 0 0, w, ?_, World.ownsRow_nil w base T 1, World.grownBy.refl _ _, .inl rfl⟩
      simp [Builtin.append_, run_underlying B.und, run_underlying hd, sizeOf, typeInfo, hi, Builtin.lenOf, Builtin.firstCells, mk]
      rfl
    · have hk0 : 0 < k.length := List.length_pos_iff.2 hk
      have hr := run_append_grow_src (P := P) (w := w) S D ty T i (.int .u8 0) B.und hi hz none 0 0 [] (by simp [Builtin.firstCells]) (.string (mk k)) k.length (bytesV k) (by rw [hz1]; exact Src.ofString w hd (mk k)) (by omega) (by omega) (by rw [hz2]; exact growslice_fits (by omega) (by omega))
      have := grown (grownCap w (0 + k.length) 0 T) (by simpa using hcg 0) (by simpa using hcm 0) (Value.ownBlock (.slice none 0 0))
      simp only [List.length_nil, Nat.zero_add, bytesV, List.map_nil, List.nil_append, Array.empty_append] at this hr ⊢
      exact ⟨_, _, hr, this.1, this.2, .inr ⟨_, rfl, Nat.le_refl _⟩⟩
  · by_cases hroom : l.length + k.length ≤ cap
    · have hst := run_storeCells_at P g (l.length * i.size) T (bytesV k) 0 cur w hg (by rw [bytesV_len, hz1]; omega) (bytesV_one _)
      simp only [Nat.add_zero] at hst
      have hr : (Builtin.append_ #[S, D] ty #[.slice (some ⟨g, 0, none⟩) l.length cap, .string (mk k)]).run P w = .ok (.slice (some ⟨g, 0, none⟩) (l.length + k.length) cap) (w.setRow g (cur.toList.take (l.length * i.size) ++ bytesV k ++ cur.toList.drop (l.length * i.size + (bytesV k).length)).toArray) := by
        simp [Builtin.append_, run_underlying B.und, run_underlying hd, sizeOf, typeInfo, hi, Builtin.lenOf, hsz, hroom, Addr.add_lit, hfc, hst]
      refine ⟨_, _, hr, ⟨hll, .inr ⟨g, cap, _, by rw [hnl], hbg, setRow_heap w g cur _ T _ hg, by rw [hnl]; exact hroom, hcap, ?_, ?_⟩⟩, ⟨rfl, rfl, rfl, by simp, fun j _ hj => setRow_other w g j _ (fun e => hj (by simp [Value.ownBlock, e]))⟩, .inl rfl⟩
      · simp only [List.size_toArray, List.length_append, List.length_take, List.length_drop, Array.length_toList, bytesV_len, hz1]
        omega
      · rw [hz1, htake, hnl, bytesV_app]
        have : (bytesV l ++ bytesV k).length = (l.length + k.length) * 1 := by simp [bytesV_len]
        rw [← this]
        exact List.take_left
    · have holds := hown.cells (g := g) rfl
      have hold := run_firstCells_some (P := P) w.drew i.size l.length ⟨g, 0, none⟩ l.length cap (bytesV l) (by rw [hz1, bytesV_len, Nat.mul_one]) (by simpa using holds)
      have hr := run_append_grow_src (P := P) (w := w) S D ty T i (.int .u8 0) B.und hi hz (some ⟨g, 0, none⟩) l.length cap (bytesV l) hold (.string (mk k)) k.length (bytesV k) (by rw [hz1]; exact Src.ofString w hd (mk k)) (by omega) (by omega) (by rw [hz2]; exact growslice_fits (by omega) (by omega))
      have := grown (grownCap w (l.length + k.length) cap T) (hcg cap) (hcm cap) (Value.ownBlock (.slice (some ⟨g, 0, none⟩) l.length cap))
      rw [show (bytesV l ++ bytesV k).toArray = (bytesV l).toArray ++ (bytesV k).toArray by simp] at hr
      exact ⟨_, _, hr, this.1, this.2, .inr ⟨_, rfl, Nat.le_refl _⟩⟩
end Pw
end Go.Proofs.YtnmgdlmicgbapaaDoor
