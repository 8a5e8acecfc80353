/- Laws on maps whose elements are whatever values: what stands at a key is a value, as it lies; a map's literal; a look-up with 'ok'. -/
import Derived.Maps.OwnSet
namespace Go.Proofs.YtnmgdlmicgbapaaDoor
open Go.Maps (Keyed)

/-- An element as it lies. -/
def rawElem (v : Value) : Option (DataW Value × List MemPlace) := some (.held v, [])

/-- A map that was just made. -/
theorem ownsMap_last {H : Type} (w : World) (P : Program) (k : TypeId) (R : Value → Option (DataW H × List MemPlace)) (b : Nat) (hb : b = w.heap.size) : (w.alloc (.map #[] 0)).ownsMap P k R b 0 (.map []) := by
  subst hb; exact World.ownsMap_made _ _ _ _

/-- 'm[k] = v' of a map's literal, at the operation. -/
theorem wpList_insert_own {H : Type} {P : Program} (w : World) {ops : Array Oper} {rest : List Oper} {o : Oper} {a : Act} {Q : Exit → Act → World → Prop}
    (hg : o.guard = none) (m x v : Operand) (t : TypeId) (hop : o.op = Op.insert t m x v)
    (k e : TypeId) (K : Keyed P k) (ht : P.underlying t = some (.map k e)) (R : Value → Option (DataW H × List MemPlace)) (b n : Nat) (D : DataW H)
    (hm : a.eval m = .map (some b)) (hown : w.ownsMap P k R b n D) (hn : n < maxLen) (key val : Value) (kl : Lit) (hx : a.eval x = key) (hv : a.eval v = val) (hkey : keyOf P k key = some kl)
    (d : DataW H) (ps : List MemPlace) (hval : R val = some (d, ps))
    (hK : ∀ w', w'.ownsMap P k R b (n + 1) (D.put kl d) → w.grownBy w' (some b) → wpList P ops Q rest (a.put o.dst undef) w') :
    wpList P ops Q (o :: rest) a w := by
  refine wpList_plain hg fun K' hK' => ?_
  obtain ⟨w', hrun, r1, r2⟩ := hown.update K ht hn hkey hval
  unfold Oper.wp
  simp [execOp, hop, hm, hx, hv, hrun, Result.andThen]
  exact hK' _ _ (hK w' r1 r2)

/-- 'm[k]' of elements as they lie. -/
theorem wpList_lookup_raw {P : Program} (w : World) {ops : Array Oper} {rest : List Oper} {o : Oper} {a : Act} {Q : Exit → Act → World → Prop}
    (hg : o.guard = none) (m x : Operand) (t : TypeId) (hop : o.op = Op.lookup t m x false)
    (k e : TypeId) (K : Keyed P k) (ht : P.underlying t = some (.map k e)) (z : Value) (hz : (zeroValue e).run P w = .ok z w) (b n : Nat) (D : DataW Value)
    (hm : a.eval m = .map (some b)) (hown : w.ownsMap P k rawElem b n D) (key : Value) (kl : Lit) (hx : a.eval x = key) (hkey : keyOf P k key = some kl)
    (v : Value) (hat : D.atKey kl (.held z) = .held v)
    (hK : wpList P ops Q rest (a.put o.dst v) w) : wpList P ops Q (o :: rest) a w := by
  refine wpList_plain hg fun K' hK' => ?_
  obtain ⟨u, ps, hrun, hu⟩ := hown.lookup K ht hz (zd := .held z) (zp := []) rfl hkey
  rw [hat] at hu
  simp only [rawElem, Option.some.injEq, Prod.mk.injEq, DataW.held.injEq] at hu
  obtain ⟨rfl, _⟩ := hu
  unfold Oper.wp
  simp [execOp, hop, hm, hx, hrun, Result.andThen]
  exact hK' _ _ hK

/-- 'v, ok := m[k]' of elements as they lie. -/
theorem wpList_lookup_raw_ok {P : Program} (w : World) {ops : Array Oper} {rest : List Oper} {o : Oper} {a : Act} {Q : Exit → Act → World → Prop}
    (hg : o.guard = none) (m x : Operand) (t : TypeId) (hop : o.op = Op.lookup t m x true)
    (k e : TypeId) (K : Keyed P k) (ht : P.underlying t = some (.map k e)) (z : Value) (hz : (zeroValue e).run P w = .ok z w) (b n : Nat) (D : DataW Value)
    (hm : a.eval m = .map (some b)) (hown : w.ownsMap P k rawElem b n D) (key : Value) (kl : Lit) (hx : a.eval x = key) (hkey : keyOf P k key = some kl)
    (v : Value) (hat : D.atKey kl (.held z) = .held v) (ok : Bool) (hok : Maps.has D kl = ok)
    (hK : wpList P ops Q rest (a.put o.dst (.tuple #[v, .bool ok])) w) : wpList P ops Q (o :: rest) a w := by
  refine wpList_plain hg fun K' hK' => ?_
  obtain ⟨u, ps, hrun, hu⟩ := hown.look_ok K ht hz (zd := .held z) (zp := []) rfl hkey
  rw [hat] at hu
  rw [hok] at hrun
  simp only [rawElem, Option.some.injEq, Prod.mk.injEq, DataW.held.injEq] at hu
  obtain ⟨rfl, _⟩ := hu
  unfold Oper.wp
  simp [execOp, hop, hm, hx, hrun, Result.andThen]
  exact hK' _ _ hK
/-- The same inside a region that draws its order. -/
theorem step_lookup_raw_ok {P : Program} (w : World) {ops : Array Oper} {o : Oper} {a : Act} {K : Act → World → Prop} {Q : Exit → Act → World → Prop} {E : Prop}
    (hg : o.guard = none) (m x : Operand) (t : TypeId) (hop : o.op = Op.lookup t m x true)
    (k e : TypeId) (KK : Keyed P k) (ht : P.underlying t = some (.map k e)) (z : Value) (hz : (zeroValue e).run P w = .ok z w) (b n : Nat) (D : DataW Value)
    (hm : a.eval m = .map (some b)) (hown : w.ownsMap P k rawElem b n D) (key : Value) (kl : Lit) (hx : a.eval x = key) (hkey : keyOf P k key = some kl)
    (v : Value) (hat : D.atKey kl (.held z) = .held v) (ok : Bool) (hok : Maps.has D kl = ok)
    (hK : K (a.put o.dst (.tuple #[v, .bool ok])) w) : if Region.wanted o (yielded ops a.tmps) = true then Oper.wp P o a w K Q else E := by
  rw [if_pos (by simp [Region.wanted, hg])]
  obtain ⟨u, ps, hrun, hu⟩ := hown.look_ok KK ht hz (zd := .held z) (zp := []) rfl hkey
  rw [hat] at hu
  rw [hok] at hrun
  simp only [rawElem, Option.some.injEq, Prod.mk.injEq, DataW.held.injEq] at hu
  obtain ⟨rfl, _⟩ := hu
  unfold Oper.wp
  simp [execOp, hop, hm, hx, hrun, Result.andThen]
  exact hK
end Go.Proofs.YtnmgdlmicgbapaaDoor
