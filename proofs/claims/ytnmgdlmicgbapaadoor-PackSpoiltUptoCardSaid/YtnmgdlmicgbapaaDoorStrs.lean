/- Laws for slices of texts, and of whatever elements of one cell, that the call owns: what is appended. -/
import Derived.Test.YtnmgdlmicgbapaaDoorBytes
namespace Go.Proofs.YtnmgdlmicgbapaaDoor
open Go.RowKit

/-- A slice type, and its element type: one cell. -/
structure CellT (P : Program) (S T : TypeId) (z : Value) (k : Nat) : Prop where
  und : P.underlying S = some (.slice T)
  info : (P.info? T).map (fun i => (i.zero, i.size, i.bytes)) = some (some z, 1, k)
  one : z.cells.size = 1

/-- 'out = append(out, x, y ..)', out a slice that the call owns. -/
theorem wpList_append_cells {P : Program} {S T : TypeId} {z : Value} {k : Nat} (B : CellT P S T z k) (W : World) {ops : Array Oper} {rest : List Oper} {o : Oper} {a : Act} {Q : Exit → Act → World → Prop} (hgd : o.guard = none) (s x : Operand)
    (ho : o.op = .call { callee := .builtin .append, args := #[s, x], argTypes := #[S, S] }) (cs : Array Value) (base : Nat) (v : Value) (l r : List Value) (m : Nat) (hk : cs = r.toArray) (hm : m = r.length) (h1 : ∀ u ∈ r, u.oneCell' = true)
    (hs : a.eval s = v) (hown : W.ownsRow base T 1 v l.length l) (hx : a.eval x = .slice (some ⟨W.heap.size, 0, none⟩) m m)
    (hlen : l.length + r.length ≤ 1000000000000000) (hby : (l.length + r.length) * k ≤ 140737488355328) (hbase : base ≤ W.heap.size)
    (h : ∀ v' w', w'.ownsRow base T 1 v' (l ++ r).length (l ++ r) → W.grownBy w' v.ownBlock → (v'.ownBlock = v.ownBlock ∨ ∃ g, v'.ownBlock = some g ∧ W.heap.size ≤ g) → wpList P ops Q rest (a.put o.dst v') w') :
    wpList P ops Q (o :: rest) a (W.alloc (.cells cs T)) := by
  obtain ⟨i0, hi, hz0, hz1, hz2⟩ := info_parts B.info
  subst hk; subst hm
  refine wpList_append_own_at _ hgd s x S ho base T i0 z 1 k B.und hi hz0 hz1 hz2 B.one (by decide) v _ _ hs (hown.alloc _) ⟨W.heap.size, 0, none⟩ r.length r.length r hx (by omega) (news_new _ _ _) h1 (by unfold maxLen; omega) hby (by simp; omega) ?_
  intro v' w' ho' hg' _ hat
  rw [← List.length_append] at ho'
  refine h v' w' ho' ((World.grownBy_alloc W _ _).trans hg') ?_
  rcases hat with e | e
  · exact .inl e
  · exact .inr ⟨_, e, by simp⟩

/-- Texts as cells. -/
def strsV (l : List (List UInt8)) : List Value := l.map fun t => Value.string (mk t)
theorem strsV_len (l : List (List UInt8)) : (strsV l).length = l.length := by simp [strsV]
theorem strsV_app (l r : List (List UInt8)) : strsV (l ++ r) = strsV l ++ strsV r := by simp [strsV]
theorem strsV_at {l : List (List UInt8)} {j : Nat} {t : List UInt8} (h : l[j]? = some t) : (strsV l)[j]? = some (.string (mk t)) := by simp [strsV, h]
/-- A row of the call's own stays behind a callee that leaves the old blocks alone. -/
theorem own_below {w w1 : World} {base : Nat} {e : TypeId} {size : Nat} {v : Value} {n : Nat} {xs : List Value} (h : w.ownsRow base e size v n xs) (hb : Below w.heap.size w w1) : w1.ownsRow base e size v n xs := by
  refine ⟨h.1, ?_⟩
  rcases h.2 with h2 | ⟨g, cap, cur, rfl, h3, h4, h5⟩
  · exact .inl h2
  · exact .inr ⟨g, cap, cur, rfl, h3, (hb.block g (h.lt g rfl).2).trans h4, h5⟩
end Go.Proofs.YtnmgdlmicgbapaaDoor
