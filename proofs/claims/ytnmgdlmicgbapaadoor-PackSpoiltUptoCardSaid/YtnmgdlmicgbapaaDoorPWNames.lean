/- The walks of a path's names: the document's loop, the program's Split. -/
import Derived.Test.YtnmgdlmicgbapaaDoorPWDoc
namespace Go.Proofs.YtnmgdlmicgbapaaDoor
open Go.RowKit

namespace Pw
open Pk
theorem split_bytes (s : ByteArray) : Lib.splitB ⟨#[47]⟩ 0 (Lib.countB s ⟨#[47]⟩) s = (cut (bs s)).map mk := by
  have h1 := Lib.splitB_data ⟨#[47]⟩ 0 (Lib.countB s ⟨#[47]⟩) s
  have h2 : Lib.splitK (ByteArray.mk #[47]).data.toList 0 (Lib.countB s ⟨#[47]⟩) s.data.toList = cut (bs s) := split_cut (bs s).length (bs s) (Nat.le_refl _)
  rw [h2] at h1
  rw [← h1, List.map_map]
  have : (mk ∘ fun x : ByteArray => x.data.toList) = id := rfl
  rw [this, List.map_id]
theorem names_any (s : ByteArray) (w : World) (hs : s.size ≤ 100000000) (hm : ∃ m, w.cell? ⟨2, 0, none⟩ = some (.int .i64 m)) : Calls Tryd.prog 24 #[.string s] w fun e w' => ∃ v, e = .returned v ∧ w'.ownsRow w.heap.size 9 1 v (names (bs s)).length (strsV (names (bs s))) ∧ Below w.heap.size w w' := by
  by_cases h0 : bs s = []
  · have HN := Lib.hid (show names (bs s) = [] by unfold names; rw [if_pos h0])
    have h1 : s.toList = [] := by rw [toList_bs]; exact h0
    clear h0 hm
    go_enter Tryd.func24, Tryd.ntmps24
    go_wp2
    go_ret
    exact ⟨.slice none 0 0, rfl, by rw [HN.out]; exact World.ownsRow_nil _ _ _ _, Below.refl _ _⟩
  · have HN := Lib.hid (show names (bs s) = cut (bs s) by unfold names; rw [if_neg h0])
    have h1 : ¬ s.toList = [] := by rw [toList_bs]; exact h0
    have h2 : s.toList.isEmpty = false := by rw [List.isEmpty_eq_false_iff]; exact h1
    obtain ⟨m, hm⟩ := hm
    have HC := Lib.hid (cut_count (bs s))
    have hcc := List.count_le_length (a := (47 : UInt8)) (l := bs s)
    rw [bs_len] at hcc
    have hsp := split_bytes s
    have HS := Tryd.strings_Split s ⟨#[47]⟩ m w (by omega) hm (by decide)
    have hl : (cut (bs s)).length = Lib.countB s ⟨#[47]⟩ + 1 := by
      have := Lib.splitB_all ⟨#[47]⟩ (by decide) 0 _ s rfl
      rw [hsp, List.length_map] at this
      exact this
    rw [hsp, ← hl, List.map_map] at HS
    have e1 : (cut (bs s)).map (Value.string ∘ mk) = strsV (cut (bs s)) := rfl
    rw [e1] at HS
    have HL := Lib.hid (World.ownsRow_lit (base := w.heap.size) (e := 9) (size := 1) w (strsV (cut (bs s))).toArray (cut (bs s)).length (Nat.le_refl _) (by rw [HC.out]; unfold maxLen; omega) (by simp [strsV_len]))
    clear h0 hm hl hsp e1
    generalize cut (bs s) = C at HS HN HL HC
    go_enter Tryd.func24, Tryd.ntmps24
    go_wp2_with (go_at_call 33; refine HS.mono ?_; rintro e w1 ⟨rfl, rfl⟩)
    go_ret
    exact ⟨_, rfl, by rw [HN.out]; have := HL.out; simpa using this, (Below.refl _ _).alloc (Nat.le_refl _) _⟩
end Pw
end Go.Proofs.YtnmgdlmicgbapaaDoor
