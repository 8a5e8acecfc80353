/- The walks of a path's names: the document's loop, the program's Split. -/
import Derived.Test.YtnmgdlmicgbapaaGreatDoorPWDoc
namespace Go.Proofs.YtnmgdlmicgbapaaGreatDoor
open Go.RowKit

namespace Pw
open Pk
set_option maxHeartbeats 1000000 in
theorem dnames_any (s : ByteArray) (w : World) (hs : s.size ≤ 2000000) : Calls Tryz.prog 35 #[.string s] w fun e w' => ∃ v, e = .returned v ∧ w'.ownsRow w.heap.size 9 1 v (names (bs s)).length (strsV (names (bs s))) ∧ Below w.heap.size w w' := by
  by_cases h0 : bs s = []
  · have HN := Lib.hid (show names (bs s) = [] by unfold names; rw [if_pos h0])
    have h1 : s.toList = [] := by rw [toList_bs]; exact h0
    have h2 : s.toList.isEmpty = true := by rw [h1]; rfl
    clear h0
    go_enter Tryz.func35, Tryz.ntmps35
    go_wp2
    go_loop [3, 5] (fun v i => v = .slice none 0 0 ∧ i = .int .i64 0) (fun _ _ => 0)
    case atStart => exact ⟨rfl, rfl⟩
    case round =>
      obtain ⟨rfl, rfl⟩ := hrel
      go_wp2
      go_ret
      exact ⟨.slice none 0 0, rfl, by rw [HN.out]; exact World.ownsRow_nil _ _ _ _, Below.refl _ _⟩
  · have HN := Lib.hid (show names (bs s) = cut (bs s) by unfold names; rw [if_neg h0])
    have h1 : ¬ s.toList = [] := by rw [toList_bs]; exact h0
    have h2 : s.toList.isEmpty = false := by rw [List.isEmpty_eq_false_iff]; exact h1
    have hcl := Lib.hid (cut_count (bs s))
    have hcc := List.count_le_length (a := (47 : UInt8)) (l := bs s)
    rw [bs_len] at hcc
    clear h0
    go_enter Tryz.func35, Tryz.ntmps35
    go_wp2
    go_loopw [3, 4, 5] (fun v fv i wr => ∃ k f : Nat, ∃ done : List (List UInt8), i = .int .i64 k ∧ fv = .int .i64 f ∧ k ≤ s.size + 1 ∧ f ≤ k ∧ wr.ownsRow w.heap.size 9 1 v done.length (strsV done) ∧ Below w.heap.size w wr ∧ done.length ≤ k ∧
      ((k ≤ s.size ∧ Hid (∀ j, f ≤ j → j < k → (bs s)[j]? ≠ some 47) ∧ Hid (cut (bs s) = done ++ cut ((bs s).drop f))) ∨ (k = s.size + 1 ∧ Hid (cut (bs s) = done)))) (fun _ _ i _ => s.size + 1 - (intOf i).toNat)
    case atStart => exact ⟨0, 0, [], rfl, rfl, by omega, Nat.le_refl _, World.ownsRow_nil _ _ _ _, Below.refl _ _, Nat.zero_le _, .inl ⟨by omega, fun j _ h => by omega, rfl⟩⟩
    case round =>
      obtain ⟨k, f, done, rfl, rfl, hk, hf, hown, hnx, hdk, hR⟩ := hrel
      have hsz := hnx.size
      have hdl := Lib.hid (strsV_len done)
      rcases hR with ⟨hks, hN, hR⟩ | ⟨rfl, hR⟩
      · by_cases hlt : k < s.size
        · have hget := bs_get s k hlt
          by_cases h47 : s[k].toNat = 47
          · have h3 : ((s[k].toNat : Int) == 47) = true := by simp [h47]
            have HP := Lib.hid (cut_first ((bs s).drop f) (k - f) (by rw [List.getElem?_drop, show f + (k - f) = k by omega, hget, u8_47 h47]) (fun j hj => by rw [List.getElem?_drop]; exact hN.out (f + j) (by omega) (by omega)))
            have HQ := Lib.hid (show ((bs s).drop f).drop (k - f + 1) = (bs s).drop (k + 1) by rw [List.drop_drop, show f + (k - f + 1) = k + 1 by omega])
            have hex : s.extract f k = mk (((bs s).drop f).take (k - f)) := mk_cut (bs s) f k
            obtain ⟨X, hX⟩ : ∃ X, X = ((bs s).drop f).take (k - f) := ⟨_, rfl⟩
            rw [← hX] at hex HP
            clear hX h47 hget hN
            go_wp2_with (at_builtin; refine wpList_append_cells strT wr rfl _ _ rfl _ w.heap.size _ (strsV done) [.string (mk X)] 1 (by rfl) (by rfl) (by simp [Value.oneCell']) (by rfl) (by rw [hdl.out]; exact hown) (by rfl) (by rw [hdl.out]; simp only [List.length_cons, List.length_nil]; omega) (by rw [hdl.out]; simp only [List.length_cons, List.length_nil]; omega) hsz ?_; intro v1 w1 ho1 hg1 _)
            go_roundw
            case rel =>
              refine ⟨k + 1, k + 1, done ++ [X], by go_num, by go_num, by omega, by omega, ?_, hnx.grown hg1 hsz (fun j hj => (hown.lt j hj).1), by simp; omega, .inl ⟨by omega, fun j h1 h2 => by omega, ?_⟩⟩
              · rw [strsV_app]; rw [List.length_append] at ho1 ⊢; rw [hdl.out] at ho1; exact ho1
              · have := hR.out; rw [HP.out, HQ.out] at this; rw [this]; exact List.append_cons _ _ _
            case measure => simp [intOf]; omega
          · have h3 : ((s[k].toNat : Int) == 47) = false := by simp; omega
            have HN2 := Lib.hid (show ∀ j, f ≤ j → j < k + 1 → (bs s)[j]? ≠ some 47 from fun j h1 h2 => by
              rcases Nat.lt_or_ge j k with h | h
              · exact hN.out j h1 h
              · obtain rfl : j = k := by omega
                rw [hget]; exact fun e => u8_47' h47 (Option.some.inj e))
            clear h47 hget hN
            go_wp2
            go_roundw
            case rel => exact ⟨k + 1, f, done, by go_num, rfl, by omega, by omega, hown, hnx, by omega, .inl ⟨by omega, HN2, hR⟩⟩
            case measure => simp [intOf]; omega
        · obtain rfl : k = s.size := by omega
          have HP := Lib.hid (cut_whole ((bs s).drop f) (fun j hj => by rw [List.getElem?_drop]; exact hN.out (f + j) (by omega) (by rw [List.length_drop, bs_len] at hj; omega)))
          have hex : s.extract f s.size = mk ((bs s).drop f) := Lib.extract_from s f
          obtain ⟨X, hX⟩ : ∃ X, X = (bs s).drop f := ⟨_, rfl⟩
          rw [← hX] at hex HP hR
          clear hX hN
          go_wp2_with (at_builtin; refine wpList_append_cells strT wr rfl _ _ rfl _ w.heap.size _ (strsV done) [.string (mk X)] 1 (by rfl) (by rfl) (by simp [Value.oneCell']) (by rfl) (by rw [hdl.out]; exact hown) (by rfl) (by rw [hdl.out]; simp only [List.length_cons, List.length_nil]; omega) (by rw [hdl.out]; simp only [List.length_cons, List.length_nil]; omega) hsz ?_; intro v1 w1 ho1 hg1 _)
          go_roundw
          case rel =>
            refine ⟨s.size + 1, s.size + 1, done ++ [X], by go_num, by go_num, by omega, by omega, ?_, hnx.grown hg1 hsz (fun j hj => (hown.lt j hj).1), by simp; omega, .inr ⟨rfl, ?_⟩⟩
            · rw [strsV_app]; rw [List.length_append] at ho1 ⊢; rw [hdl.out] at ho1; exact ho1
            · have := hR.out; rw [HP.out] at this; exact this
          case measure => simp [intOf] <;> omega
      · go_wp2
        go_ret
        exact ⟨_, rfl, by rw [HN.out, hR.out]; exact hown, hnx⟩
theorem split_bytes (s : ByteArray) : Lib.splitB ⟨#[47]⟩ 0 (Lib.countB s ⟨#[47]⟩) s = (cut (bs s)).map mk := by
  have h1 := Lib.splitB_data ⟨#[47]⟩ 0 (Lib.countB s ⟨#[47]⟩) s
  have h2 : Lib.splitK (ByteArray.mk #[47]).data.toList 0 (Lib.countB s ⟨#[47]⟩) s.data.toList = cut (bs s) := split_cut (bs s).length (bs s) (Nat.le_refl _)
  rw [h2] at h1
  rw [← h1, List.map_map]
  have : (mk ∘ fun x : ByteArray => x.data.toList) = id := rfl
  rw [this, List.map_id]
theorem names_any (s : ByteArray) (w : World) (hs : s.size ≤ 2000000) (hm : ∃ m, w.cell? ⟨2, 0, none⟩ = some (.int .i64 m)) : Calls Tryz.prog 43 #[.string s] w fun e w' => ∃ v, e = .returned v ∧ w'.ownsRow w.heap.size 9 1 v (names (bs s)).length (strsV (names (bs s))) ∧ Below w.heap.size w w' := by
  by_cases h0 : bs s = []
  · have HN := Lib.hid (show names (bs s) = [] by unfold names; rw [if_pos h0])
    have h1 : s.toList = [] := by rw [toList_bs]; exact h0
    clear h0 hm
    go_enter Tryz.func43, Tryz.ntmps43
    go_wp2
    go_ret
    exact ⟨.slice none 0 0, rfl, by rw [HN.out]; exact World.ownsRow_nil _ _ _ _, Below.refl _ _⟩
  · have HN := Lib.hid (show names (bs s) = cut (bs s) by unfold names; rw [if_neg h0])
    have h1 : ¬ s.toList = [] := by rw [toList_bs]; exact h0
    have h2 : s.toList.isEmpty = false := by rw [List.isEmpty_eq_false_iff]; exact h1
    obtain ⟨m, hm⟩ := hm
    have HC := Lib.hid (cut_count (bs s))
    have hcc := List.count_le_length (a := (47 : UInt8)) (l := bs s)
    rw [bs_len] at hcc
    have hsp := split_bytes s
    have HS := Tryz.strings_Split s ⟨#[47]⟩ m w (by omega) hm (by decide)
    have hl : (cut (bs s)).length = Lib.countB s ⟨#[47]⟩ + 1 := by
      have := Lib.splitB_all ⟨#[47]⟩ (by decide) 0 _ s rfl
      rw [hsp, List.length_map] at this
      exact this
    rw [hsp, ← hl, List.map_map] at HS
    have e1 : (cut (bs s)).map (Value.string ∘ mk) = strsV (cut (bs s)) := rfl
    rw [e1] at HS
    have HL := Lib.hid (World.ownsRow_lit (base := w.heap.size) (e := 9) (size := 1) w (strsV (cut (bs s))).toArray (cut (bs s)).length (Nat.le_refl _) (by rw [HC.out]; unfold maxLen; omega) (by simp [strsV_len]))
    clear h0 hm hl hsp e1
    generalize cut (bs s) = C at HS HN HL HC
    go_enter Tryz.func43, Tryz.ntmps43
    go_wp2_with (go_at_call 52; refine HS.mono ?_; rintro e w1 ⟨rfl, rfl⟩)
    go_ret
    exact ⟨_, rfl, by rw [HN.out]; have := HL.out; simpa using this, (Below.refl _ _).alloc (Nat.le_refl _) _⟩
end Pw
end Go.Proofs.YtnmgdlmicgbapaaGreatDoor
