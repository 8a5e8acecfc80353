/- The walk of numbers: how the program writes a row of numbers. -/
import Derived.Test.YtjloonijnbfhhaaDoorERefParse
import Derived.Test.YtjloonijnbfhhaaDoorShelfB
namespace Go.Proofs.YtjloonijnbfhhaaDoor
open Go.RowKit Go.Maps Go.WideShapes

namespace Tw
open Qw Rw
/-- Numbers with blanks between. -/
def nums (ns : List Int) : List UInt8 := Lib.join (ns.map Lib.itoa) [32]
theorem itoa_le {n : Int} (hn : Cl.inRange n) : (Lib.itoa n).length ≤ 100 := by have := itoa_len hn; rwa [mk_size] at this
theorem join_len : ∀ (l : List (List UInt8)), (∀ x ∈ l, x.length ≤ 100) → (Lib.join l [32]).length ≤ 101 * l.length
  | [], _ => by simp [Lib.join, List.intercalate]
  | [x], h => by rw [Lib.join_one]; have := h x (by simp); simp only [List.length_cons, List.length_nil]; omega
  | x :: y :: r, h => by
    have ih := join_len (y :: r) (fun z hz => h z (by simp [hz]))
    have hx := h x (by simp)
    have e : Lib.join (x :: y :: r) [32] = x ++ [32] ++ Lib.join (y :: r) [32] := by simp [Lib.join, List.intercalate, List.intersperse]
    rw [e, List.length_append, List.length_append]
    simp only [List.length_cons, List.length_nil] at *
    omega
theorem take_snoc {l : List Int} {j : Nat} {n : Int} (h : l[j]? = some n) : strsV ((l.take j).map Lib.itoa) ++ [.string (mk (Lib.itoa n))] = strsV ((l.take (j + 1)).map Lib.itoa) := by
  obtain ⟨hj, he⟩ := List.getElem?_eq_some_iff.1 h
  rw [List.take_succ_eq_append_getElem hj, he]
  simp [strsV]
theorem join_bytes (l : List (List UInt8)) : (l.map mk).map (fun b => b.data.toList) = l := by
  rw [List.map_map]
  conv => rhs; rw [← List.map_id l]
  rfl
theorem strT2 : CellT Tryd.prog 27 9 (.string ByteArray.empty) 16 := strT
set_option maxRecDepth 100000 in
set_option maxHeartbeats 4000000 in
theorem numbers_any (ns : List Int) (g : Nat) (w : World) (h1 : 0 < ns.length) (h2 : ns.length ≤ 5) (hr : ∀ n ∈ ns, Cl.inRange n) (hg : g < w.heap.size) (hc : ∀ j n, ns[j]? = some n → w.cell? ⟨g, j, none⟩ = some (.int .i64 n)) (hv : Vars w) : Calls Tryd.prog 80 #[.slice (some ⟨g, 0, none⟩) ns.length ns.length] w fun e w' => e = .returned (.string (mk (nums ns))) ∧ Below w.heap.size w w' := by
  have HC := Lib.hid hc
  have HR := Lib.hid hr
  clear hc hr
  go_enter Tryd.func80, Tryd.ntmps80
  go_wp2
  go_loopg [3, 8] ns.length (fun gg s3 s8 wx => ∃ j : Nat, j + gg = ns.length ∧ s8 = .int .i64 j ∧ wx.ownsRow w.heap.size 9 1 s3 j (strsV ((ns.take j).map Lib.itoa)) ∧ Below w.heap.size w wx)
  case atStart => exact ⟨0, by omega, rfl, World.ownsRow_nil _ _ _ _, Below.refl _ _⟩
  case round =>
    obtain ⟨j, hjg, rfl, hown, hbw⟩ := hrel
    have hsz := hbw.size
    by_cases hj : j < ns.length
    · have hji : (j : Int) < (ns.length : Int) := by omega
      obtain ⟨n, hn⟩ : ∃ n, ns[j]? = some n := ⟨_, List.getElem?_eq_getElem hj⟩
      have hin := HR.out n (List.mem_of_getElem? hn)
      have v0 : wr.cell? ⟨g, j, none⟩ = some (.int .i64 n) := (hbw.cell (p := ⟨g, j, none⟩) hg).trans (HC.out j n hn)
      have hvr : Vars wr := hv.below hbw hv.lt
      have HS := Lib.hid (take_snoc hn)
      have hl : (strsV ((ns.take j).map Lib.itoa)).length = j := by rw [strsV_len, List.length_map, List.length_take]; omega
      have hl2 : (strsV ((ns.take (j + 1)).map Lib.itoa)).length = j + 1 := by rw [strsV_len, List.length_map, List.length_take]; omega
      clear hn
      go_wp2_with (first
        | (go_at_call 64; refine (Tryd.strconv_Itoa _ hin.1 hin.2 _ hvr.tab).mono ?_; rintro e w' ⟨rfl, k, os, rfl⟩; have hbk := grow_below wr k os; generalize Sort.grow (wr.drewN k) os = w1 at *; have hown1 := own_below hown hbk; have hbw1 := hbw.trans (hbk.mono hsz))
        | (at_builtin; refine wpList_append_cells strT w1 rfl _ _ rfl _ w.heap.size _ (strsV ((ns.take j).map Lib.itoa)) [.string ⟨(Lib.itoa n).toArray⟩] 1 (by rfl) (by rfl) (one_str _) (by rfl) (by rw [hl]; exact hown1) (by rfl) (by rw [hl]; simp only [List.length_cons, List.length_nil]; omega) (by rw [hl]; simp only [List.length_cons, List.length_nil]; omega) hbw1.size ?_; intro v1 w9 ho1 hg1 _))
      go_roundg (ns.length - (j + 1))
      case measure => omega
      case rel =>
        refine ⟨j + 1, by omega, by go_num, ?_, hbw1.grown hg1 hbw1.size (fun j hj => (hown1.lt j hj).1)⟩
        have e : strsV ((ns.take j).map Lib.itoa) ++ [.string ⟨(Lib.itoa n).toArray⟩] = _ := HS.out
        rw [e, hl2] at ho1
        exact ho1
    · obtain rfl : j = ns.length := by omega
      have hm : (ns.take ns.length).map Lib.itoa = ns.map Lib.itoa := by rw [List.take_length]
      rw [hm] at hown
      obtain ⟨gg, cap, rfl, hb1, hg1, hcap, hmax, hcell, _⟩ := own_at hown h1
      have HX := Lib.hid (fun j x (hx : ((ns.map Lib.itoa).map mk)[j]? = some x) => show wr.cell? ⟨gg, 0 + j, none⟩ = some (.string x) from by
        rw [List.getElem?_map, Option.map_eq_some_iff] at hx
        obtain ⟨t, ht, rfl⟩ := hx
        have hjl := (List.getElem?_eq_some_iff.1 ht).1
        rw [List.length_map] at hjl
        rw [Nat.zero_add, hcell j (by omega)]
        exact strsV_at ht)
      have hjl : (Lib.join (((ns.map Lib.itoa).map mk).map (·.data.toList)) [32]).length ≤ 140737488355328 := by
        rw [join_bytes]
        have := join_len (ns.map Lib.itoa) (by intro x hx; obtain ⟨n, hn, rfl⟩ := List.mem_map.1 hx; exact itoa_le (HR.out n hn))
        rw [List.length_map] at this
        omega
      have hjn := Tryd.strings_Join gg 0 cap ((ns.map Lib.itoa).map mk) ⟨#[32]⟩ wr HX.out hg1 (by rw [List.length_map, List.length_map]; omega) (by rw [List.length_map, List.length_map]; omega) hjl
      rw [List.length_map, List.length_map, join_bytes] at hjn
      have HJ := Lib.hid hjn
      clear hjn hcell hown
      go_wp2_with (go_at_call 93; refine HJ.out.mono ?_; rintro e w1 ⟨rfl, hb2⟩)
      go_ret
      exact ⟨rfl, hbw.trans (hb2.mono hsz)⟩
end Tw
end Go.Proofs.YtjloonijnbfhhaaDoor
