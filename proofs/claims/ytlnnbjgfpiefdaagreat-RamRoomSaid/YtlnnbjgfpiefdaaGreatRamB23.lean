/- The keys of a map, sorted: the contracts of the library laid at this program (by the kit's own tool; in plain words). -/
import Derived.Shelf.SlIter.Nil
import Derived.Shelf.SortM.Plain
import Derived.Shelf.SortM.SortNone
import Derived.Test.YtlnnbjgfpiefdaaGreatProg
import Derived.Test.YtlnnbjgfpiefdaaGreatRamB22
namespace Go.Proofs
open Go.RowKit Go.Maps Go.Sort Go.Shelf

def Tryz.keys63_ren : Go.Shelf.Ren := ⟨fun | 7 => 63 | 10 => 93 | n => n, fun | 23 => 63 | 26 => 9 | 3 => 3 | 28 => 118 | 0 => 0 | 27 => 117 | 33 => 146 | 4 => 4 | n => n, fun  | n => n⟩
theorem Tryz.keys63 : Go.Proofs.SlLaysZ.n7 Tryz.prog Tryz.keys63_ren := {
  mixed := by kernel_rfl
  f7 := ⟨_, (by kernel_rfl : (Tryz.f63.name == "runtime.NumGoroutine") = false), Tryz.func63.trans (congrArg some (by kernel_rfl))⟩
  f10 := ⟨_, (by kernel_rfl : (Tryz.f93.name == "runtime.NumGoroutine") = false), Tryz.func93.trans (congrArg some (by kernel_rfl))⟩
  t0 := Tryz.underlying0
  a0 := Tryz.isAgg0
  z0 := Tryz.sizeOf0
  v0 := Tryz.zeroValue0
  t4 := Tryz.underlying4
  a4 := Tryz.isAgg4
  z4 := Tryz.sizeOf4
  v4 := Tryz.zeroValue4
  t23 := Tryz.underlying63
  a23 := Tryz.isAgg63
  z23 := Tryz.sizeOf63
  v23 := Tryz.zeroValue63
  t26 := Tryz.underlying9
  a26 := Tryz.isAgg9
  z26 := Tryz.sizeOf9
  v26 := Tryz.zeroValue9
  t27 := Tryz.underlying117
  a27 := Tryz.isAgg117
  z27 := Tryz.sizeOf117
  v27 := Tryz.zeroValue117
  t28 := Tryz.underlying118
  a28 := Tryz.isAgg118
  z28 := Tryz.sizeOf118
  v28 := Tryz.zeroValue118
  t33 := Tryz.underlying146
  a33 := Tryz.isAgg146
  z33 := Tryz.sizeOf146
  v33 := Tryz.zeroValue146 }
def Tryz.sorted62_ren : Go.Shelf.Ren := ⟨fun | 6 => 62 | 8 => 91 | 9 => 92 | 11 => 108 | 13 => 110 | 12 => 109 | 23 => 123 | 24 => 124 | 14 => 114 | 15 => 115 | 16 => 116 | 17 => 117 | 18 => 118 | 19 => 119 | 20 => 120 | 21 => 121 | 22 => 122 | 25 => 126 | 26 => 127 | 27 => 128 | 28 => 129 | 29 => 130 | 30 => 131 | 31 => 132 | n => n, fun | 26 => 9 | 28 => 118 | 24 => 40 | 0 => 0 | 3 => 3 | 37 => 160 | 48 => 172 | 50 => 174 | 4 => 4 | 40 => 166 | 39 => 165 | 45 => 154 | 5 => 5 | 9 => 9 | 51 => 175 | 55 => 179 | 57 => 181 | 58 => 182 | 33 => 146 | n => n, fun  | n => n⟩
theorem Tryz.sorted62 : Go.Proofs.SlLaysZ.n6 Tryz.prog Tryz.sorted62_ren := {
  mixed := by kernel_rfl
  f6 := ⟨_, (by kernel_rfl : (Tryz.f62.name == "runtime.NumGoroutine") = false), Tryz.func62.trans (congrArg some (by kernel_rfl))⟩
  f8 := ⟨_, (by kernel_rfl : (Tryz.f91.name == "runtime.NumGoroutine") = false), Tryz.func91.trans (congrArg some (by kernel_rfl))⟩
  f11 := ⟨_, (by kernel_rfl : (Tryz.f108.name == "runtime.NumGoroutine") = false), Tryz.func108.trans (congrArg some (by kernel_rfl))⟩
  t0 := Tryz.underlying0
  a0 := Tryz.isAgg0
  z0 := Tryz.sizeOf0
  v0 := Tryz.zeroValue0
  t24 := Tryz.underlying40
  a24 := Tryz.isAgg40
  z24 := Tryz.sizeOf40
  v24 := Tryz.zeroValue40
  t26 := Tryz.underlying9
  a26 := Tryz.isAgg9
  z26 := Tryz.sizeOf9
  v26 := Tryz.zeroValue9
  t28 := Tryz.underlying118
  a28 := Tryz.isAgg118
  z28 := Tryz.sizeOf118
  v28 := Tryz.zeroValue118
  i26 := by kernel_rfl }
def Tryz.sort92_ren : Go.Shelf.Ren := ⟨fun | 6 => 92 | 8 => 110 | 9 => 109 | 19 => 123 | 20 => 124 | 21 => 114 | 22 => 115 | 23 => 116 | 24 => 117 | 25 => 118 | 26 => 119 | 27 => 120 | 28 => 121 | 29 => 122 | 36 => 126 | 31 => 127 | 32 => 128 | 37 => 129 | 38 => 130 | 39 => 131 | 41 => 132 | n => n, fun | 27 => 40 | 29 => 9 | 3 => 3 | 32 => 160 | 26 => 40 | 0 => 0 | 44 => 172 | 46 => 174 | 4 => 4 | 36 => 166 | 35 => 165 | 41 => 154 | 5 => 5 | 9 => 9 | 53 => 175 | 57 => 179 | 63 => 181 | 64 => 182 | n => n, fun  | n => n⟩
theorem Tryz.sort92 : Go.Proofs.SlLaysM.n6 Tryz.prog Tryz.sort92_ren := {
  mixed := by kernel_rfl
  f6 := ⟨_, (by kernel_rfl : (Tryz.f92.name == "runtime.NumGoroutine") = false), Tryz.func92.trans (congrArg some (by kernel_rfl))⟩
  f8 := Tryz.func110.trans (congrArg some (by kernel_rfl))
  f9 := ⟨_, (by kernel_rfl : (Tryz.f109.name == "runtime.NumGoroutine") = false), Tryz.func109.trans (congrArg some (by kernel_rfl))⟩
  f19 := Tryz.func123.trans (congrArg some (by kernel_rfl))
  f20 := Tryz.func124.trans (congrArg some (by kernel_rfl))
  f21 := ⟨_, (by kernel_rfl : (Tryz.f114.name == "runtime.NumGoroutine") = false), Tryz.func114.trans (congrArg some (by kernel_rfl))⟩
  f22 := ⟨_, (by kernel_rfl : (Tryz.f115.name == "runtime.NumGoroutine") = false), Tryz.func115.trans (congrArg some (by kernel_rfl))⟩
  f23 := ⟨_, (by kernel_rfl : (Tryz.f116.name == "runtime.NumGoroutine") = false), Tryz.func116.trans (congrArg some (by kernel_rfl))⟩
  f24 := ⟨_, (by kernel_rfl : (Tryz.f117.name == "runtime.NumGoroutine") = false), Tryz.func117.trans (congrArg some (by kernel_rfl))⟩
  f25 := ⟨_, (by kernel_rfl : (Tryz.f118.name == "runtime.NumGoroutine") = false), Tryz.func118.trans (congrArg some (by kernel_rfl))⟩
  f26 := ⟨_, (by kernel_rfl : (Tryz.f119.name == "runtime.NumGoroutine") = false), Tryz.func119.trans (congrArg some (by kernel_rfl))⟩
  f27 := ⟨_, (by kernel_rfl : (Tryz.f120.name == "runtime.NumGoroutine") = false), Tryz.func120.trans (congrArg some (by kernel_rfl))⟩
  f28 := ⟨_, (by kernel_rfl : (Tryz.f121.name == "runtime.NumGoroutine") = false), Tryz.func121.trans (congrArg some (by kernel_rfl))⟩
  f29 := ⟨_, (by kernel_rfl : (Tryz.f122.name == "runtime.NumGoroutine") = false), Tryz.func122.trans (congrArg some (by kernel_rfl))⟩
  f31 := Tryz.func127.trans (congrArg some (by kernel_rfl))
  f32 := Tryz.func128.trans (congrArg some (by kernel_rfl))
  f36 := ⟨_, (by kernel_rfl : (Tryz.f126.name == "runtime.NumGoroutine") = false), Tryz.func126.trans (congrArg some (by kernel_rfl))⟩
  f37 := ⟨_, (by kernel_rfl : (Tryz.f129.name == "runtime.NumGoroutine") = false), Tryz.func129.trans (congrArg some (by kernel_rfl))⟩
  f38 := ⟨_, (by kernel_rfl : (Tryz.f130.name == "runtime.NumGoroutine") = false), Tryz.func130.trans (congrArg some (by kernel_rfl))⟩
  f39 := ⟨_, (by kernel_rfl : (Tryz.f131.name == "runtime.NumGoroutine") = false), Tryz.func131.trans (congrArg some (by kernel_rfl))⟩
  f41 := ⟨_, (by kernel_rfl : (Tryz.f132.name == "runtime.NumGoroutine") = false), Tryz.func132.trans (congrArg some (by kernel_rfl))⟩
  t0 := Tryz.underlying0
  a0 := Tryz.isAgg0
  z0 := Tryz.sizeOf0
  v0 := Tryz.zeroValue0
  t3 := Tryz.underlying3
  a3 := Tryz.isAgg3
  z3 := Tryz.sizeOf3
  v3 := Tryz.zeroValue3
  t4 := Tryz.underlying4
  a4 := Tryz.isAgg4
  z4 := Tryz.sizeOf4
  v4 := Tryz.zeroValue4
  t5 := Tryz.underlying5
  a5 := Tryz.isAgg5
  z5 := Tryz.sizeOf5
  v5 := Tryz.zeroValue5
  t9 := Tryz.underlying9
  a9 := Tryz.isAgg9
  z9 := Tryz.sizeOf9
  v9 := Tryz.zeroValue9
  t26 := Tryz.underlying40
  a26 := Tryz.isAgg40
  z26 := Tryz.sizeOf40
  v26 := Tryz.zeroValue40
  t27 := Tryz.underlying40
  a27 := Tryz.isAgg40
  z27 := Tryz.sizeOf40
  v27 := Tryz.zeroValue40
  t29 := Tryz.underlying9
  a29 := Tryz.isAgg9
  z29 := Tryz.sizeOf9
  v29 := Tryz.zeroValue9
  t32 := Tryz.underlying160
  a32 := Tryz.isAgg160
  z32 := Tryz.sizeOf160
  v32 := Tryz.zeroValue160
  t35 := Tryz.underlying165
  a35 := Tryz.isAgg165
  z35 := Tryz.sizeOf165
  v35 := Tryz.zeroValue165
  t36 := Tryz.underlying166
  a36 := Tryz.isAgg166
  z36 := Tryz.sizeOf166
  v36 := Tryz.zeroValue166
  t41 := Tryz.underlying154
  a41 := Tryz.isAgg154
  z41 := Tryz.sizeOf154
  v41 := Tryz.zeroValue154
  t44 := Tryz.underlying172
  a44 := Tryz.isAgg172
  z44 := Tryz.sizeOf172
  v44 := Tryz.zeroValue172
  t46 := Tryz.underlying174
  a46 := Tryz.isAgg174
  z46 := Tryz.sizeOf174
  v46 := Tryz.zeroValue174
  t53 := Tryz.underlying175
  a53 := Tryz.isAgg175
  z53 := Tryz.sizeOf175
  v53 := Tryz.zeroValue175
  t57 := Tryz.underlying179
  a57 := Tryz.isAgg179
  z57 := Tryz.sizeOf179
  v57 := Tryz.zeroValue179
  t63 := Tryz.underlying181
  a63 := Tryz.isAgg181
  z63 := Tryz.sizeOf181
  v63 := Tryz.zeroValue181
  t64 := Tryz.underlying182
  a64 := Tryz.isAgg182
  z64 := Tryz.sizeOf182
  v64 := Tryz.zeroValue182 }

theorem Tryz.sorts62 (m : Nat) : AnyZ.SortsIn Tryz.prog Tryz.sorted62_ren Fence.wide m :=
  ⟨fun blk off cap ss W hH hblk hsz => callsIn_wide.2 (AnyM.slices_Sort_string Tryz.sort92 blk off cap ss W hH hblk hsz),
   fun p cap W => callsIn_wide.2 (AnyM.slices_Sort_string_none Tryz.sort92 p cap W)⟩

theorem Tryz.maps_Keys_63 (mb : Option Nat) (W : World) : CallsIn Fence.wide 5 Tryz.prog 63 #[.map mb] W fun e w' => e = .returned (.func (.func 93) #[] #[.pointer (some ⟨W.heap.size, 0, none⟩)]) ∧ w' = W.alloc (.cells #[.map mb] 63) :=
  AnyZ.keys_in Tryz.keys63 Fence.wide 5 trivial rfl mb W

set_option maxHeartbeats 1000000 in
theorem Tryz.slices_Sorted_keys_62_63 {H : Type} (b nn : Nat) (D0 : DataW H) (R : Value → Option (DataW H × List MemPlace)) (w : World) (hown : w.ownsMap Tryz.prog 9 R b nn D0) (hmax : Maps.size D0 ≤ maxLen) (hbytes : Maps.size D0 * 16 ≤ 140737488355328) :
    CallsIn Fence.wide 5 Tryz.prog 62 #[.func (.func 93) #[] #[.pointer (some ⟨w.heap.size, 0, none⟩)]] (w.alloc (.cells #[.map (some b)] 63)) fun e w' => ∃ (v : Value) (ss : List (List UInt8)), e = .returned v ∧ ss.Perm (strKeys D0) ∧
      w'.ownsRow (w.alloc (.cells #[.map (some b)] 63)).heap.size 9 1 v ss.length ((ss.mergeSort (fun x y => decide (x ≤ y))).map encStr) ∧ (v = .slice none 0 0 ↔ ss = []) ∧ Below (w.alloc (.cells #[.map (some b)] 63)).heap.size (w.alloc (.cells #[.map (some b)] 63)) w' := by
  have hbl := hown.lt
  have hseq : SeqGives Fence.wide 2 Tryz.prog 93 #[.pointer (some ⟨w.heap.size, 0, none⟩)] encStr (fun ss => ss.Perm (strKeys D0)) (Maps.size D0) (w.alloc (.cells #[.map (some b)] 63)) :=
    AnyZ.keys_gives (ρ := Tryz.keys63_ren) { Tryz.keys63 with } Fence.wide _ trivial rfl (by omega) w.heap.size b nn D0 _ (by simp) (by simp) (by
      obtain ⟨es, clock, hb, Ft, hs, hD⟩ := hown
      exact ⟨es, clock, (Below.heap_alloc _ _ b hbl).trans hb, Ft, hs, hD⟩)
  exact AnyZ.sorted_in Tryz.sorted62 Fence.wide 5 trivial trivial trivial trivial rfl (by omega) (Tryz.sorts62 _) (enters_of Tryz.func92 (by kernel_rfl) rfl) 93 #[.pointer (some ⟨w.heap.size, 0, none⟩)] trivial (enters_of Tryz.func93 (by kernel_rfl) rfl) _ _ hmax hbytes _ hseq

set_option maxHeartbeats 1000000 in
theorem Tryz.slices_Sorted_keys_nil_62_63 (w : World) :
    CallsIn Fence.wide 5 Tryz.prog 62 #[.func (.func 93) #[] #[.pointer (some ⟨w.heap.size, 0, none⟩)]] (w.alloc (.cells #[.map none] 63)) fun e w' => ∃ (v : Value) (ss : List (List UInt8)), e = .returned v ∧ ss = [] ∧
      w'.ownsRow (w.alloc (.cells #[.map none] 63)).heap.size 9 1 v ss.length ((ss.mergeSort (fun x y => decide (x ≤ y))).map encStr) ∧ (v = .slice none 0 0 ↔ ss = []) ∧ Below (w.alloc (.cells #[.map none] 63)).heap.size (w.alloc (.cells #[.map none] 63)) w' := by
  have hseq : SeqGives Fence.wide 2 Tryz.prog 93 #[.pointer (some ⟨w.heap.size, 0, none⟩)] encStr (fun ss : List (List UInt8) => ss = []) 0 (w.alloc (.cells #[.map none] 63)) :=
    AnyZ.keys_gives_nil (ρ := Tryz.keys63_ren) { Tryz.keys63 with } Fence.wide _ trivial rfl w.heap.size _ (by simp) (by simp)
  exact AnyZ.sorted_in Tryz.sorted62 Fence.wide 5 trivial trivial trivial trivial rfl (by omega) (Tryz.sorts62 _) (enters_of Tryz.func92 (by kernel_rfl) rfl) 93 #[.pointer (some ⟨w.heap.size, 0, none⟩)] trivial (enters_of Tryz.func93 (by kernel_rfl) rfl) _ 0 (Nat.zero_le _) (by omega) _ hseq



end Go.Proofs
/- The names of a directory, sorted. -/
namespace Go.Proofs.YtlnnbjgfpiefdaaGreat
open Go.RowKit Go.Maps Go.Sort Go.Shelf

namespace Fs
theorem bytes_lt : ∀ {a b : List UInt8}, bytesBefore a b = true → a < b
  | [], [], h => by simp [bytesBefore] at h
  | [], _ :: _, _ => List.nil_lt_cons _ _
  | _ :: _, [], h => by simp [bytesBefore] at h
  | a :: r, b :: s, h => by
    simp only [bytesBefore, Bool.or_eq_true, decide_eq_true_eq, Bool.and_eq_true, beq_iff_eq] at h
    rw [List.cons_lt_cons_iff]
    rcases h with h | ⟨h1, h2⟩
    · exact .inl h
    · exact .inr ⟨h1, bytes_lt h2⟩
theorem names_sorted {m : Al Tx Int} (h : Rising m) {ss : List (List UInt8)} (hp : ss.Perm (m.map (·.1))) : ss.mergeSort (fun x y => decide (x ≤ y)) = m.map (·.1) := by
  have hs : (m.map (·.1)).Pairwise (fun x y : List UInt8 => decide (x ≤ y) = true) := by
    rw [List.pairwise_map]
    refine List.Pairwise.imp (fun {a b} hab => ?_) h
    have : a.1 < b.1 := bytes_lt hab
    exact decide_eq_true (List.le_of_lt this)
  have h1 := List.pairwise_mergeSort (le := fun x y : List UInt8 => decide (x ≤ y)) (fun a b c h1 h2 => decide_eq_true (List.le_trans (of_decide_eq_true h1) (of_decide_eq_true h2))) (fun a b => by simpa using List.le_total a b) ss
  have hp2 : (ss.mergeSort (fun x y => decide (x ≤ y))).Perm (m.map (·.1)) := (List.mergeSort_perm _ _).trans hp
  exact List.Perm.eq_of_pairwise (fun a b _ _ h1 h2 => List.le_antisymm (of_decide_eq_true h1) (of_decide_eq_true h2)) h1 hs hp2
theorem strKeys_toD (m : Al Tx Int) : strKeys (toD evI m) = m.map (·.1) := by
  unfold strKeys toD
  dsimp only
  rw [List.map_map]
  rfl
theorem keys_calls (q : Nat) (W : World) : Calls Tryz.prog 63 #[.map (some q)] W fun e w' => e = .returned (.func (.func 93) #[] #[.pointer (some ⟨W.heap.size, 0, none⟩)]) ∧ w' = W.alloc (.cells #[.map (some q)] 63) :=
  callsIn_wide.1 (Tryz.maps_Keys_63 (some q) W)
theorem sorted_calls {q : Nat} {m : Al Tx Int} {W : World} (h : MapAt Tryz.prog 9 evI W q m) (hm : m.length ≤ 1000000) :
    Calls Tryz.prog 62 #[.func (.func 93) #[] #[.pointer (some ⟨W.heap.size, 0, none⟩)]] (W.alloc (.cells #[.map (some q)] 63)) fun e w' => ∃ v, e = .returned v ∧ w'.ownsRow (W.heap.size + 1) 9 1 v m.length (strsV (m.map (·.1))) ∧ (v = .slice none 0 0 ↔ m = []) ∧ Below (W.heap.size + 1) (W.alloc (.cells #[.map (some q)] 63)) w' := by
  refine (callsIn_wide.1 (Tryz.slices_Sorted_keys_62_63 q m.length (toD evI m) rawElem W h.1 (by rw [toD_size]; unfold maxLen; omega) (by rw [toD_size]; omega))).mono ?_
  rintro e w' ⟨v, ss, rfl, hS, hrow, hnil, hb⟩
  rw [strKeys_toD] at hS
  rw [names_sorted h.2 hS] at hrow
  have hl : ss.length = m.length := by rw [hS.length_eq, List.length_map]
  rw [hl, World.size_alloc] at hrow
  rw [World.size_alloc] at hb
  refine ⟨v, rfl, hrow, hnil.trans ?_, hb⟩
  constructor
  · intro e; rw [e] at hl; exact List.eq_nil_of_length_eq_zero hl.symm
  · intro e; rw [e] at hl; exact List.eq_nil_of_length_eq_zero hl
end Fs
end Go.Proofs.YtlnnbjgfpiefdaaGreat
/- Whole structs: stored into a block, loaded from one. -/
namespace Go.Proofs.YtlnnbjgfpiefdaaGreat
open Go.RowKit Go.Maps Go.Shelf

namespace Fs
theorem setRow_heap (w : World) (b x : Nat) (ys : Array Value) (h : x ≠ b) : (w.setRow b ys).heap[x]? = w.heap[x]? := by
  simp only [World.setRow]
  rw [Array.getElem?_modify, if_neg (fun e => h e.symm)]
theorem setRow_size (w : World) (b : Nat) (ys : Array Value) : (w.setRow b ys).heap.size = w.heap.size := by simp [World.setRow]
theorem Blk.setRow {w : World} {b : Nat} {xs : Array Value} {t : TypeId} (h : Blk w b xs t) (ys : Array Value) : Blk (w.setRow b ys) b ys t := by
  unfold Blk at *
  simp only [World.setRow]
  rw [Array.getElem?_modify, if_pos rfl, h]
  rfl
theorem below_setRow {B : Nat} {w w' : World} (h : Below B w w') {b : Nat} (hb : B ≤ b) (ys : Array Value) : Below B w (w'.setRow b ys) :=
  ⟨h.os, h.tape, h.output, by rw [setRow_size]; exact h.size, fun k hk => (setRow_heap _ _ _ _ (by omega)).trans (h.block k hk)⟩
theorem store_row {w : World} {b : Nat} {xs ys : Array Value} {t ty : TypeId} (h : Blk w b xs t) (hi : (Tryz.prog.info? ty).map (·.size) = some ys.size) (hs : xs.size = ys.size) (h1 : ys.all (·.oneCell') = true) :
    (Instr.storeAt ty (.pointer (some ⟨b, 0, none⟩)) (.agg ys)).run Tryz.prog w = .ok () (w.setRow b ys) := by
  simp only [Instr.storeAt, Instr.sureAddr, Sem.run_bind, Sem.run_pure, Result.andThen]
  exact run_storeVar_row w b t ty xs ys h hi hs h1
/-- A store that is known. -/
theorem wpList_store_run {P : Program} (w : World) {ops : Array Oper} {rest : List Oper} {o : Oper} {a : Act} {Q : Exit → Act → World → Prop}
    (hg : o.guard = none) (p v : Operand) (t : TypeId) (hop : o.op = Op.store t p v) (w' : World) (hrun : (Instr.storeAt t (a.eval p) (a.eval v)).run P w = .ok () w') (hK : wpList P ops Q rest (a.put o.dst undef) w') : wpList P ops Q (o :: rest) a w := by
  refine wpList_plain hg fun K' hK' => ?_
  unfold Oper.wp
  simp [execOp, hop, hrun, Result.andThen]
  exact hK' _ _ hK
/-- A struct into the midst of a block. -/
theorem store_part {P : Program} {w : World} {g o : Nat} {xs ys : Array Value} {t ty : TypeId} (h : w.heap[g]? = some (.cells xs t (0, 0))) (hi : (P.info? ty).map (·.size) = some ys.size) (hfit : o + ys.size ≤ xs.size) (h1 : ys.all (·.oneCell') = true) :
    (Instr.storeAt ty (.pointer (some ⟨g, o, none⟩)) (.agg ys)).run P w = .ok () (w.setRow g (xs.toList.take o ++ ys.toList ++ xs.toList.drop (o + ys.size)).toArray) := by
  simp only [Instr.storeAt, Instr.sureAddr, Sem.run_bind, Sem.run_pure, Result.andThen]
  have hc := run_storeCells_at P g o t ys.toList 0 xs w h (by simpa using hfit) (fun v hv => (Array.all_eq_true_iff_forall_mem.1 h1) v (by simpa using hv))
  simp only [Nat.add_zero, Array.length_toList] at hc
  cases hq : P.info? ty with
  | none => simp [hq] at hi
  | some i =>
    have hs : ys.size = i.size := by simp [hq] at hi; omega
    simpa [storeVar, Go.sizeOf, typeInfo, hq, Value.cells, hs] using hc
theorem info_answer : (Tryz.prog.info? 42).map (·.size) = some 13 := by kernel_rfl
theorem load_answer {w : World} {x : Nat} {cs : Array Value} {t : TypeId} (h : Blk w x cs t) (hl : cs.size = 13) : (Instr.loadAt 42 (.pointer (some ⟨x, 0, none⟩))).run Tryz.prog w = .ok (.agg cs) w := by
  simp only [Instr.loadAt, Instr.sureAddr, Sem.run_bind, Sem.run_pure, Result.andThen]
  exact run_loadVar_row w _ _ _ cs (0, 0) _ h Tryz.underlying42 rfl (by rw [info_answer, hl])
end Fs
end Go.Proofs.YtlnnbjgfpiefdaaGreat
