/- The contracts of the library's functions that the walks use, laid at this program (by the kit's own tool; cut to what is used). -/
import Derived.Shelf.Strings.OnBuilder
import Derived.Test.YtjloonijnbfhhaaDoorProg
namespace Go.Proofs
open Go.Shelf
def Tryd.lays156_ren : Go.Shelf.Ren := ⟨fun | 156 => 93 | 165 => 109 | 166 => 110 | 169 => 111 | 240 => 127 | 241 => 128 | 276 => 153 | 277 => 154 | n => n, fun | 31 => 27 | 9 => 9 | 3 => 3 | 4 => 4 | 0 => 0 | 20 => 20 | 72 => 143 | 76 => 145 | 70 => 141 | 37 => 45 | 75 => 129 | 127 => 160 | 164 => 184 | 5 => 5 | 80 => 87 | n => n, fun | n => n⟩
theorem Tryd.lays156 : Go.Proofs.Lays.n156 Tryd.prog Tryd.lays156_ren := {
  mixed := by kernel_rfl
  f156 := Tryd.func93.trans (congrArg some (by kernel_rfl))
  f165 := Tryd.func109.trans (congrArg some (by kernel_rfl))
  f166 := Tryd.func110.trans (congrArg some (by kernel_rfl))
  f169 := Tryd.func111.trans (congrArg some (by kernel_rfl))
  f240 := Tryd.func127.trans (congrArg some (by kernel_rfl))
  f241 := Tryd.func128.trans (congrArg some (by kernel_rfl))
  f276 := Tryd.func153.trans (congrArg some (by kernel_rfl))
  f277 := Tryd.func154.trans (congrArg some (by kernel_rfl))
  t0 := Tryd.underlying0
  a0 := Tryd.isAgg0
  z0 := Tryd.sizeOf0
  v0 := Tryd.zeroValue0
  t3 := Tryd.underlying3
  a3 := Tryd.isAgg3
  z3 := Tryd.sizeOf3
  v3 := Tryd.zeroValue3
  t4 := Tryd.underlying4
  a4 := Tryd.isAgg4
  z4 := Tryd.sizeOf4
  v4 := Tryd.zeroValue4
  t9 := Tryd.underlying9
  a9 := Tryd.isAgg9
  z9 := Tryd.sizeOf9
  v9 := Tryd.zeroValue9
  t20 := Tryd.underlying20
  a20 := Tryd.isAgg20
  z20 := Tryd.sizeOf20
  v20 := Tryd.zeroValue20
  t31 := Tryd.underlying27
  a31 := Tryd.isAgg27
  z31 := Tryd.sizeOf27
  v31 := Tryd.zeroValue27
  t37 := Tryd.underlying45
  a37 := Tryd.isAgg45
  z37 := Tryd.sizeOf45
  v37 := Tryd.zeroValue45
  t70 := Tryd.underlying141
  a70 := Tryd.isAgg141
  z70 := Tryd.sizeOf141
  v70 := Tryd.zeroValue141
  t72 := Tryd.underlying143
  a72 := Tryd.isAgg143
  z72 := Tryd.sizeOf143
  v72 := Tryd.zeroValue143
  t75 := Tryd.underlying129
  a75 := Tryd.isAgg129
  z75 := Tryd.sizeOf129
  v75 := Tryd.zeroValue129
  t76 := Tryd.underlying145
  a76 := Tryd.isAgg145
  z76 := Tryd.sizeOf145
  v76 := Tryd.zeroValue145
  t127 := Tryd.underlying160
  a127 := Tryd.isAgg160
  z127 := Tryd.sizeOf160
  v127 := Tryd.zeroValue160
  t164 := Tryd.underlying184
  a164 := Tryd.isAgg184
  z164 := Tryd.sizeOf184
  v164 := Tryd.zeroValue184 }
theorem Tryd.Builder_Extra_156 : Builder.Extra Tryd.prog Tryd.lays156_ren := {
  sizeBuilder := by kernel_rfl
  liesBuilder := by kernel_rfl
  t5 := Tryd.underlying5
  a5 := Tryd.isAgg5
  z5 := Tryd.sizeOf5
  v5 := Tryd.zeroValue5
  infoByte := by kernel_rfl
  cellsByte := by kernel_rfl
  sizeByte := by kernel_rfl
  neB5 := by decide }
open Go.RowKit in
theorem Tryd.strings_Join (bk o c : Nat) (xs : List ByteArray) (sep : ByteArray) (w : World) (hcells : ∀ (j : Nat) x, xs[j]? = some x → w.cell? ⟨bk, o + j, none⟩ = some (.string x)) (hbk : bk < w.heap.size) (hN : xs.length ≤ 140737488355328) (hcap : xs.length ≤ c) (hlen : (Lib.join (xs.map (·.data.toList)) sep.data.toList).length ≤ 140737488355328) :
    Calls Tryd.prog 93 #[.slice (some ⟨bk, o, none⟩) xs.length c, .string sep] w fun e w' => e = .returned (.string ⟨(Lib.join (xs.map (·.data.toList)) sep.data.toList).toArray⟩) ∧ Below w.heap.size w w' := Any.strings_Join Tryd.lays156 Tryd.Builder_Extra_156 bk o c xs sep w hcells hbk hN hcap hlen
end Go.Proofs
