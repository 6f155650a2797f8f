/- Contracts of Go's library at this program, laid by the kit's tools (lay-shelf, lay-plain). -/
import Derived.Shelf.Strings.OnBuilder
import Derived.Shelf.Strings.Search3
import Derived.Test.YtpmfojnccfnleaaProg
namespace Go.Proofs
open Go.Shelf
def Try.lays156_ren : Go.Shelf.Ren := ⟨fun | 156 => 103 | 165 => 127 | 166 => 128 | 169 => 129 | 240 => 139 | 241 => 140 | 276 => 157 | 277 => 158 | n => n, fun | 31 => 36 | 9 => 9 | 3 => 3 | 4 => 4 | 0 => 0 | 20 => 20 | 72 => 150 | 76 => 154 | 70 => 148 | 37 => 60 | 75 => 153 | 127 => 166 | 164 => 180 | 5 => 5 | 80 => 156 | n => n, fun | n => n⟩
theorem Try.lays156 : Go.Proofs.Lays.n156 Try.prog Try.lays156_ren := {
  mixed := by kernel_rfl
  f156 := Try.func103.trans (congrArg some (by kernel_rfl))
  f165 := Try.func127.trans (congrArg some (by kernel_rfl))
  f166 := Try.func128.trans (congrArg some (by kernel_rfl))
  f169 := Try.func129.trans (congrArg some (by kernel_rfl))
  f240 := Try.func139.trans (congrArg some (by kernel_rfl))
  f241 := Try.func140.trans (congrArg some (by kernel_rfl))
  f276 := Try.func157.trans (congrArg some (by kernel_rfl))
  f277 := Try.func158.trans (congrArg some (by kernel_rfl))
  t0 := Try.underlying0
  a0 := Try.isAgg0
  z0 := Try.sizeOf0
  v0 := Try.zeroValue0
  t3 := Try.underlying3
  a3 := Try.isAgg3
  z3 := Try.sizeOf3
  v3 := Try.zeroValue3
  t4 := Try.underlying4
  a4 := Try.isAgg4
  z4 := Try.sizeOf4
  v4 := Try.zeroValue4
  t9 := Try.underlying9
  a9 := Try.isAgg9
  z9 := Try.sizeOf9
  v9 := Try.zeroValue9
  t20 := Try.underlying20
  a20 := Try.isAgg20
  z20 := Try.sizeOf20
  v20 := Try.zeroValue20
  t31 := Try.underlying36
  a31 := Try.isAgg36
  z31 := Try.sizeOf36
  v31 := Try.zeroValue36
  t37 := Try.underlying60
  a37 := Try.isAgg60
  z37 := Try.sizeOf60
  v37 := Try.zeroValue60
  t70 := Try.underlying148
  a70 := Try.isAgg148
  z70 := Try.sizeOf148
  v70 := Try.zeroValue148
  t72 := Try.underlying150
  a72 := Try.isAgg150
  z72 := Try.sizeOf150
  v72 := Try.zeroValue150
  t75 := Try.underlying153
  a75 := Try.isAgg153
  z75 := Try.sizeOf153
  v75 := Try.zeroValue153
  t76 := Try.underlying154
  a76 := Try.isAgg154
  z76 := Try.sizeOf154
  v76 := Try.zeroValue154
  t127 := Try.underlying166
  a127 := Try.isAgg166
  z127 := Try.sizeOf166
  v127 := Try.zeroValue166
  t164 := Try.underlying180
  a164 := Try.isAgg180
  z164 := Try.sizeOf180
  v164 := Try.zeroValue180 }
theorem Try.Builder_Extra_156 : Builder.Extra Try.prog Try.lays156_ren := {
  sizeBuilder := by kernel_rfl
  liesBuilder := by kernel_rfl
  t5 := Try.underlying5
  a5 := Try.isAgg5
  z5 := Try.sizeOf5
  v5 := Try.zeroValue5
  infoByte := by kernel_rfl
  cellsByte := by kernel_rfl
  sizeByte := by kernel_rfl
  neB5 := by decide }
open Go.RowKit in
theorem Try.strings_Join_none (a : Option Addr) (c : Nat) (sep : ByteArray) (w : World) :
    Calls Try.prog 103 #[.slice a 0 c, .string sep] w fun e w' => e = .returned (.string ⟨#[]⟩) ∧ w' = w := Any.strings_Join_none Try.lays156 Try.Builder_Extra_156 a c sep w
open Go.RowKit in
theorem Try.strings_Join (bk o c : Nat) (xs : List ByteArray) (sep : ByteArray) (w : World) (hcells : ∀ (j : Nat) x, xs[j]? = some x → w.cell? ⟨bk, o + j, none⟩ = some (.string x)) (hbk : bk < w.heap.size) (hN : xs.length ≤ 140737488355328) (hcap : xs.length ≤ c) (hlen : (Lib.join (xs.map (·.data.toList)) sep.data.toList).length ≤ 140737488355328) :
    Calls Try.prog 103 #[.slice (some ⟨bk, o, none⟩) xs.length c, .string sep] w fun e w' => e = .returned (.string ⟨(Lib.join (xs.map (·.data.toList)) sep.data.toList).toArray⟩) ∧ Below w.heap.size w w' := Any.strings_Join Try.lays156 Try.Builder_Extra_156 bk o c xs sep w hcells hbk hN hcap hlen
def Try.lays143_ren : Go.Shelf.Ren := ⟨fun | 143 => 124 | 219 => 138 | 217 => 153 | 225 => 154 | 224 => 155 | 267 => 156 | 266 => 165 | 314 => 166 | n => n, fun | 9 => 9 | 3 => 3 | 4 => 4 | 5 => 5 | 46 => 165 | 146 => 189 | 51 => 176 | n => n, fun | 1 => 0 | n => n⟩
theorem Try.lays143 : Go.Proofs.Lays.n143 Try.prog Try.lays143_ren := {
  mixed := by kernel_rfl
  f143 := Try.func124.trans (congrArg some (by kernel_rfl))
  f217 := Try.func153.trans (congrArg some (by kernel_rfl))
  f219 := Try.func138.trans (congrArg some (by kernel_rfl))
  f224 := Try.func155.trans (congrArg some (by kernel_rfl))
  f225 := Try.func154.trans (congrArg some (by kernel_rfl))
  f266 := Try.func165.trans (congrArg some (by kernel_rfl))
  f267 := Try.func156.trans (congrArg some (by kernel_rfl))
  f314 := Try.func166.trans (congrArg some (by kernel_rfl))
  t3 := Try.underlying3
  a3 := Try.isAgg3
  z3 := Try.sizeOf3
  v3 := Try.zeroValue3
  t4 := Try.underlying4
  a4 := Try.isAgg4
  z4 := Try.sizeOf4
  v4 := Try.zeroValue4
  t5 := Try.underlying5
  a5 := Try.isAgg5
  z5 := Try.sizeOf5
  v5 := Try.zeroValue5
  t9 := Try.underlying9
  a9 := Try.isAgg9
  z9 := Try.sizeOf9
  v9 := Try.zeroValue9
  t46 := Try.underlying165
  a46 := Try.isAgg165
  z46 := Try.sizeOf165
  v46 := Try.zeroValue165
  t51 := Try.underlying176
  a51 := Try.isAgg176
  z51 := Try.sizeOf176
  v51 := Try.zeroValue176
  t146 := Try.underlying189
  a146 := Try.isAgg189
  z146 := Try.sizeOf189
  v146 := Try.zeroValue189
  g1 := by kernel_rfl }
open Go.RowKit Go.Lib in
theorem Try.strings_Index_one (s : ByteArray) (c : UInt8) (w : World) :
    Calls Try.prog 124 #[.string s, .string ⟨#[c]⟩] w fun e w' => e = .returned (.int .i64 (Lib.indexByte s.data.toList c)) ∧ w' = w := Any.strings_Index_one Try.lays143 s c w
def Try.lays144_ren : Go.Shelf.Ren := ⟨fun | 144 => 100 | 143 => 124 | 219 => 138 | 217 => 153 | 225 => 154 | 224 => 155 | 267 => 156 | 266 => 165 | 314 => 166 | n => n, fun | 9 => 9 | 4 => 4 | 3 => 3 | 5 => 5 | 46 => 165 | 146 => 189 | 51 => 176 | n => n, fun | 1 => 0 | n => n⟩
theorem Try.lays144 : Go.Proofs.Lays.n144 Try.prog Try.lays144_ren := {
  mixed := by kernel_rfl
  f143 := Try.func124.trans (congrArg some (by kernel_rfl))
  f144 := Try.func100.trans (congrArg some (by kernel_rfl))
  f217 := Try.func153.trans (congrArg some (by kernel_rfl))
  f219 := Try.func138.trans (congrArg some (by kernel_rfl))
  f224 := Try.func155.trans (congrArg some (by kernel_rfl))
  f225 := Try.func154.trans (congrArg some (by kernel_rfl))
  f266 := Try.func165.trans (congrArg some (by kernel_rfl))
  f267 := Try.func156.trans (congrArg some (by kernel_rfl))
  f314 := Try.func166.trans (congrArg some (by kernel_rfl))
  t3 := Try.underlying3
  a3 := Try.isAgg3
  z3 := Try.sizeOf3
  v3 := Try.zeroValue3
  t4 := Try.underlying4
  a4 := Try.isAgg4
  z4 := Try.sizeOf4
  v4 := Try.zeroValue4
  t5 := Try.underlying5
  a5 := Try.isAgg5
  z5 := Try.sizeOf5
  v5 := Try.zeroValue5
  t9 := Try.underlying9
  a9 := Try.isAgg9
  z9 := Try.sizeOf9
  v9 := Try.zeroValue9
  t46 := Try.underlying165
  a46 := Try.isAgg165
  z46 := Try.sizeOf165
  v46 := Try.zeroValue165
  t51 := Try.underlying176
  a51 := Try.isAgg176
  z51 := Try.sizeOf176
  v51 := Try.zeroValue176
  t146 := Try.underlying189
  a146 := Try.isAgg189
  z146 := Try.sizeOf189
  v146 := Try.zeroValue189
  g1 := by kernel_rfl }
open Go.RowKit Go.Lib in
theorem Try.strings_Contains_one (s : ByteArray) (c : UInt8) (w : World) :
    Calls Try.prog 100 #[.string s, .string ⟨#[c]⟩] w fun e w' => e = .returned (.bool (decide (0 ≤ Lib.indexByte s.data.toList c))) ∧ w' = w := Any.strings_Contains_one Try.lays144 s c w
end Go.Proofs
