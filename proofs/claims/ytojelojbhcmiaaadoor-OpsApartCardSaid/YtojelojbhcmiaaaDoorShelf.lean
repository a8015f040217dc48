/-
  Contracts of functions of Go's library over this program, as the kit's tools lay them (lay-shelf, lay-plain), those that are used here. Each names its own conditions.
-/
import Derived.Shelf.Strings.Builder1
import Derived.Shelf.Strings.Builder2
import Derived.Shelf.Small.Bits
import Derived.Shelf.Small.Strs
import Derived.Shelf.Small.Wraps
import Derived.Shelf.Utf8.RuneCount
import Derived.Shelf.Strconv.Itoa0
import Derived.Shelf.Strconv.Itoa1
import Derived.Shelf.LaysM
import Derived.Shelf.Strconv.Itoa2
import Derived.Shelf.Strconv.Itoa3
import Derived.Shelf.Strings.Search1
import Derived.Shelf.Strings.Search2
import Derived.Shelf.Strings.Search3
import Derived.Shelf.Strings.Count
import Derived.Shelf.Strings.Shaped
import Derived.Shelf.Strings.Prefix
import Derived.Shelf.Strings.Split
import Derived.Shelf.Strings.Fields
import Derived.Shelf.Unicode.Latin
import Derived.Shelf.Unicode.Decode
import Derived.Shelf.Strings.RuneCount
import Derived.Shelf.Unicode.DecodeSlow
import Derived.Shelf.Unicode.DecodeAny
import Derived.Shelf.Unicode.Is16White
import Derived.Shelf.Unicode.IsSpaceAny
import Derived.Shelf.Unicode.Is16Any
import Derived.Shelf.Unicode.Is32Any
import Derived.Shelf.Unicode.ExclAny
import Derived.Ground.Names2Prog
import Derived.Shelf.Slices.SearchI
import Derived.Test.YtojelojbhcmiaaaDoorProg
namespace Go.Proofs
open Go.Shelf
def Tryd.lays106_ren : Go.Shelf.Ren := ⟨fun | 106 => 65 | 213 => 107 | 265 => 149 | n => n, fun | 9 => 9 | 3 => 3 | n => n, fun | n => n⟩
theorem Tryd.lays106 : Go.Proofs.Lays.n106 Tryd.prog Tryd.lays106_ren := {
  mixed := by kernel_rfl
  f106 := Tryd.func65.trans (congrArg some (by kernel_rfl))
  f213 := Tryd.func107.trans (congrArg some (by kernel_rfl))
  f265 := Tryd.func149.trans (congrArg some (by kernel_rfl))
  t3 := Tryd.underlying3
  a3 := Tryd.isAgg3
  z3 := Tryd.sizeOf3
  v3 := Tryd.zeroValue3
  t9 := Tryd.underlying9
  a9 := Tryd.isAgg9
  z9 := Tryd.sizeOf9
  v9 := Tryd.zeroValue9 }
open Go.RowKit in
theorem Tryd.strings_Compare (a b : ByteArray) (w : World) :
    Calls Tryd.prog 65 #[.string a, .string b] w fun e w' => e = .returned (.int .i64 (Lib.compareBytes a.data.toList b.data.toList)) ∧ w' = w := Any.strings_Compare Tryd.lays106 a b w
def Tryd.lays122_ren : Go.Shelf.Ren := ⟨fun | 122 => 66 | 215 => 108 | n => n, fun | 3 => 3 | 4 => 4 | n => n, fun | n => n⟩
theorem Tryd.lays122 : Go.Proofs.Lays.n122 Tryd.prog Tryd.lays122_ren := {
  mixed := by kernel_rfl
  f122 := Tryd.func66.trans (congrArg some (by kernel_rfl))
  f215 := Tryd.func108.trans (congrArg some (by kernel_rfl))
  t3 := Tryd.underlying3
  a3 := Tryd.isAgg3
  z3 := Tryd.sizeOf3
  v3 := Tryd.zeroValue3
  t4 := Tryd.underlying4
  a4 := Tryd.isAgg4
  z4 := Tryd.sizeOf4
  v4 := Tryd.zeroValue4 }
open Go.RowKit in
theorem Tryd.cmp_Compare_int (x y : Int) (w : World) :
    Calls Tryd.prog 66 #[.int .i64 x, .int .i64 y] w fun e w' => e = .returned (.int .i64 (Lib.compareInt x y)) ∧ w' = w := Any.cmp_Compare_int Tryd.lays122 x y w
def Tryd.lays157_ren : Go.Shelf.Ren := ⟨fun | 157 => 67 | 229 => 109 | 199 => 110 | 261 => 150 | 311 => 174 | 312 => 175 | n => n, fun | 9 => 9 | 31 => 130 | 3 => 3 | 5 => 5 | 4 => 4 | 119 => 195 | 0 => 0 | 40 => 197 | 152 => 231 | 21 => 21 | 154 => 233 | 51 => 64 | 141 => 235 | 196 => 261 | 193 => 258 | 198 => 263 | 49 => 23 | 194 => 259 | 201 => 266 | 226 => 275 | 46 => 164 | 227 => 276 | n => n, fun | 0 => 1 | 6 => 3 | n => n⟩
theorem Tryd.lays157 : Go.Proofs.Lays.n157 Tryd.prog Tryd.lays157_ren := {
  mixed := by kernel_rfl
  f157 := Tryd.func67.trans (congrArg some (by kernel_rfl))
  f199 := Tryd.func110.trans (congrArg some (by kernel_rfl))
  f229 := Tryd.func109.trans (congrArg some (by kernel_rfl))
  f261 := Tryd.func150.trans (congrArg some (by kernel_rfl))
  f311 := Tryd.func174.trans (congrArg some (by kernel_rfl))
  f312 := Tryd.func175.trans (congrArg some (by kernel_rfl))
  t0 := Tryd.underlying0
  a0 := Tryd.isAgg0
  z0 := Tryd.sizeOf0
  v0 := Tryd.zeroValue0
  t3 := Tryd.underlying3
  a3 := Tryd.isAgg3
  z3 := Tryd.sizeOf3
  v3 := Tryd.zeroValue3
  t4 := Tryd.underlying4
  a4 := Tryd.isAgg4
  z4 := Tryd.sizeOf4
  v4 := Tryd.zeroValue4
  t5 := Tryd.underlying5
  a5 := Tryd.isAgg5
  z5 := Tryd.sizeOf5
  v5 := Tryd.zeroValue5
  t9 := Tryd.underlying9
  a9 := Tryd.isAgg9
  z9 := Tryd.sizeOf9
  v9 := Tryd.zeroValue9
  t21 := Tryd.underlying21
  a21 := Tryd.isAgg21
  z21 := Tryd.sizeOf21
  v21 := Tryd.zeroValue21
  t31 := Tryd.underlying130
  a31 := Tryd.isAgg130
  z31 := Tryd.sizeOf130
  v31 := Tryd.zeroValue130
  t40 := Tryd.underlying197
  a40 := Tryd.isAgg197
  z40 := Tryd.sizeOf197
  v40 := Tryd.zeroValue197
  t46 := Tryd.underlying164
  a46 := Tryd.isAgg164
  z46 := Tryd.sizeOf164
  v46 := Tryd.zeroValue164
  t49 := Tryd.underlying23
  a49 := Tryd.isAgg23
  z49 := Tryd.sizeOf23
  v49 := Tryd.zeroValue23
  t51 := Tryd.underlying64
  a51 := Tryd.isAgg64
  z51 := Tryd.sizeOf64
  v51 := Tryd.zeroValue64
  t119 := Tryd.underlying195
  a119 := Tryd.isAgg195
  z119 := Tryd.sizeOf195
  t141 := Tryd.underlying235
  a141 := Tryd.isAgg235
  z141 := Tryd.sizeOf235
  v141 := Tryd.zeroValue235
  t152 := Tryd.underlying231
  a152 := Tryd.isAgg231
  z152 := Tryd.sizeOf231
  v152 := Tryd.zeroValue231
  t154 := Tryd.underlying233
  a154 := Tryd.isAgg233
  z154 := Tryd.sizeOf233
  v154 := Tryd.zeroValue233
  t193 := Tryd.underlying258
  a193 := Tryd.isAgg258
  z193 := Tryd.sizeOf258
  v193 := Tryd.zeroValue258
  t194 := Tryd.underlying259
  a194 := Tryd.isAgg259
  z194 := Tryd.sizeOf259
  v194 := Tryd.zeroValue259
  t196 := Tryd.underlying261
  a196 := Tryd.isAgg261
  z196 := Tryd.sizeOf261
  v196 := Tryd.zeroValue261
  t198 := Tryd.underlying263
  a198 := Tryd.isAgg263
  z198 := Tryd.sizeOf263
  v198 := Tryd.zeroValue263
  t201 := Tryd.underlying266
  a201 := Tryd.isAgg266
  z201 := Tryd.sizeOf266
  v201 := Tryd.zeroValue266
  t226 := Tryd.underlying275
  a226 := Tryd.isAgg275
  z226 := Tryd.sizeOf275
  v226 := Tryd.zeroValue275
  t227 := Tryd.underlying276
  a227 := Tryd.isAgg276
  z227 := Tryd.sizeOf276
  v227 := Tryd.zeroValue276
  g0 := by kernel_rfl
  g6 := by kernel_rfl }
open Go.RowKit Go.Lib in
theorem Tryd.strings_Fields (s : ByteArray) (w : World) (hs : s.size < 4294967281) (hascii : ∀ (j : Nat) b, s.data.toList[j]? = some b → b.toNat < 128) (htab : Lib.TabIs Tryd.prog w "strings.asciiSpace" .u8 Lib.asciiSpaceTab) :
    Calls Tryd.prog 67 #[.string s] w fun e w' =>
      e = .returned (.slice (some ⟨w.heap.size, 0, none⟩) (Lib.fields s.data.toList).length (Lib.fields s.data.toList).length) ∧ w' = w.alloc (.cells ((Lib.fields s.data.toList).map fun l => Value.string ⟨l.toArray⟩).toArray 9) := Any.strings_Fields Tryd.lays157 (by kernel_rfl) (by kernel_rfl) s w hs hascii htab
end Go.Proofs
