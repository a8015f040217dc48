/-
  Contracts of functions of Go's library over this program, as the kit's tools lay them (lay-shelf, lay-plain), those that are used here. Each names its own conditions.
-/
import Derived.Shelf.Small.Strs
import Derived.Shelf.Small.Wraps
import Derived.Shelf.LaysM
import Derived.Shelf.Strings.Fields
import Derived.Test.YtiaajpfebcccfaaDoorProg
namespace Go.Proofs
open Go.Shelf
def Tryd.lays106_ren : Go.Shelf.Ren := ⟨fun | 106 => 32 | 213 => 37 | 265 => 51 | n => n, fun | 9 => 9 | 3 => 3 | n => n, fun | n => n⟩
theorem Tryd.lays106 : Go.Proofs.Lays.n106 Tryd.prog Tryd.lays106_ren := {
  mixed := by kernel_rfl
  f106 := Tryd.func32.trans (congrArg some (by kernel_rfl))
  f213 := Tryd.func37.trans (congrArg some (by kernel_rfl))
  f265 := Tryd.func51.trans (congrArg some (by kernel_rfl))
  t3 := Tryd.underlying3
  a3 := Tryd.isAgg3
  z3 := Tryd.sizeOf3
  v3 := Tryd.zeroValue3
  t9 := Tryd.underlying9
  a9 := Tryd.isAgg9
  z9 := Tryd.sizeOf9
  v9 := Tryd.zeroValue9 }
open Go.RowKit in
theorem Tryd.strings_Compare (a b : ByteArray) (w : World) :
    Calls Tryd.prog 32 #[.string a, .string b] w fun e w' => e = .returned (.int .i64 (Lib.compareBytes a.data.toList b.data.toList)) ∧ w' = w := Any.strings_Compare Tryd.lays106 a b w
def Tryd.lays122_ren : Go.Shelf.Ren := ⟨fun | 122 => 33 | 215 => 38 | n => n, fun | 3 => 3 | 4 => 4 | n => n, fun | n => n⟩
theorem Tryd.lays122 : Go.Proofs.Lays.n122 Tryd.prog Tryd.lays122_ren := {
  mixed := by kernel_rfl
  f122 := Tryd.func33.trans (congrArg some (by kernel_rfl))
  f215 := Tryd.func38.trans (congrArg some (by kernel_rfl))
  t3 := Tryd.underlying3
  a3 := Tryd.isAgg3
  z3 := Tryd.sizeOf3
  v3 := Tryd.zeroValue3
  t4 := Tryd.underlying4
  a4 := Tryd.isAgg4
  z4 := Tryd.sizeOf4
  v4 := Tryd.zeroValue4 }
open Go.RowKit in
theorem Tryd.cmp_Compare_int (x y : Int) (w : World) :
    Calls Tryd.prog 33 #[.int .i64 x, .int .i64 y] w fun e w' => e = .returned (.int .i64 (Lib.compareInt x y)) ∧ w' = w := Any.cmp_Compare_int Tryd.lays122 x y w
def Tryd.lays157_ren : Go.Shelf.Ren := ⟨fun | 157 => 21 | 229 => 27 | 199 => 28 | 261 => 34 | 311 => 39 | 312 => 40 | n => n, fun | 9 => 9 | 31 => 48 | 3 => 3 | 5 => 5 | 4 => 4 | 119 => 68 | 0 => 0 | 40 => 70 | 152 => 77 | 21 => 21 | 154 => 79 | 51 => 80 | 141 => 82 | 196 => 91 | 193 => 88 | 198 => 94 | 49 => 92 | 194 => 89 | 201 => 97 | 226 => 110 | 46 => 85 | 227 => 111 | n => n, fun | 0 => 1 | 6 => 2 | n => n⟩
theorem Tryd.lays157 : Go.Proofs.Lays.n157 Tryd.prog Tryd.lays157_ren := {
  mixed := by kernel_rfl
  f157 := Tryd.func21.trans (congrArg some (by kernel_rfl))
  f199 := Tryd.func28.trans (congrArg some (by kernel_rfl))
  f229 := Tryd.func27.trans (congrArg some (by kernel_rfl))
  f261 := Tryd.func34.trans (congrArg some (by kernel_rfl))
  f311 := Tryd.func39.trans (congrArg some (by kernel_rfl))
  f312 := Tryd.func40.trans (congrArg some (by kernel_rfl))
  t0 := Tryd.underlying0
  a0 := Tryd.isAgg0
  z0 := Tryd.sizeOf0
  v0 := Tryd.zeroValue0
  t3 := Tryd.underlying3
  a3 := Tryd.isAgg3
  z3 := Tryd.sizeOf3
  v3 := Tryd.zeroValue3
  t4 := Tryd.underlying4
  a4 := Tryd.isAgg4
  z4 := Tryd.sizeOf4
  v4 := Tryd.zeroValue4
  t5 := Tryd.underlying5
  a5 := Tryd.isAgg5
  z5 := Tryd.sizeOf5
  v5 := Tryd.zeroValue5
  t9 := Tryd.underlying9
  a9 := Tryd.isAgg9
  z9 := Tryd.sizeOf9
  v9 := Tryd.zeroValue9
  t21 := Tryd.underlying21
  a21 := Tryd.isAgg21
  z21 := Tryd.sizeOf21
  v21 := Tryd.zeroValue21
  t31 := Tryd.underlying48
  a31 := Tryd.isAgg48
  z31 := Tryd.sizeOf48
  v31 := Tryd.zeroValue48
  t40 := Tryd.underlying70
  a40 := Tryd.isAgg70
  z40 := Tryd.sizeOf70
  v40 := Tryd.zeroValue70
  t46 := Tryd.underlying85
  a46 := Tryd.isAgg85
  z46 := Tryd.sizeOf85
  v46 := Tryd.zeroValue85
  t49 := Tryd.underlying92
  a49 := Tryd.isAgg92
  z49 := Tryd.sizeOf92
  v49 := Tryd.zeroValue92
  t51 := Tryd.underlying80
  a51 := Tryd.isAgg80
  z51 := Tryd.sizeOf80
  v51 := Tryd.zeroValue80
  t119 := Tryd.underlying68
  a119 := Tryd.isAgg68
  z119 := Tryd.sizeOf68
  t141 := Tryd.underlying82
  a141 := Tryd.isAgg82
  z141 := Tryd.sizeOf82
  v141 := Tryd.zeroValue82
  t152 := Tryd.underlying77
  a152 := Tryd.isAgg77
  z152 := Tryd.sizeOf77
  v152 := Tryd.zeroValue77
  t154 := Tryd.underlying79
  a154 := Tryd.isAgg79
  z154 := Tryd.sizeOf79
  v154 := Tryd.zeroValue79
  t193 := Tryd.underlying88
  a193 := Tryd.isAgg88
  z193 := Tryd.sizeOf88
  v193 := Tryd.zeroValue88
  t194 := Tryd.underlying89
  a194 := Tryd.isAgg89
  z194 := Tryd.sizeOf89
  v194 := Tryd.zeroValue89
  t196 := Tryd.underlying91
  a196 := Tryd.isAgg91
  z196 := Tryd.sizeOf91
  v196 := Tryd.zeroValue91
  t198 := Tryd.underlying94
  a198 := Tryd.isAgg94
  z198 := Tryd.sizeOf94
  v198 := Tryd.zeroValue94
  t201 := Tryd.underlying97
  a201 := Tryd.isAgg97
  z201 := Tryd.sizeOf97
  v201 := Tryd.zeroValue97
  t226 := Tryd.underlying110
  a226 := Tryd.isAgg110
  z226 := Tryd.sizeOf110
  v226 := Tryd.zeroValue110
  t227 := Tryd.underlying111
  a227 := Tryd.isAgg111
  z227 := Tryd.sizeOf111
  v227 := Tryd.zeroValue111
  g0 := by kernel_rfl
  g6 := by kernel_rfl }
open Go.RowKit Go.Lib in
theorem Tryd.strings_Fields (s : ByteArray) (w : World) (hs : s.size < 4294967281) (hascii : ∀ (j : Nat) b, s.data.toList[j]? = some b → b.toNat < 128) (htab : Lib.TabIs Tryd.prog w "strings.asciiSpace" .u8 Lib.asciiSpaceTab) :
    Calls Tryd.prog 21 #[.string s] w fun e w' =>
      e = .returned (.slice (some ⟨w.heap.size, 0, none⟩) (Lib.fields s.data.toList).length (Lib.fields s.data.toList).length) ∧ w' = w.alloc (.cells ((Lib.fields s.data.toList).map fun l => Value.string ⟨l.toArray⟩).toArray 9) := Any.strings_Fields Tryd.lays157 (by kernel_rfl) (by kernel_rfl) s w hs hascii htab
end Go.Proofs
