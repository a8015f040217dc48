/-
  The laying of slices.SortFunc of Go's library over this program, as the kit's tools lay it (lay-plain). No condition.
-/
import Derived.Shelf.SlSortCmp.WholeK
import Derived.Shelf.SlSortCmp.NoneTotal
import Derived.Shelf.Small.Bits
import Derived.Ground.SlsfProg
import Derived.Test.YtojelojbhcmiaaaDoorProg
namespace Go.Proofs
open Go.Shelf
def Tryd.sortDefs_ren : Go.Shelf.Ren := ⟨fun | 6 => 62 | 15 => 106 | 14 => 105 | 28 => 147 | 29 => 148 | 20 => 139 | 21 => 140 | 22 => 141 | 23 => 142 | 24 => 143 | 25 => 144 | 26 => 145 | 27 => 146 | 46 => 169 | 47 => 170 | 48 => 171 | 49 => 172 | 50 => 173 | 57 => 190 | n => n, fun | 22 => 42 | 24 => 44 | 25 => 126 | 3 => 3 | 39 => 164 | 0 => 0 | 53 => 64 | 55 => 71 | 4 => 4 | 46 => 223 | 45 => 222 | 50 => 227 | 5 => 5 | 9 => 9 | 66 => 252 | 70 => 256 | 76 => 273 | 77 => 29 | n => n, fun | n => n⟩
theorem Tryd.sortDefs : Go.Proofs.SlLaysF0.n6 Tryd.prog Tryd.sortDefs_ren := {
  mixed := by kernel_rfl
  f6 := ⟨Tryd.f62.name, by decide, Tryd.func62.trans (congrArg some (by kernel_rfl))⟩
  f14 := ⟨Tryd.f105.name, by decide, Tryd.func105.trans (congrArg some (by kernel_rfl))⟩
  f15 := Tryd.func106.trans (congrArg some (by kernel_rfl))
  f20 := ⟨Tryd.f139.name, by decide, Tryd.func139.trans (congrArg some (by kernel_rfl))⟩
  f21 := ⟨Tryd.f140.name, by decide, Tryd.func140.trans (congrArg some (by kernel_rfl))⟩
  f22 := ⟨Tryd.f141.name, by decide, Tryd.func141.trans (congrArg some (by kernel_rfl))⟩
  f23 := ⟨Tryd.f142.name, by decide, Tryd.func142.trans (congrArg some (by kernel_rfl))⟩
  f24 := ⟨Tryd.f143.name, by decide, Tryd.func143.trans (congrArg some (by kernel_rfl))⟩
  f25 := ⟨Tryd.f144.name, by decide, Tryd.func144.trans (congrArg some (by kernel_rfl))⟩
  f26 := ⟨Tryd.f145.name, by decide, Tryd.func145.trans (congrArg some (by kernel_rfl))⟩
  f27 := ⟨Tryd.f146.name, by decide, Tryd.func146.trans (congrArg some (by kernel_rfl))⟩
  f28 := Tryd.func147.trans (congrArg some (by kernel_rfl))
  f29 := Tryd.func148.trans (congrArg some (by kernel_rfl))
  f46 := ⟨Tryd.f169.name, by decide, Tryd.func169.trans (congrArg some (by kernel_rfl))⟩
  f47 := Tryd.func170.trans (congrArg some (by kernel_rfl))
  f48 := Tryd.func171.trans (congrArg some (by kernel_rfl))
  f49 := ⟨Tryd.f172.name, by decide, Tryd.func172.trans (congrArg some (by kernel_rfl))⟩
  f50 := ⟨Tryd.f173.name, by decide, Tryd.func173.trans (congrArg some (by kernel_rfl))⟩
  f57 := ⟨Tryd.f190.name, by decide, Tryd.func190.trans (congrArg some (by kernel_rfl))⟩
  t0 := Tryd.underlying0
  a0 := Tryd.isAgg0
  z0 := Tryd.sizeOf0
  v0 := Tryd.zeroValue0
  t3 := Tryd.underlying3
  a3 := Tryd.isAgg3
  z3 := Tryd.sizeOf3
  v3 := Tryd.zeroValue3
  t4 := Tryd.underlying4
  a4 := Tryd.isAgg4
  z4 := Tryd.sizeOf4
  v4 := Tryd.zeroValue4
  t5 := Tryd.underlying5
  a5 := Tryd.isAgg5
  z5 := Tryd.sizeOf5
  v5 := Tryd.zeroValue5
  t9 := Tryd.underlying9
  a9 := Tryd.isAgg9
  z9 := Tryd.sizeOf9
  v9 := Tryd.zeroValue9
  t22 := Tryd.underlying42
  a22 := Tryd.isAgg42
  z22 := Tryd.sizeOf42
  v22 := Tryd.zeroValue42
  t25 := Tryd.underlying126
  a25 := Tryd.isAgg126
  z25 := Tryd.sizeOf126
  v25 := Tryd.zeroValue126
  t39 := Tryd.underlying164
  a39 := Tryd.isAgg164
  z39 := Tryd.sizeOf164
  v39 := Tryd.zeroValue164
  t45 := Tryd.underlying222
  a45 := Tryd.isAgg222
  z45 := Tryd.sizeOf222
  v45 := Tryd.zeroValue222
  t46 := Tryd.underlying223
  a46 := Tryd.isAgg223
  z46 := Tryd.sizeOf223
  v46 := Tryd.zeroValue223
  t50 := Tryd.underlying227
  a50 := Tryd.isAgg227
  z50 := Tryd.sizeOf227
  v50 := Tryd.zeroValue227
  t53 := Tryd.underlying64
  a53 := Tryd.isAgg64
  z53 := Tryd.sizeOf64
  v53 := Tryd.zeroValue64
  t55 := Tryd.underlying71
  a55 := Tryd.isAgg71
  z55 := Tryd.sizeOf71
  v55 := Tryd.zeroValue71
  t66 := Tryd.underlying252
  a66 := Tryd.isAgg252
  z66 := Tryd.sizeOf252
  v66 := Tryd.zeroValue252
  t70 := Tryd.underlying256
  a70 := Tryd.isAgg256
  z70 := Tryd.sizeOf256
  v70 := Tryd.zeroValue256
  t76 := Tryd.underlying273
  a76 := Tryd.isAgg273
  z76 := Tryd.sizeOf273
  v76 := Tryd.zeroValue273
  t77 := Tryd.underlying29
  a77 := Tryd.isAgg29
  z77 := Tryd.sizeOf29
  v77 := Tryd.zeroValue29 }
end Go.Proofs
