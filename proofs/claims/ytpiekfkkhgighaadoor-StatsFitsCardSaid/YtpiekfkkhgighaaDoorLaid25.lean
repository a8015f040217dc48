/-
  What the laid table of bits reads as. No condition.
-/
import Derived.Test.YtpiekfkkhgighaaDoorRows
import Derived.WalkKit
import Derived.Deep.DeepWitnessRowRef
import Derived.LaidMore
import Derived.Stop.LaidErr
import Derived.Lib.LaidTab
import Derived.MakeChecks
namespace Go.Proofs.YtpiekfkkhgighaaDoor
set_option maxRecDepth 100000
open Go.ChangeShapes Go.WideShapes Go.ChangeAt Go.RowKit

theorem laidOut25 : laidOutB Tryd.prog = true := by kernel_rfl
def tab64 : List Int := [0, 1, 56, 2, 57, 49, 28, 3, 61, 58, 42, 50, 38, 29, 17, 4, 62, 47, 59, 36, 45, 43, 51, 22, 53, 39, 33, 30, 24, 18, 12, 5, 63, 55, 48, 27, 60, 41, 37, 16, 46, 35, 44, 21, 52, 32, 23, 11, 54, 26, 40, 15, 34, 20, 31, 10, 25, 14, 19, 9, 13, 8, 7, 6]
theorem gTab : Tryd.prog.globalNamed "math/bits.deBruijn64tab" = some 8 := by kernel_rfl
theorem gTabType : (Tryd.prog.globals[8]?).map (·.type) = some 195 := by kernel_rfl
theorem byteCells25 : Tryd.prog.cellsOf 5 = 1 := by kernel_rfl
theorem tabCells25 : Tryd.prog.cellsOf 195 = 64 := by kernel_rfl
theorem tab_of_laid {W : World} {rest : List (String × DataW Unit)} (h : laidMet Tryd.prog (("math/bits.deBruijn64tab", Rows.laid_math_bits_deBruijn64tab) :: rest) W) : W.cell? ⟨8, 15, none⟩ = some (.int .u8 4) :=
  (Lib.tabIs_of_head (zs := tab64) (rest := rest) gTab gTabType Tryd.underlying195 Tryd.underlying5 byteCells25 tabCells25 h).cell gTab 15 (by decide)
end Go.Proofs.YtpiekfkkhgighaaDoor
