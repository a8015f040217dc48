/-
  What law04's alive answers: true. Condition: the index package's cell holds a number.
-/
import Derived.Test.YtpiekfkkhgighaaTokW9
namespace Go.Proofs.Ytpiekfkkhgighaa
open Go.RowKit
set_option maxRecDepth 100000

theorem lexA : lexB [97, 58, 45, 98, 46] = ([⟨1, 1, 0, [97], false, false⟩, ⟨1, 1, 0, [58, 45], false, true⟩, ⟨1, 1, 0, [98], false, true⟩, ⟨7, 1, 0, [], false, true⟩, ⟨0, 1, 0, [], false, false⟩], 0, 0) := by kernel_rfl
theorem lexX : lexB [88, 61, 32, 45, 49] = ([⟨4, 1, 0, [88], false, false⟩, ⟨1, 1, 0, [61], false, true⟩, ⟨1, 1, 0, [45], false, false⟩, ⟨3, 1, 1, [], false, true⟩, ⟨0, 1, 0, [], false, false⟩], 0, 0) := by kernel_rfl
theorem lexG : lexB [102, 40] = ([⟨1, 1, 0, [102], true, false⟩, ⟨6, 1, 0, [40], false, true⟩, ⟨0, 1, 0, [], false, false⟩], 0, 0) := by kernel_rfl

set_option maxHeartbeats 4000000 in
theorem alive_any (w : World) (hmax : ∃ m : Int, w.cell? ⟨0, 0, none⟩ = some (.int .i64 m)) :
    Calls Try.prog 5 #[] w fun e w' => e = .returned (.bool true) ∧ Below w.heap.size w w' := by
  have HM := Lib.hid hmax
  clear hmax
  go_enter Try.func5, Try.ntmps5
  go_wp2_with fail
  refine (lex_any w [97, 58, 45, 98, 46] (by decide) HM.out).mono ?_
  rintro e w1 ⟨v1, rfl, hr1, hb1⟩
  rw [lexA] at hr1 ⊢
  have HR1 := Lib.hid hr1
  have HB1 := Lib.hid hb1
  have HM1 := Lib.hid (maxLen_at HM.out hb1).1
  clear hr1 hb1
  go_wp2_with fail
  refine (lex_any w1 [88, 61, 32, 45, 49] (by decide) HM1.out).mono ?_
  rintro e w2 ⟨v2, rfl, hr2, hb2⟩
  rw [lexX] at hr2 ⊢
  have HR2 := Lib.hid hr2
  have HB2 := Lib.hid (HB1.out.trans (hb2.mono HB1.out.size))
  have HM2 := Lib.hid (maxLen_at HM1.out hb2).1
  have HR12 := Lib.hid (HR1.out.later hb2)
  clear hr2 hb2
  go_wp2_with fail
  refine (lex_any w2 [102, 40] (by decide) HM2.out).mono ?_
  rintro e w3 ⟨v3, rfl, hr3, hb3⟩
  rw [lexG] at hr3 ⊢
  have HB3 := Lib.hid (HB2.out.trans (hb3.mono HB2.out.size))
  obtain ⟨g1, cap1, rfl, -, -, hc1, k1⟩ := (HR12.out.later hb3).cells encTok_len (by simp)
  obtain ⟨g2, cap2, rfl, -, -, hc2, k2⟩ := (HR2.out.later hb3).cells encTok_len (by simp)
  obtain ⟨g3, cap3, rfl, -, -, hc3, k3⟩ := hr3.cells encTok_len (by simp)
  have a1 : w3.cell? ⟨g1, 9, none⟩ = some (.string ⟨#[58, 45]⟩) := (k1 1 _ rfl 3 _ rfl).1
  have a2 : w3.cell? ⟨g1, 18, none⟩ = some (.int .i64 7) := (k1 3 _ rfl 0 _ rfl).1
  have a3 : w3.cell? ⟨g2, 20, none⟩ = some (.int .i64 1) := (k2 3 _ rfl 2 _ rfl).1
  have a4 : w3.cell? ⟨g2, 23, none⟩ = some (.bool true) := (k2 3 _ rfl 5 _ rfl).1
  have a5 : w3.cell? ⟨g2, 17, none⟩ = some (.bool false) := (k2 2 _ rfl 5 _ rfl).1
  have a6 : w3.cell? ⟨g3, 4, none⟩ = some (.bool true) := (k3 0 _ rfl 4 _ rfl).1
  clear k1 k2 k3 hr3 hb3 HR12 HR2 HR1 hc1 hc2 hc3
  go_wp2_with fail
  go_ret
  exact ⟨rfl, HB3.out⟩
end Go.Proofs.Ytpiekfkkhgighaa
