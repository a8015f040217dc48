/-
  The document's examples of layer 5 hold, whatever the world. Conditions: the types' table and the table of blanks read as the program lays them.
-/
import Derived.Test.YtiaajpfebcccfaaDoorDefsAt
import Derived.Test.YtiaajpfebcccfaaDoorTabIs
namespace Go.Proofs.YtiaajpfebcccfaaDoor
open Go.RowKit Go.Maps
set_option maxRecDepth 100000

theorem init_facts : tsides opsInit 2 [45] = (500, 500, 499) ∧ tsides opsInit 1 [45] = (200, 200, 200) ∧ opErr opsInit 700 6 [105, 115] = 15 ∧ isOp opsInit [105, 115] = true ∧ isOp opsInit [102, 111, 111] = false := by
  decide +kernel

set_option maxHeartbeats 1000000 in
theorem opsAlive_any (w : World) (hK : KindsAt w) (htab : Lib.TabIs Tryd.prog w "strings.asciiSpace" .u8 Lib.asciiSpaceTab) :
    Calls Tryd.prog 4 #[] w fun e w' => e = .returned (.bool true) ∧ Below w.heap.size w w' := by
  obtain ⟨f1, f2, f3, f4, f5⟩ := init_facts
  have hk0 := hK.lt
  have HK := Lib.hid hK
  have HTAB := Lib.hid htab
  have hon : ∀ n : List UInt8, n.length ≤ 1000 → OkName n := fun n h => by unfold OkName maxLen; omega
  have HON := Lib.hid hon
  clear hK htab hon
  go_enter Tryd.func4, Tryd.ntmps4
  go_wp2_with fail
  refine (new_any w HK.out HTAB.out).mono ?_
  rintro e w1 ⟨bt, bm, rfl, hT, hbt, hbm, hne, hb1⟩
  have HT1 := Lib.hid hT
  have HB1 := Lib.hid hb1
  have HK1 := Lib.hid (HK.out.below hb1 hk0)
  clear hT hb1
  go_wp2_with fail
  refine (infix_any w1 bt bm opsInit HT1.out HK1.out [45] (HON.out _ (by simp))).mono ?_
  rintro e w2 ⟨rfl, hb2⟩
  have HT2 := Lib.hid (HT1.out.later hb2)
  have HK2 := Lib.hid (HK1.out.later hb2)
  have HB2 := Lib.hid (HB1.out.trans (hb2.mono HB1.out.size))
  rw [f1]
  clear hb2
  go_wp2_with fail
  refine (prefix_any w2 bt bm opsInit HT2.out HK2.out [45] (HON.out _ (by simp))).mono ?_
  rintro e w3 ⟨rfl, hb3⟩
  have HT3 := Lib.hid (HT2.out.later hb3)
  have HK3 := Lib.hid (HK2.out.later hb3)
  have HB3 := Lib.hid (HB2.out.trans (hb3.mono HB2.out.size))
  rw [f2]
  clear hb3
  go_wp2_with fail
  refine (op_any w3 bt bm opsInit HT3.out HK3.out hne 700 6 [105, 115] (by simp)).mono ?_
  rintro e w4 ⟨rfl, hT4, hF4⟩
  have HT4 : Hid (TabAt w4 bt bm opsInit) := by
    unfold opTab at hT4
    rw [f3, if_pos (by simp)] at hT4
    exact hT4
  have HB4 := Lib.hid (HB3.out.trans (hF4.below HB3.out.size (fun k hk => by have := hbm; omega)))
  rw [f3]
  clear hT4 hF4
  go_wp2_with fail
  refine (is_any w4 bt bm opsInit HT4.out [105, 115] (HON.out _ (by simp))).mono ?_
  rintro e w5 ⟨rfl, hb5⟩
  have HT5 := Lib.hid (HT4.out.later hb5)
  have HB5 := Lib.hid (HB4.out.trans (hb5.mono HB4.out.size))
  rw [f4]
  clear hb5
  go_wp2_with fail
  refine (is_any w5 bt bm opsInit HT5.out [102, 111, 111] (HON.out _ (by simp))).mono ?_
  rintro e w6 ⟨rfl, hb6⟩
  have HB6 := Lib.hid (HB5.out.trans (hb6.mono HB5.out.size))
  rw [f5]
  clear hb6
  go_wp2_with fail
  refine (op_nil w6 1 1 _).mono ?_
  rintro e w7 ⟨rfl, rfl⟩
  go_wp2_with fail
  go_ret
  exact ⟨rfl, HB6.out⟩
end Go.Proofs.YtiaajpfebcccfaaDoor
