/-
  What law04's TokenLexes answers: true. Condition: the index package's cell holds a number.
-/
import Derived.Test.YtpiekfkkhgighaaTokSame
import Derived.Test.YtpiekfkkhgighaaTokPartsP
import Derived.Test.YtpiekfkkhgighaaRefK
namespace Go.Proofs.Ytpiekfkkhgighaa
open Go.RowKit
set_option maxRecDepth 100000

set_option maxHeartbeats 4000000 in
theorem lexes_any (w : World) (a : List UInt8) (hmax : ∃ m : Int, w.cell? ⟨0, 0, none⟩ = some (.int .i64 m)) :
    Calls Try.prog 3 #[.string ⟨a.toArray⟩] w fun e w' => e = .returned (.bool true) ∧ Below w.heap.size w w' := by
  have HM := Lib.hid hmax
  clear hmax
  go_enter Try.func3, Try.ntmps3
  go_wp2_with fail
  refine (alive_any w HM.out).mono ?_
  rintro e w1 ⟨rfl, hb1⟩
  have HB1 := Lib.hid hb1
  have HM1 := Lib.hid (maxLen_at HM.out hb1).1
  clear hb1
  go_wp2_with fail
  any_goals (go_ret; exact ⟨rfl, HB1.out⟩)
  have ha : (a.length : Int) ≤ 3000 := by omega
  refine (lex_any w1 a (by omega) HM1.out).mono ?_
  rintro e w2 ⟨v1, rfl, hr1, hb2⟩
  have HR1 := Lib.hid hr1
  have HB2 := Lib.hid (HB1.out.trans (hb2.mono HB1.out.size))
  clear hr1 hb2
  go_wp2_with fail
  refine (rlex_any w2 a (by omega)).mono ?_
  rintro e w3 ⟨v2, rfl, hr2, hb3⟩
  have HR12 := Lib.hid (HR1.out.later hb3)
  have HR2 := Lib.hid hr2
  have HB3 := Lib.hid (HB2.out.trans (hb3.mono HB2.out.size))
  clear hr2 hb3
  obtain ⟨l, ln, e, h⟩ : ∃ l ln e, lexB a = (l, ln, e) := ⟨_, _, _, rfl⟩
  have hln : l.length ≤ a.length + 1 := by
    have := lexB_len a
    rw [h] at this
    simp only at this
    omega
  rw [h] at HR12 HR2 ⊢
  simp only at HR12 HR2 ⊢
  clear h
  go_wp2_with fail
  refine (same_any w3 _ _ _ _ l HR12.out HR2.out (by omega)).mono ?_
  rintro e w4 ⟨rfl, hb4⟩
  have HB4 := Lib.hid (HB3.out.trans (hb4.mono HB3.out.size))
  clear hb4
  have t1 : (ln == ln) = true := by simp
  have t2 : (e == e) = true := by simp
  go_wp2_with fail
  go_ret
  exact ⟨rfl, HB4.out⟩
end Go.Proofs.Ytpiekfkkhgighaa
