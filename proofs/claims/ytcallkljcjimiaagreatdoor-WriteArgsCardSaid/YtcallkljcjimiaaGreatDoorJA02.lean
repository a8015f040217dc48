import Derived.Test.YtcallkljcjimiaaGreatDoorJW03
import Derived.WalkKit
import Derived.WalkSmall
import Derived.Lib.Hide
namespace Go.Proofs.YtcallkljcjimiaaGreatDoor
def Ends (l : List UInt8) : Prop := l.getLast? = some 10
theorem Ends.ne {l : List UInt8} (h : Ends l) : l ≠ [] := by rintro rfl; cases h
theorem Ends.tail {c : UInt8} {r : List UInt8} (h : Ends (c :: r)) (hr : r ≠ []) : Ends r := by
 unfold Ends at *
 rwa [List.getLast?_cons_of_ne_nil hr] at h
theorem Ends.drop {l : List UInt8} (h : Ends l) : ∀ (k : Nat), k < l.length → Ends (l.drop k) := by
 intro k
 induction k generalizing l with
 | zero => intro _; simpa using h
 | succ k ih =>
  intro hk
  cases l with
  | nil => simp at hk
  | cons c r =>
   rw [List.drop_succ_cons]
   simp only [List.length_cons] at hk
   exact ih (h.tail (by rintro rfl; simp at hk)) (by omega)
theorem Ends.one {c : UInt8} (h : Ends [c]) : c = 10 := by simpa [Ends] using h
theorem Ends.app {l b : List UInt8} (h : Ends b) : Ends (l ++ b) := by
 unfold Ends at *
 rw [List.getLast?_append, h]
 rfl
end Go.Proofs.YtcallkljcjimiaaGreatDoor
