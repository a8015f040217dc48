/-
  An argument that is a slice of events reads as a list, and is nil only if it is empty. No condition.
-/
import Derived.Test.YtpiekfkkhgighaaDoorEvE
import Derived.Test.YtpiekfkkhgighaaDoorReadEvs
namespace Go.Proofs.YtpiekfkkhgighaaDoor
set_option maxRecDepth 100000
open Go.ChangeShapes Go.WideShapes Go.ChangeAt Go.RowKit Go.Deep

theorem arg_of_trod {H : Type} {enc : TypeId × Value → H} {W : World} {base : Nat} {sp : Nat → Bool} {held : Bool} {k n c : Nat} {A : Option Addr} {y : DataW H × List MemPlace} (h : DataW.trod enc Tryd.prog W base sp held k 42 [.slice A n c] = some y) :
    ∃ l : List Ev, EvArg W A n c l ∧ (n : Int) ≤ 9223372036854775807 ∧ ∀ e ∈ l, (e.text.length : Int) ≤ 9223372036854775807 := by
  obtain ⟨A', n', c', l, hv, hl, hn, ht⟩ := evs_of_trod h
  obtain ⟨rfl, rfl, rfl⟩ : A = A' ∧ n = n' ∧ c = c' := by injection hv with a b d; exact ⟨a, b, d⟩
  refine ⟨l, ⟨hl, fun hA => ?_⟩, by unfold maxLen at hn; omega, fun e he => by have := ht e he; unfold maxLen at this; omega⟩
  rcases open_slice Tryd.underlying42 h with ⟨h0, _⟩ | ⟨a, len, cap, m, n', D, Pl, hcs, _⟩
  · simp only [List.cons.injEq, and_true] at h0
    injection h0 with a b d
    exact ⟨b, d⟩
  · subst hA
    simp only [List.cons.injEq, and_true] at hcs
    injection hcs with a b d
    cases a
end Go.Proofs.YtpiekfkkhgighaaDoor
