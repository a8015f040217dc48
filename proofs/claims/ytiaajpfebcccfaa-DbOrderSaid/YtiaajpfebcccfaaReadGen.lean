/-
  Lemmas on what a slice's argument reads as. No condition.
-/
import Derived.Test.YtiaajpfebcccfaaLaw
import Derived.Deep.Slices
import Derived.Lib.SmallJoins
namespace Go.Proofs.Ytiaajpfebcccfaa
set_option maxRecDepth 100000
open Go.ChangeShapes Go.WideShapes Go.ChangeAt Go.RowKit Go.Deep

theorem exists_list {α : Type} {Q : Nat → α → Prop} : ∀ (n : Nat), (∀ i, i < n → ∃ x, Q i x) → ∃ l : List α, l.length = n ∧ ∀ i x, l[i]? = some x → Q i x
  | 0, _ => ⟨[], rfl, fun i x h => by simp at h⟩
  | n + 1, h => by
    obtain ⟨l, hl, hq⟩ := exists_list n (fun i hi => h i (by omega))
    obtain ⟨x, hx⟩ := h n (by omega)
    refine ⟨l ++ [x], by simp [hl], fun i y hy => ?_⟩
    by_cases hi : i < l.length
    · rw [List.getElem?_append_left hi] at hy
      exact hq i y hy
    · have : i = l.length := by
        have h1 := (List.getElem?_eq_some_iff.1 hy).1
        simp at h1
        omega
      subst this
      simp at hy
      subst hy
      rw [hl]
      exact hx

/-- The cells of a slice's elements lie one behind the other. -/
theorem addr_of_cell {w : World} {a : Addr} {v : Value} (h : w.cell? a = some v) : a = ⟨a.block, a.off, none⟩ := by
  obtain ⟨b, o, s⟩ := a
  cases s with
  | none => rfl
  | some x =>
    unfold World.cell? at h
    simp only at h
    split at h
    · simp at h
    · cases h
theorem add_lit' (b o i : Nat) : (⟨b, o, none⟩ : Addr).add i = ⟨b, o + i, none⟩ := by unfold Addr.add; split <;> simp_all

/-- Rows of k cells each, behind a slice. -/
theorem rows_at {w : World} {base : Nat} {a : Addr} {k len : Nat} (hk : 0 < k) (h : ∀ i, i < len → ∃ cs, w.cells? base (a.add (i * k)) k = some cs) (hl : 0 < len) : a = ⟨a.block, a.off, none⟩ ∧ a.block < w.heap.size := by
  obtain ⟨cs, hc⟩ := h 0 hl
  obtain ⟨_, h1, h2⟩ := World.cells?_some hc
  have h3 := h2 0 hk
  have h4 : cs[0]? = some (cs[0]'(by omega)) := List.getElem?_eq_getElem _
  rw [h4] at h3
  have e : (a.add (0 * k)).add 0 = a := by simp [Addr.add]
  rw [e] at h3
  exact ⟨addr_of_cell h3, World.block_lt_of_cell? w _ h3⟩
end Go.Proofs.Ytiaajpfebcccfaa
