/-
  A definition's cells; slices that read as lists. No condition.
-/
import Derived.Test.YtiaajpfebcccfaaDoorDefOrd
import Derived.Test.YtiaajpfebcccfaaDoorRow
namespace Go.Proofs.YtiaajpfebcccfaaDoor
open Go.RowKit Go.Maps Go.Lib
set_option maxRecDepth 100000

/-- A definition's three cells. -/
def encDef (x : DefT) : List Value := [.int .i64 x.1, .int .i64 x.2.1, .string ⟨x.2.2.toArray⟩]

section
variable {α : Type} {w w' : World} {sz : Nat} {enc : α → List Value} {v : Value} {l : List α}
/-- v is a slice whose elements, in blocks below B, read as l. -/
structure SlAt (w : World) (B : Nat) (sz : Nat) (enc : α → List Value) (v : Value) (l : List α) : Prop where
  shape : ∃ A cap, v = .slice A l.length cap ∧ (l ≠ [] → ∃ b off, A = some ⟨b, off, none⟩ ∧ b < B ∧ ∀ i x, l[i]? = some x → ∀ j u, (enc x)[j]? = some u → w.cell? ⟨b, off + i * sz + j, none⟩ = some u)
theorem SlAt.keep {B : Nat} (h : SlAt w B sz enc v l) (hb : ∀ k, k < B → v.ownBlock = some k → w'.heap[k]? = w.heap[k]?) : SlAt w' B sz enc v l := by
  obtain ⟨A, cap, rfl, h2⟩ := h.shape
  refine ⟨A, cap, rfl, fun hne => ?_⟩
  obtain ⟨b, off, rfl, hB, h3⟩ := h2 hne
  exact ⟨b, off, rfl, hB, fun i x hx j u hu => (World.cell?_of_block (a := ⟨b, off + i * sz + j, none⟩) (hb b hB rfl)).trans (h3 i x hx j u hu)⟩
theorem SlAt.below {B : Nat} (h : SlAt w B sz enc v l) (hb : Below B w w') : SlAt w' B sz enc v l := h.keep fun k hk _ => hb.block k hk
theorem SlAt.up {B B' : Nat} (h : SlAt w B sz enc v l) (hB : B ≤ B') : SlAt w B' sz enc v l := by
  obtain ⟨A, cap, rfl, h2⟩ := h.shape
  refine ⟨A, cap, rfl, fun hne => ?_⟩
  obtain ⟨b, off, rfl, hlt, h3⟩ := h2 hne
  exact ⟨b, off, rfl, Nat.lt_of_lt_of_le hlt hB, h3⟩
theorem SlAt.of_row {B : Nat} {e : TypeId} (henc : ∀ x, (enc x).length = sz) (h : Row w B e sz enc v l) : SlAt w w.heap.size sz enc v l := by
  obtain ⟨A, cap, rfl⟩ := h.shape
  refine ⟨A, cap, rfl, fun hne => ?_⟩
  obtain ⟨g, cap', e1, _, h3, _, h5⟩ := h.cells henc hne
  cases e1
  exact ⟨g, 0, rfl, h3, fun i x hx j u hu => by rw [Nat.zero_add]; exact (h5 i x hx j u hu).1⟩
end

theorem encDef_len (x : DefT) : (encDef x).length = 3 := rfl
theorem encDef_one (x : DefT) : ∀ u ∈ encDef x, u.oneCell' = true := by
  intro u hu
  simp [encDef] at hu
  rcases hu with rfl | rfl | rfl <;> rfl

theorem refDef_info : ∃ i z, Tryd.prog.info? 29 = some i ∧ i.zero = some z ∧ i.size = 3 ∧ i.bytes = 32 ∧ z.cells.size = 3 := by
  refine ⟨_, _, rfl, rfl, ?_, ?_, ?_⟩ <;> kernel_rfl

theorem below_grown {w w' w'' : World} {B : Nat} {row : Option Nat} (h : Below B w w') (hg : w'.grownBy w'' row) (hr : ∀ g, row = some g → B ≤ g) (hB : B ≤ w'.heap.size := by omega) : Below B w w'' :=
  ⟨hg.os.trans h.os, hg.tape.trans h.tape, hg.output.trans h.output, Nat.le_trans h.size hg.size, fun k hk => (hg.block k (by omega) (fun e => by have := hr k e.symm; omega)).trans (h.block k hk)⟩
theorem cell_alloc2 (w : World) (a : Obj) (cs : Array Value) (t : TypeId) (i : Nat) (u : Value) (h : cs[i]? = some u) :
    (((w.alloc a).alloc (.cells cs t))).cell? ⟨w.heap.size + 1, i, none⟩ = some u := by
  have hb : (((w.alloc a).alloc (.cells cs t))).heap[w.heap.size + 1]? = some (.cells cs t (0, 0)) := by
    have := heap_alloc_new (w.alloc a) (.cells cs t)
    have e : (w.alloc a).heap.size = w.heap.size + 1 := by simp
    rw [e] at this
    exact this
  rw [cell_of_row _ _ i cs t (0, 0) hb]
  exact h

end Go.Proofs.YtiaajpfebcccfaaDoor
