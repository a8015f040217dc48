/-
  An argument that is a slice of events reads as a list. No condition.
-/
import Derived.Test.YtpiekfkkhgighaaDoorEvA
import Derived.Test.YtpiekfkkhgighaaDoorReadGen
namespace Go.Proofs.YtpiekfkkhgighaaDoor
set_option maxRecDepth 100000
open Go.ChangeShapes Go.WideShapes Go.ChangeAt Go.RowKit Go.Deep

theorem evCells : Tryd.prog.cellsOf 54 = 2 := by kernel_rfl
theorem evInt : Tryd.prog.cellsOf 3 = 1 := by kernel_rfl
theorem evString : Tryd.prog.cellsOf 9 = 1 := by kernel_rfl
theorem evFields : ∃ f g : Field, Tryd.prog.underlying 54 = some (.struct #[f, g]) ∧ f.type = 3 ∧ g.type = 9 ∧ f.offset = 0 ∧ g.offset = 1 := ⟨_, _, Tryd.underlying54, rfl, rfl, rfl, rfl⟩

theorem evs_of_trod {H : Type} {enc : TypeId × Value → H} {W : World} {base : Nat} {sp : Nat → Bool} {held : Bool} {n : Nat} {v : Value} {y : DataW H × List MemPlace} (h : DataW.trod enc Tryd.prog W base sp held n 42 [v] = some y) :
    ∃ (A : Option Addr) (k c : Nat) (l : List Ev), v = .slice A k c ∧ EvsAt W W.heap.size A k l ∧ k ≤ maxLen ∧ ∀ e ∈ l, e.text.length ≤ maxLen := by
  rcases open_slice Tryd.underlying42 h with ⟨h0, _⟩ | ⟨a, len, cap, m, n', D, Pl, hcs, _, hlc, hcm, hm, _, hel⟩
  · obtain rfl : v = .slice none 0 0 := by simpa using h0
    exact ⟨none, 0, 0, [], rfl, ⟨rfl, fun i x h => by simp at h⟩, by simp [maxLen], fun e he => by cases he⟩
  · obtain rfl : v = .slice (some a) len cap := by simpa using hcs
    have hlm : len ≤ m := by rw [hm]; split <;> omega
    rw [evCells] at hel
    obtain ⟨f, g, hu, f1, g1, f2, g2⟩ := evFields
    have key : ∀ i, i < len → ∃ x : Ev, (∃ b off, (some a : Option Addr) = some ⟨b, off, none⟩ ∧ b < W.heap.size ∧ W.cell? ⟨b, off + i * 2, none⟩ = some (.int .i64 x.kind) ∧ W.cell? ⟨b, off + i * 2 + 1, none⟩ = some (.string ⟨x.text.toArray⟩)) ∧ x.text.length ≤ maxLen := by
      intro i hi
      obtain ⟨ha, hb⟩ := rows_at (w := W) (base := base) (a := a) (k := 2) (len := len) (by omega) (fun j hj => by obtain ⟨cs, h1, _⟩ := hel j (by omega); exact ⟨cs, h1⟩) (by omega)
      obtain ⟨cs, h1, h2⟩ := hel i (by omega)
      obtain ⟨_, hl3, hc⟩ := World.cells?_some h1
      obtain ⟨xs, _, _, _, _, hxl, hf⟩ := DataW.trod_struct hu h2
      match cs, hl3 with
      | [c0, c1], _ =>
        have e0 := hf 0 f rfl
        have e1 := hf 1 g rfl
        rw [f1, f2] at e0
        rw [g1, g2] at e1
        rw [evInt] at e0
        rw [evString] at e1
        simp only [List.drop_zero, List.take_succ_cons, List.take_zero, List.drop_succ_cons] at e0 e1
        have hlen : xs.length = 2 := hxl
        obtain ⟨y0, hy0⟩ : ∃ y0, xs[0]? = some y0 := ⟨_, List.getElem?_eq_getElem (by omega)⟩
        obtain ⟨y1, hy1⟩ : ∃ y1, xs[1]? = some y1 := ⟨_, List.getElem?_eq_getElem (by omega)⟩
        rw [hy0] at e0
        rw [hy1] at e1
        obtain ⟨p, hp, _, _⟩ := DataW.trod_int Tryd.underlying3 e0
        obtain ⟨s, hs, _, hsz⟩ := DataW.trod_string Tryd.underlying9 e1
        simp only [List.cons.injEq, and_true] at hp hs
        subst hp hs
        have a0 := hc 0 (by omega)
        have a1 := hc 1 (by omega)
        rw [ha, add_lit', add_lit'] at a0 a1
        refine ⟨⟨p, s.data.toList⟩, ⟨a.block, a.off, by rw [← ha], hb, by simpa using a0, by simpa using a1⟩, ?_⟩
        show s.data.toList.length ≤ maxLen
        rw [Array.length_toList]
        exact hsz
    obtain ⟨l, hl, hq⟩ := exists_list len key
    refine ⟨some a, len, cap, l, rfl, ⟨hl, fun i x hx => (hq i x hx).1⟩, by omega, fun e he => ?_⟩
    obtain ⟨i, hi⟩ := List.getElem?_of_mem he
    exact (hq i e hi).2
end Go.Proofs.YtpiekfkkhgighaaDoor
