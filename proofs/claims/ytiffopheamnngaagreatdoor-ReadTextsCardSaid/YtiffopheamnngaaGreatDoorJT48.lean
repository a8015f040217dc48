import Derived.Test.YtiffopheamnngaaGreatDoorJT47
import Derived.Lib.SmallJoins
namespace Go.Proofs.YtiffopheamnngaaGreatDoor
set_option maxRecDepth 100000
open Go.ChangeShapes Go.WideShapes Go.ChangeAt Go.RowKit Go.Deep
theorem exists_list {α : Type} {Q : Nat → α → Prop} : ∀ (n : Nat), (∀ i, i < n → ∃ x, Q i x) → ∃ l : List α, l.length = n ∧ ∀ i x, l[i]? = some x → Q i x
 | 0, _ => ⟨[], rfl, fun i x h => by simp at h⟩
 | n + 1, h => by
  obtain ⟨l, hl, hq⟩ := exists_list n (fun i hi => h i (by omega))
  obtain ⟨x, hx⟩ := h n (by omega)
  refine ⟨l ++ [x], by simp [hl], fun i y hy => ?_⟩
  by_cases hi : i < l.length
  ·rw [List.getElem?_append_left hi] at hy
   exact hq i y hy
  ·have : i = l.length := by
    have h1 := (List.getElem?_eq_some_iff.1 hy).1
    simp at h1
    omega
   subst this
   simp at hy
   subst hy
   rw [hl]
   exact hx
theorem addr_of_cell {w : World} {a : Addr} {v : Value} (h : w.cell? a = some v) : a = ⟨a.block, a.off, none⟩ := by
 obtain ⟨b, o, s⟩ := a
 cases s with
 | none => rfl
 | some x =>
  unfold World.cell? at h
  simp only at h
  split at h
  ·simp at h
  ·cases h
theorem add_lit' (b o i : Nat) : (⟨b, o, none⟩ : Addr).add i = ⟨b, o + i, none⟩ := by unfold Addr.add; split <;> simp_all
theorem rows_at {w : World} {base : Nat} {a : Addr} {k len : Nat} (hk : 0 < k) (h : ∀ i, i < len → ∃ cs, w.cells? base (a.add (i * k)) k = some cs) (hl : 0 < len) : a = ⟨a.block, a.off, none⟩ ∧ a.block < w.heap.size := by
 obtain ⟨cs, hc⟩ := h 0 hl
 obtain ⟨_, h1, h2⟩ := World.cells?_some hc
 have h3 := h2 0 hk
 have h4 : cs[0]? = some (cs[0]'(by omega)) := List.getElem?_eq_getElem _
 rw [h4] at h3
 have e : (a.add (0 * k)).add 0 = a := by simp [Addr.add]
 rw [e] at h3
 exact ⟨addr_of_cell h3, World.block_lt_of_cell? w _ h3⟩
theorem defCells : Tryz.prog.cellsOf 56 = 3 := by kernel_rfl
theorem defFields : ∃ f g k : Field, Tryz.prog.underlying 56 = some (.struct #[f, g, k]) ∧ f.type = 3 ∧ g.type = 3 ∧ k.type = 9 ∧ f.offset = 0 ∧ g.offset = 1 ∧ k.offset = 2 := ⟨_, _, _, Tryz.underlying56, rfl, rfl, rfl, rfl, rfl, rfl⟩
theorem defs_of_trod {H : Type} {enc : TypeId × Value → H} {W : World} {base : Nat} {sp : Nat → Bool} {held : Bool} {n : Nat} {v : Value} {y : DataW H × List MemPlace} (h : DataW.trod enc Tryz.prog W base sp held n 22 [v] = some y) :
    ∃ (A : Option Addr) (k c : Nat) (l : List DefT), v = .slice A k c ∧ DefsAt W W.heap.size A k l ∧ k ≤ maxLen := by
 rcases open_slice Tryz.underlying22 h with ⟨h0, _⟩ | ⟨a, len, cap, m, n', D, Pl, hcs, _, hlc, hcm, hm, _, hel⟩
 ·obtain rfl : v = .slice none 0 0 := by simpa using h0
  exact ⟨none, 0, 0, [], rfl, ⟨rfl, fun i x h => by simp at h⟩, by simp [maxLen]⟩
 ·obtain rfl : v = .slice (some a) len cap := by simpa using hcs
  have hlm : len ≤ m := by rw [hm]; split <;> omega
  rw [defCells] at hel
  obtain ⟨f, g, q, hu, f1, g1, q1, f2, g2, q2⟩ := defFields
  have key : ∀ i, i < len → ∃ x : DefT, ∃ b off, (some a : Option Addr) = some ⟨b, off, none⟩ ∧ b < W.heap.size ∧ W.cell? ⟨b, off + i * 3, none⟩ = some (.int .i64 x.1) ∧ W.cell? ⟨b, off + i * 3 + 1, none⟩ = some (.int .i64 x.2.1) ∧
      W.cell? ⟨b, off + i * 3 + 2, none⟩ = some (.string ⟨x.2.2.toArray⟩) ∧ x.2.2.length ≤ maxLen := by
   intro i hi
   obtain ⟨ha, hb⟩ := rows_at (w := W) (base := base) (a := a) (k := 3) (len := len) (by omega) (fun j hj => by obtain ⟨cs, h1, _⟩ := hel j (by omega); exact ⟨cs, h1⟩) (by omega)
   obtain ⟨cs, h1, h2⟩ := hel i (by omega)
   obtain ⟨_, hl3, hc⟩ := World.cells?_some h1
   obtain ⟨xs, _, _, _, _, hxl, hf⟩ := DataW.trod_struct hu h2
   match cs, hl3 with
   | [c0, c1, c2], _ =>
    have e0 := hf 0 f rfl
    have e1 := hf 1 g rfl
    have e2 := hf 2 q rfl
    rw [f1, f2] at e0
    rw [g1, g2] at e1
    rw [q1, q2] at e2
    rw [show Tryz.prog.cellsOf 3 = 1 from intCells] at e0 e1
    rw [show Tryz.prog.cellsOf 9 = 1 from stringCells] at e2
    simp only [List.drop_zero, List.take_succ_cons, List.take_zero, List.drop_succ_cons] at e0 e1 e2
    have hlen : xs.length = 3 := hxl
    obtain ⟨y0, hy0⟩ : ∃ y0, xs[0]? = some y0 := ⟨_, List.getElem?_eq_getElem (by omega)⟩
    obtain ⟨y1, hy1⟩ : ∃ y1, xs[1]? = some y1 := ⟨_, List.getElem?_eq_getElem (by omega)⟩
    obtain ⟨y2, hy2⟩ : ∃ y2, xs[2]? = some y2 := ⟨_, List.getElem?_eq_getElem (by omega)⟩
    rw [hy0] at e0
    rw [hy1] at e1
    rw [hy2] at e2
    obtain ⟨p, hp, _, _⟩ := DataW.trod_int Tryz.underlying3 e0
    obtain ⟨t, ht, _, _⟩ := DataW.trod_int Tryz.underlying3 e1
    obtain ⟨s, hs, _, hsz⟩ := DataW.trod_string Tryz.underlying9 e2
    simp only [List.cons.injEq, and_true] at hp ht hs
    subst hp ht hs
    have a0 := hc 0 (by omega)
    have a1 := hc 1 (by omega)
    have a2 := hc 2 (by omega)
    rw [ha, add_lit', add_lit'] at a0 a1 a2
    refine ⟨(p, t, s.data.toList), a.block, a.off, by rw [← ha], hb, by simpa using a0, by simpa using a1, by simpa using a2, ?_⟩
    show s.data.toList.length ≤ maxLen
    rw [Array.length_toList]
    exact hsz
  obtain ⟨l, hl, hq⟩ := exists_list len key
  exact ⟨some a, len, cap, l, rfl, ⟨hl, hq⟩, by omega⟩
end Go.Proofs.YtiffopheamnngaaGreatDoor
