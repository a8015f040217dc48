/-
  What slices.SortFunc makes of a row of operators' definitions that the call has built: a sorted row of the same. Condition: fewer than 2^62 elements.
-/
import Derived.Test.YtiaajpfebcccfaaDoorDefCmp
import Derived.Test.YtiaajpfebcccfaaDoorSortLay
namespace Go.Proofs.YtiaajpfebcccfaaDoor
open Go.RowKit Go.Maps Go.Lib Go.Sort
set_option maxRecDepth 100000

theorem sortWorld_fr {α : Type} [Inhabited α] (enc : α → List Value) (k : Nat) (w : World) (blk off n : Nat) (d : Array α) (os : Array Obj) : Fr (· = blk) w (sortWorldK enc k w blk off n d os) := by
  refine ⟨rfl, rfl, rfl, by simp [sortWorldK, size_putRowK, Sort.ahead], fun i hi hn => ?_⟩
  unfold sortWorldK
  rw [heap_grow_old _ _ (by simpa [size_putRowK, Sort.ahead] using hi)]
  have : ¬ blk = i := fun e => hn e.symm
  simp [putRowK, putRow, mapBlock, Sort.ahead, Array.getElem?_modify, this]

theorem holds_row {w : World} {B : Nat} {e : TypeId} {l : List DefT} {g cap : Nat} (h : Row w B e 3 encDef (.slice (some ⟨g, 0, none⟩) l.length cap) l) : HoldsK encDef 3 w g 0 l.toArray := by
  intro t ht
  have ht' : t < l.length * 3 := by simpa using ht
  have hne : l ≠ [] := by rintro rfl; simp at ht'
  obtain ⟨g', cap', e1, _, _, _, h5⟩ := h.cells encDef_len hne
  cases e1
  have hq : t / 3 < l.length := by omega
  have hu : (encDef l[t / 3])[t % 3]? = some (encDef l[t / 3])[t % 3]! := by
    have : t % 3 < (encDef l[t / 3]).length := by rw [encDef_len]; omega
    rw [getElem!_pos (encDef l[t / 3]) (t % 3) this, List.getElem?_eq_getElem this]
  have := h5 (t / 3) l[t / 3] (List.getElem?_eq_getElem hq) (t % 3) _ hu
  rw [show t / 3 * 3 + t % 3 = t by omega] at this
  rw [get_flatK _ _ _ _ (by simpa using ht'), Nat.zero_add]
  simpa [hq] using this

theorem sortDefs_any (w : World) (v : Value) (l : List DefT) (e : TypeId) (B : Nat) (h : Row w B e 3 encDef v l) (hsz : l.length < 4611686018427387904) :
    Calls Tryd.prog 29 #[v, .func (.func 30) #[] #[]] w fun e w' =>
      e = .returned (.tuple #[]) ∧ ∃ l', l'.Perm l ∧ Sorted l' ∧ SlAt w' w'.heap.size 3 encDef v l' ∧ Fr (fun k => v.ownBlock = some k) w w' := by
  by_cases hne : l = []
  · subst hne
    obtain ⟨A, cap, rfl⟩ := h.shape
    refine (AnyF.slices_SortFunc_none { Tryd.sortDefs with } A cap _ w).mono ?_
    rintro e w' ⟨rfl, rfl⟩
    exact ⟨rfl, [], List.Perm.refl _, List.Pairwise.nil, ⟨A, cap, rfl, fun h => absurd rfl h⟩, Fr.refl _ _⟩
  · obtain ⟨g, cap, rfl, _, hg, _, _⟩ := h.cells encDef_len hne
    have hH := holds_row h
    have eg : ∀ args w, (callFunc 30 args).run Tryd.prog w = .ok (.enter 30 args) w := enters_of Tryd.func30 (by kernel_rfl) rfl
    have hcon := AnyQ.slices_SortFunc Tryd.sortDefs 3 Tryd.isAgg67 Tryd.sizeOf67 encDef encDef_len encDef_one defCmp defSWO 30 #[] g 0 cap l.toArray w eg (fun m os dk _ x y => defCmp_any _ x y) hH hg (by simpa using hsz)
    refine hcon.mono ?_
    rintro e w' ⟨rfl, d', n, os, hp, hs, rfl⟩
    obtain ⟨p1, p2⟩ := sorted_of_row hp hs
    have hF := sortWorld_fr encDef 3 w g 0 n d' os
    have hlen : d'.size = l.length := by simpa using hp.1
    refine ⟨rfl, d'.toList, p1, p2, ⟨some ⟨g, 0, none⟩, cap, by simp [hlen], fun _ => ⟨g, 0, rfl, Nat.lt_of_lt_of_le hg hF.size, ?_⟩⟩, hF.weak fun k hk => by simp [Value.ownBlock, hk]⟩
    have hc := holdsK_sortWorldK_c encDef 3 w g 0 l.toArray d' n os hH hg (by simpa using hlen)
    intro i x hx j u hu
    have hi : i < d'.size := by simpa using (List.getElem?_eq_some_iff.1 hx).1
    have hj : j < 3 := by simpa [encDef_len] using (List.getElem?_eq_some_iff.1 hu).1
    have := (hc.cell hi hj).1
    rw [this]
    have ex : d'[i]! = x := by
      rw [getElem!_pos d' i hi]
      simpa [hi] using hx
    have hj' : j < (encDef x).length := by rw [encDef_len]; exact hj
    rw [ex, getElem!_pos (encDef x) j hj']
    rw [List.getElem?_eq_getElem hj'] at hu
    exact hu
end Go.Proofs.YtiaajpfebcccfaaDoor
