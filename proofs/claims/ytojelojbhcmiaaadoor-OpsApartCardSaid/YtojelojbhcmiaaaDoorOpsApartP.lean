/-
  Plain laws behind OpsApart: no name is infix and postfix both; what the sides can be. No condition.
-/
import Derived.Test.YtojelojbhcmiaaaDoorOpsBackP
import Derived.Test.YtojelojbhcmiaaaDoorTabIs
namespace Go.Proofs.YtojelojbhcmiaaaDoor

/-- No name is infix and postfix both. -/
def NoBoth (es : List (OpK × OpV)) : Prop := ∀ n, mget es (2, n) = none ∨ mget es (3, n) = none
theorem init_noBoth : NoBoth opsInit := by
  have h : ∀ x ∈ opsInit, x.1.1 ≠ 3 := by decide +kernel
  intro n
  exact .inr (mget_none fun x hx e => h x hx (by rw [e]))
theorem opTab_noBoth (es : List (OpK × OpV)) (p t : Int) (n : List UInt8) (h : NoBoth es) : NoBoth (opTab es p t n) := by
  unfold opTab
  by_cases h0 : opErr es p t n = 0
  · rw [if_neg (by simp [h0])]
    by_cases hp : p = 0
    · rw [if_pos hp]
      intro m
      by_cases e2 : ((2, m) : OpK) = (kSort t, n)
      · exact .inl (by rw [e2]; exact mget_mdel_same _ _)
      · rw [mget_mdel_other _ _ _ e2]
        by_cases e3 : ((3, m) : OpK) = (kSort t, n)
        · exact .inr (by rw [e3]; exact mget_mdel_same _ _)
        · rw [mget_mdel_other _ _ _ e3]
          exact h m
    · rw [if_neg hp]
      have hq : (kSort t = 2 → mget es (3, n) = none) ∧ (kSort t = 3 → mget es (2, n) = none) := by
        unfold opErr at h0
        split at h0
        · cases h0
        split at h0
        · cases h0
        split at h0
        · cases h0
        · rename_i h4
          simp only [not_or, not_and] at h4
          exact ⟨fun e => by simpa using h4.1 e, fun e => by simpa using h4.2 e⟩
      intro m
      by_cases e2 : ((2, m) : OpK) = (kSort t, n)
      · have e : kSort t = 2 ∧ n = m := by simp only [Prod.mk.injEq] at e2; exact ⟨e2.1.symm, e2.2.symm⟩
        right
        rw [mget_mput_other _ _ _ _ (by rw [← e2]; simp), ← e.2]
        exact hq.1 e.1
      · rw [mget_mput_other _ _ _ _ e2]
        by_cases e3 : ((3, m) : OpK) = (kSort t, n)
        · have e : kSort t = 3 ∧ n = m := by simp only [Prod.mk.injEq] at e3; exact ⟨e3.1.symm, e3.2.symm⟩
          left
          rw [← e.2]
          exact hq.2 e.1
        · rw [mget_mput_other _ _ _ _ e3]
          exact h m
  · rw [if_pos h0]
    exact h
theorem tabMade_noBoth (l : List DefT) : NoBoth (tabMade l) := by
  unfold tabMade
  have : ∀ (l : List DefT) (es : List (OpK × OpV)), NoBoth es → NoBoth (l.foldl (fun es d => opTab es d.1 d.2.1 d.2.2) es) := by
    intro l
    induction l with
    | nil => exact fun es h => h
    | cons d r ih => exact fun es h => ih _ (opTab_noBoth es d.1 d.2.1 d.2.2 h)
  exact this l _ init_noBoth

/-- What sides tells of a name in a sort. -/
inductive SidesIs (es : List (OpK × OpV)) (s : Int) (n : List UInt8) : Prop where
  | none (h : mget es (s, n) = none) (e : tsides es s n = (0, 0, 0)) : SidesIs es s n
  | some (p l r : Int) (h : (mget es (s, n)).isSome = true) (e : tsides es s n = (p, p - l, p - r)) (hp : 1 ≤ p ∧ p ≤ 1200) (hl : l = 0 ∨ l = 1) (hr : r = 0 ∨ r = 1) : SidesIs es s n
theorem sides_is {es : List (OpK × OpV)} (hg : ∀ x ∈ es, goodOp x) (s : Int) (n : List UInt8) : SidesIs es s n := by
  cases h : mget es (s, n) with
  | none => exact .none h (tsides_none h)
  | some v =>
    obtain ⟨p, t⟩ := v
    obtain ⟨_, _, g3, g4, _, _⟩ := hg _ (mget_mem h)
    have h1 := kLeft_bd t
    have h2 := kRight_bd t
    exact .some p (kLeft t) (kRight t) (by rw [h]; rfl) (by unfold tsides; rw [h]) ⟨g3, g4⟩ (by omega) (by omega)
theorem sides_form {es : List (OpK × OpV)} (hg : ∀ x ∈ es, goodOp x) (s : Int) (n : List UInt8) :
    ∃ p l r : Int, tsides es s n = (p, l, r) ∧ (0 ≤ p ∧ p ≤ 1200) ∧ (l = p ∨ l = p - 1) ∧ (r = p ∨ r = p - 1) ∧ (mget es (s, n) = none → p = 0 ∧ l = 0 ∧ r = 0) ∧ (p = 0 → l = 0 ∧ r = 0) := by
  rcases sides_is hg s n with ⟨h, e⟩ | ⟨p, l, r, h, e, hp, hl, hr⟩
  · exact ⟨0, 0, 0, e, by omega, .inl rfl, .inl rfl, fun _ => ⟨rfl, rfl, rfl⟩, fun _ => ⟨rfl, rfl⟩⟩
  · exact ⟨p, p - l, p - r, e, by omega, by omega, by omega, (fun h0 => by rw [h0] at h; cases h), (fun h0 => by omega)⟩
theorem listed {es : List (OpK × OpV)} (hd : (es.map (·.1)).Nodup) (hg : ∀ x ∈ es, goodOp x) {L : List DefT} (hL : L.Perm (es.map defOf)) {d : DefT} (h : d ∈ L) :
    (∃ s, (s = 1 ∨ s = 2 ∨ s = 3) ∧ (tsides es s d.2.2).1 = d.1 ∧ (mget es (s, d.2.2)).isSome = true) ∧ 1 ≤ d.1 ∧ d.1 ≤ 1200 ∧ d.2.2.length ≤ 1000 := by
  obtain ⟨x, hx, rfl⟩ := List.mem_map.1 (hL.mem_iff.1 h)
  obtain ⟨g1, g2, g3, g4, g5, g6⟩ := hg x hx
  have hm : mget es (kSort x.2.2, x.1.2) = some x.2 := by rw [← g1]; exact mget_some_of hd (show (x.1, x.2) ∈ es from hx)
  refine ⟨⟨kSort x.2.2, ?_, ?_, ?_⟩, g3, g4, g2⟩
  · unfold kSort
    repeat' split <;> omega
  · simp only [defOf]
    unfold tsides
    rw [hm]
  · simp only [defOf]
    rw [hm]
    rfl
end Go.Proofs.YtojelojbhcmiaaaDoor
