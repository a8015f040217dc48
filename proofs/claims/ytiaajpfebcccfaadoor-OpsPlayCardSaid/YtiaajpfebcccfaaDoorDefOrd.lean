/-
  Plain laws on the order of operators' definitions by name and type, and on sorting them: two sorted rows of the same definitions, no two alike in name and type, are one. No condition.
-/
import Derived.Test.YtiaajpfebcccfaaDoorDefsAt
import Derived.Sort.LotA
import Derived.Lib.Bytealg
import Derived.Lib.Small
import Derived.Shelf.SlSortCmp.Insertion
namespace Go.Proofs.YtiaajpfebcccfaaDoor
open Go.Sort Go.Lib

theorem cb_lt : ∀ a b : List UInt8, compareBytes a b < 0 ↔ a < b
  | [], [] => by simp [compareBytes]
  | [], _ :: _ => by simp [compareBytes]
  | _ :: _, [] => by simp [compareBytes]
  | a :: l, b :: r => by
    rw [List.cons_lt_cons_iff, compareBytes]
    by_cases h1 : a < b
    · simp [h1]
    · by_cases h2 : b < a
      · have h3 : a ≠ b := by rintro rfl; exact h1 h2
        simp [h1, h2, h3]
      · have h3 : a = b := UInt8.le_antisymm (UInt8.not_lt.1 h2) (UInt8.not_lt.1 h1)
        subst h3
        simpa [h1] using cb_lt l r
theorem cb_gt : ∀ a b : List UInt8, 0 < compareBytes a b ↔ b < a
  | [], [] => by simp [compareBytes]
  | [], _ :: _ => by simp [compareBytes]
  | _ :: _, [] => by simp [compareBytes]
  | a :: l, b :: r => by
    rw [List.cons_lt_cons_iff, compareBytes]
    by_cases h1 : a < b
    · have h2 : ¬ b < a := UInt8.lt_asymm h1
      have h3 : b ≠ a := by rintro rfl; exact h2 h1
      simp [h1, h2, h3]
    · by_cases h2 : b < a
      · simp [h1, h2]
      · have h3 : a = b := UInt8.le_antisymm (UInt8.not_lt.1 h2) (UInt8.not_lt.1 h1)
        subst h3
        simpa [h1] using cb_gt l r
theorem ls_tri (a b : List UInt8) : a < b ∨ a = b ∨ b < a := by
  rcases Classical.em (a < b) with h | h
  · exact .inl h
  · rcases Classical.em (b < a) with h2 | h2
    · exact .inr (.inr h2)
    · exact .inr (.inl (List.le_antisymm (List.not_lt.1 h2) (List.not_lt.1 h)))
theorem cb_eq (a b : List UInt8) : compareBytes a b = 0 ↔ a = b := by
  constructor
  · intro h
    rcases ls_tri a b with h1 | h1 | h1
    · have := (cb_lt a b).2 h1; omega
    · exact h1
    · have := (cb_gt a b).2 h1; omega
  · rintro rfl
    have h1 := (cb_lt a a).1
    have h2 := (cb_gt a a).1
    have h3 := List.lt_irrefl a
    have h4 : ¬ compareBytes a a < 0 := fun h => h3 (h1 h)
    have h5 : ¬ 0 < compareBytes a a := fun h => h3 (h2 h)
    omega

/-- How List's sort compares. -/
def defCmp (a b : DefT) : Int := if compareBytes a.2.2 b.2.2 ≠ 0 then compareBytes a.2.2 b.2.2 else compareInt a.2.1 b.2.1
def defLt (a b : DefT) : Prop := a.2.2 < b.2.2 ∨ (a.2.2 = b.2.2 ∧ a.2.1 < b.2.1)
theorem defCmp_lt (a b : DefT) : defCmp a b < 0 ↔ defLt a b := by
  unfold defCmp defLt
  by_cases h : compareBytes a.2.2 b.2.2 = 0
  · have h1 := (cb_eq _ _).1 h
    rw [if_neg (by simpa using h)]
    simp only [h1, false_or, true_and, List.lt_irrefl]
    unfold compareInt
    split
    · simp [*]
    · split <;> simp [*]
  · have h1 : a.2.2 ≠ b.2.2 := fun e => h ((cb_eq _ _).2 e)
    rw [if_pos h, cb_lt]
    simp [h1]
theorem defLt_irrefl (a : DefT) : ¬ defLt a a := by
  unfold defLt
  rintro (h | ⟨_, h⟩)
  · exact List.lt_irrefl _ h
  · omega
theorem defLt_trans {a b c : DefT} (h1 : defLt a b) (h2 : defLt b c) : defLt a c := by
  unfold defLt at *
  rcases h1 with h1 | ⟨h1, h3⟩
  · rcases h2 with h2 | ⟨h2, h4⟩
    · exact .inl (List.lt_trans h1 h2)
    · exact .inl (h2 ▸ h1)
  · rcases h2 with h2 | ⟨h2, h4⟩
    · exact .inl (h1 ▸ h2)
    · exact .inr ⟨h1.trans h2, by omega⟩
theorem defLt_tri (a b : DefT) : defLt a b ∨ defLt b a ∨ (a.2.2 = b.2.2 ∧ a.2.1 = b.2.1) := by
  unfold defLt
  rcases ls_tri a.2.2 b.2.2 with h | h | h
  · exact .inl (.inl h)
  · have : a.2.1 < b.2.1 ∨ a.2.1 = b.2.1 ∨ b.2.1 < a.2.1 := by omega
    rcases this with h1 | h1 | h1
    · exact .inl (.inr ⟨h, h1⟩)
    · exact .inr (.inr ⟨h, h1⟩)
    · exact .inr (.inl (.inr ⟨h.symm, h1⟩))
  · exact .inr (.inl (.inl h))
theorem defLt_ntrans {a b c : DefT} (h1 : ¬ defLt a b) (h2 : ¬ defLt b c) : ¬ defLt a c := by
  intro h
  rcases defLt_tri b c with h3 | h3 | ⟨h3, h4⟩
  · exact h2 h3
  · exact h1 (defLt_trans h h3)
  · apply h1
    unfold defLt at h ⊢
    rw [h3, h4]
    exact h
instance (a b : DefT) : Decidable (defLt a b) := by unfold defLt; infer_instance
theorem defSWO : SWO (Go.Proofs.ltOf defCmp) where
  irrefl x := by simp only [Go.Proofs.ltOf, defCmp_lt, decide_eq_false_iff_not]; exact defLt_irrefl x
  trans x y z := by simp only [Go.Proofs.ltOf, defCmp_lt, decide_eq_true_eq]; exact defLt_trans
  ntrans x y z := by simp only [Go.Proofs.ltOf, defCmp_lt, decide_eq_false_iff_not]; exact defLt_ntrans

def defLe (a b : DefT) : Prop := ¬ defLt b a
/-- Sorted, by name and type. -/
def Sorted (l : List DefT) : Prop := l.Pairwise defLe
/-- No two are alike in name and type. -/
def Apart (l : List DefT) : Prop := ∀ a ∈ l, ∀ b ∈ l, a.2.2 = b.2.2 → a.2.1 = b.2.1 → a = b
theorem sorted_one {l1 l2 : List DefT} (hp : l1.Perm l2) (h1 : Sorted l1) (h2 : Sorted l2) (ha : Apart l2) : l1 = l2 := by
  refine List.Perm.eq_of_pairwise (le := defLe) ?_ h1 h2 hp
  intro a b h3 h4 h5 h6
  rcases defLt_tri a b with h | h | ⟨h, h'⟩
  · exact absurd h h6
  · exact absurd h h5
  · exact ha a (hp.mem_iff.1 h3) b h4 h h'

theorem sorted_of_row {d d' : Array DefT} (hp : PermIn 0 d.size d d') (hs : SortedIn (Go.Proofs.ltOf defCmp) 0 d.size d') : d'.toList.Perm d.toList ∧ Sorted d'.toList := by
  obtain ⟨hsz, _, hperm⟩ := hp
  have e1 : d'.extract 0 d.size = d' := by rw [← hsz]; exact Array.extract_size
  rw [e1, Array.extract_size] at hperm
  refine ⟨hperm, ?_⟩
  unfold Sorted
  rw [List.pairwise_iff_getElem]
  intro i j hi hj hij
  have hi' : i < d'.size := by simpa using hi
  have hj' : j < d'.size := by simpa using hj
  have := hs i j (Nat.zero_le _) hij (by omega)
  rw [getElem!_pos d' j hj', getElem!_pos d' i hi'] at this
  simp only [Go.Proofs.ltOf, decide_eq_false_iff_not, defCmp_lt] at this
  simpa [defLe] using this

/-- The definitions of the table's entries. -/
def defOf (x : OpK × OpV) : DefT := (x.2.1, x.2.2, x.1.2)
theorem apart_defs {es : List (OpK × OpV)} (hd : (es.map (·.1)).Nodup) (hg : ∀ x ∈ es, goodOp x) : Apart (es.map defOf) := by
  intro a ha b hb h1 h2
  obtain ⟨x, hx, rfl⟩ := List.mem_map.1 ha
  obtain ⟨y, hy, rfl⟩ := List.mem_map.1 hb
  simp only [defOf] at h1 h2
  have e : x.1 = y.1 := by
    obtain ⟨g1, _⟩ := hg x hx
    obtain ⟨g2, _⟩ := hg y hy
    exact Prod.ext (by rw [g1, g2, h2]) h1
  have h3 := mget_some_of hd (show (x.1, x.2) ∈ es from hx)
  have h4 := mget_some_of hd (show (y.1, y.2) ∈ es from hy)
  rw [e, h4] at h3
  unfold defOf
  rw [e, Option.some.inj h3]
end Go.Proofs.YtiaajpfebcccfaaDoor
