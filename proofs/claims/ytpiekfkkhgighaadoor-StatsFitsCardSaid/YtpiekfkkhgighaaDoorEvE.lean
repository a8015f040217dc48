/-
  Slices of events appended to a row of the call's own; what law25's great answers of any slice. Conditions: the slices can be read; the sizes that are named.
-/
import Derived.Test.YtpiekfkkhgighaaDoorEvD
import Derived.Laws.AppendOwnNone
namespace Go.Proofs.YtpiekfkkhgighaaDoor
open Go.RowKit
set_option maxRecDepth 100000

/-- A slice of events as an argument: nil only if it is empty. -/
structure EvArg (w : World) (A : Option Addr) (n c : Nat) (l : List Ev) : Prop where
  evs : EvsAt w w.heap.size A n l
  nil : A = none → n = 0 ∧ c = 0
theorem EvArg.later {w w' : World} {A : Option Addr} {n c : Nat} {l : List Ev} (h : EvArg w A n c l) (hb : Below w.heap.size w w') : EvArg w' A n c l := ⟨(h.evs.below hb).up hb.size, h.nil⟩

theorem great_full (w : World) (A : Option Addr) (n c : Nat) (l : List Ev) (hl : EvsAt w w.heap.size A n l) (hn2 : (n : Int) ≤ 9223372036854775807) (hs : ∀ e ∈ l, (e.text.length : Int) ≤ 9223372036854775807) :
    Calls Tryd.prog 25 #[.slice A n c] w fun e w' => e = .returned (.bool (greatE l)) ∧ Below w.heap.size w w' := by
  by_cases h : 300 < n
  · have e : greatE l = true := decide_eq_true (.inl (by rw [hl.len]; exact h))
    rw [e]
    exact great_big w A n c l hl h hn2 hs
  · exact great_any w A n c l hl (by omega) hs

theorem encEvs_len (l : List Ev) : (l.flatMap encEv).length = l.length * 2 := length_flatMap_enc encEv_len l
theorem wpList_evs {P : Program} {ops : Array Oper} {rest : List Oper} {o : Oper} {a : Act} {Q : Exit → Act → World → Prop} (hgd : o.guard = none) (s x : Operand) (t : TypeId)
    (ho : o.op = .call { callee := .builtin .append, args := #[s, x], argTypes := #[t, t] }) (w : World) (B : Nat)
    (e : TypeId) (i : TypeInfo) (z : Value) (ht : P.underlying t = some (.slice e)) (hi : P.info? e = some i) (hz : i.zero = some z)
    (hsize : i.size = 2) (hby : i.bytes = 24) (hzs : z.cells.size = 2)
    (v : Value) (l ys : List Ev) (hs : a.eval s = v) (h : Row w B e 2 encEv v l)
    (A : Option Addr) (n c : Nat) (hx : a.eval x = .slice A n c) (H : Nat) (hy : EvsAt w H A n ys) (hnil : A = none → n = 0 ∧ c = 0)
    (h63 : l.length + n ≤ 100000) (hbase : B ≤ w.heap.size)
    (hK : ∀ v' w', Row w' B e 2 encEv v' (l ++ ys) → w.grownBy w' v.ownBlock → wpList P ops Q rest (a.put o.dst v') w') : wpList P ops Q (o :: rest) a w := by
  cases A with
  | none =>
    obtain ⟨rfl, rfl⟩ := hnil rfl
    have hys : ys = [] := List.eq_nil_of_length_eq_zero hy.len
    refine wpList_append_own_none hgd s x t ho B e i 2 ht hi v l.length (l.flatMap encEv) hs h.own hx (hK v w (by rw [hys, List.append_nil]; exact h) ⟨rfl, rfl, rfl, Nat.le_refl _, fun _ _ _ => rfl⟩)
  | some ad =>
    refine wpList_append_own w hgd s x t ho B e i z 2 24 ht hi hz hsize hby hzs (by decide) v l.length (l.flatMap encEv) hs h.own ad n c (ys.flatMap encEv) hx (by rw [encEvs_len, hy.len]) ?_ ?_ (by unfold maxLen; omega) (by omega) hbase ?_
    · intro j u hu
      have hj : j < ys.length * 2 := by
        have := (List.getElem?_eq_some_iff.1 hu).1
        rwa [encEvs_len] at this
      have hdiv : j / 2 < ys.length := by omega
      have hxk := List.getElem?_eq_getElem hdiv
      generalize ys[j / 2] = y at hxk
      obtain ⟨b, off, hA, _, c0, c1⟩ := hy.at' (j / 2) y hxk
      injection hA with hA
      subst hA
      have hadd : (⟨b, off, none⟩ : Addr).add j = ⟨b, off + j, none⟩ := by unfold Addr.add; split <;> simp_all
      rw [hadd]
      rcases (show j % 2 = 0 ∨ j % 2 = 1 by omega) with hm | hm
      · have e1 := flatMap_get encEv_len ys (j / 2) 0 y _ hxk rfl
        rw [show j / 2 * 2 + 0 = j by omega, hu] at e1
        rw [show off + j = off + j / 2 * 2 by omega, c0, e1]
      · have e1 := flatMap_get encEv_len ys (j / 2) 1 y _ hxk rfl
        rw [show j / 2 * 2 + 1 = j by omega, hu] at e1
        rw [show off + j = off + j / 2 * 2 + 1 by omega, c1, e1]
    · intro u hu
      rw [List.mem_flatMap] at hu
      obtain ⟨y, -, hy⟩ := hu
      exact encEv_one y u hy
    · intro v' w' h2 h3 _
      refine hK v' w' ⟨?_⟩ h3
      rw [List.flatMap_append, List.length_append, hy.len]
      exact h2
theorem Row.empty (w : World) (B : Nat) (t : TypeId) (hB : B ≤ w.heap.size) : Row (w.alloc (.cells #[] t)) B t 2 encEv (.slice (some ⟨w.heap.size, 0, none⟩) 0 0) [] :=
  ⟨World.ownsRow_made w #[] 0 hB (Nat.zero_le _) rfl⟩
theorem EvsAt.front {w : World} {B : Nat} {A : Option Addr} {n m : Nat} {l r : List Ev} (h : EvsAt w B A n (l ++ r)) (hl : l.length = m) : EvsAt w B A m l :=
  ⟨hl, fun i e he => h.at' i e (by rw [List.getElem?_append_left (List.getElem?_eq_some_iff.1 he).1]; exact he)⟩
end Go.Proofs.YtpiekfkkhgighaaDoor
