/-
  Appends as run equations, for the walks and for regions that draw their order. Conditions: the rows are the call's own; the sizes that are named.
-/
import Derived.Test.YtiaajpfebcccfaaRowPut
import Derived.Laws.AppendOwnNone
import Derived.Deep.AppendLies
import Derived.Deep.RegionLaw
namespace Go.Proofs.Ytiaajpfebcccfaa
open Go.RowKit

theorem Row.cap_le {α : Type} {w : World} {B sz n cap : Nat} {A : Option Addr} {e : TypeId} {enc : α → List Value} {l : List α} (h : Row w B e sz enc (.slice A n cap) l) : n ≤ cap := by
  rcases h.own.2 with ⟨e1, _⟩ | ⟨g, cap', cur, e1, _, _, hn, _⟩
  · injection e1 with _ a b; omega
  · injection e1 with _ a b; omega
theorem wpList_run {P : Program} {w w' : World} {ops : Array Oper} {rest : List Oper} {o : Oper} {a : Act} {Q : Exit → Act → World → Prop} (hgd : o.guard = none) (s x : Operand) (t : TypeId)
    (ho : o.op = .call { callee := .builtin .append, args := #[s, x], argTypes := #[t, t] }) {v v' y : Value} (hs : a.eval s = v) (hx : a.eval x = y)
    (hrun : (Builtin.append_ #[t, t] o.type #[v, y]).run P w = .ok v' w') (h : wpList P ops Q rest (a.put o.dst v') w') : wpList P ops Q (o :: rest) a w := by
  refine wpList_plain hgd fun K hK => ?_
  unfold Oper.wp
  simp [execOp, ho, resolve, invoke, builtin, hs, hx, hrun, Result.andThen]
  exact hK _ _ h
theorem drew_drew (w : World) (a b : Nat) : (w.drewN a).drewN b = w.drewN (a + b) := by simp [World.drewN, Nat.add_assoc]
theorem step_run {P : Program} {w w' : World} {ops : Array Oper} {o : Oper} {a : Act} {K : Act → World → Prop} {Q : Exit → Act → World → Prop} {E : Prop} (hgd : o.guard = none) (s x : Operand) (t : TypeId)
    (ho : o.op = .call { callee := .builtin .append, args := #[s, x], argTypes := #[t, t] }) {v v' y : Value} (hs : a.eval s = v) (hx : a.eval x = y)
    (hrun : (Builtin.append_ #[t, t] o.type #[v, y]).run P w = .ok v' w') (h : K (a.put o.dst v') w') : if Region.wanted o (yielded ops a.tmps) = true then Oper.wp P o a w K Q else E := by
  have hw : Region.wanted o (yielded ops a.tmps) = true := by simp [Region.wanted, hgd]
  rw [if_pos hw]
  unfold Oper.wp
  simp [execOp, ho, resolve, invoke, builtin, hs, hx, hrun, Result.andThen]
  exact h
theorem cell_made (w : World) (cs : Array Value) (t : TypeId) (i : Nat) (u : Value) (h : cs[i]? = some u) : (w.alloc (.cells cs t)).cell? ⟨w.heap.size, i, none⟩ = some u := by
  rw [cell_of_row _ _ i cs t (0, 0) (heap_alloc_new w _)]
  exact h
section
variable {P : Program} {α : Type} {w : World} {B sz : Nat} {e : TypeId} {enc : α → List Value}
/-- A slice literal of one element. -/
theorem Row.one (henc : ∀ x, (enc x).length = sz) (w : World) (x : α) (hB : B ≤ w.heap.size) : Row (w.alloc (.cells (enc x).toArray e)) B e sz enc (.slice (some ⟨w.heap.size, 0, none⟩) 1 1) [x] := by
  refine ⟨by simp [henc], .inr ⟨w.heap.size, 1, (enc x).toArray, rfl, hB, heap_alloc_new w _, Nat.le_refl _, by unfold maxLen; omega, by simp [henc], ?_⟩⟩
  rw [List.flatMap_cons, List.flatMap_nil, List.append_nil]
  simp only [List.length_cons, List.length_nil, Nat.zero_add, Nat.one_mul]
  exact List.take_of_length_le (by rw [henc]; exact Nat.le_refl _)
/-- One element is appended: the new slice lies in the old row, or in the block that is made now. -/
theorem Row.push {t : TypeId} (t' : TypeId) {i : TypeInfo} {z : Value} {bytes : Nat} (ht : P.underlying t = some (.slice e)) (hi : P.info? e = some i) (hz : i.zero = some z) (hsize : i.size = sz) (hby : i.bytes = bytes) (hzs : z.cells.size = sz) (hsz : 0 < sz)
    (henc : ∀ x, (enc x).length = sz) (h1 : ∀ x, ∀ u ∈ enc x, u.oneCell' = true) {v : Value} {l : List α} (h : Row w B e sz enc v l) (y : α) (g cap : Nat) (hnews : ∀ j u, (enc y)[j]? = some u → w.cell? ⟨g, j, none⟩ = some u)
    (h63 : l.length + 1 ≤ maxLen) (hbytes : (l.length + 1) * bytes ≤ 140737488355328) (hbase : B ≤ w.heap.size) :
    ∃ g' cap' w', (Builtin.append_ #[t, t] t' #[v, .slice (some ⟨g, 0, none⟩) 1 cap]).run P w = .ok (.slice (some ⟨g', 0, none⟩) (l.length + 1) cap') w' ∧ Row w' B e sz enc (.slice (some ⟨g', 0, none⟩) (l.length + 1) cap') (l ++ [y]) ∧ w.grownBy w' v.ownBlock ∧
      (v.ownBlock = some g' ∨ g' = w.heap.size) := by
  obtain ⟨g', cap', w', e1, e2, e3, e4, _⟩ := run_append_lies (P := P) w t t' B e i z sz bytes ht hi hz hsize hby hzs hsz v l.length (l.flatMap enc) h.own ⟨g, 0, none⟩ 1 cap (enc y) (by rw [henc, Nat.one_mul])
    (fun j u hu => by
      have : (⟨g, 0, none⟩ : Addr).add j = ⟨g, j, none⟩ := by unfold Addr.add; split <;> simp_all
      rw [this]
      exact hnews j u hu) (h1 y) (by omega) h63 hbytes hbase w.heap.size rfl
  refine ⟨g', cap', w', e1, ⟨?_⟩, e3, e4⟩
  rw [List.flatMap_append, List.length_append]
  simpa using e2
end
def allocs : World → List Obj → World
  | w, [] => w
  | w, o :: r => allocs (w.alloc o) r
theorem allocs_size : ∀ (w : World) (l : List Obj), (allocs w l).heap.size = w.heap.size + l.length
  | w, [] => rfl
  | w, o :: r => by rw [allocs, allocs_size, List.length_cons]; simp; omega
theorem allocs_below : ∀ (w : World) (l : List Obj), Below w.heap.size w (allocs w l)
  | w, [] => Below.refl _ _
  | w, o :: r => ((Below.refl w.heap.size w).alloc (Nat.le_refl _) o).trans ((allocs_below (w.alloc o) r).mono (by simp))
theorem allocs_at : ∀ (w : World) (l : List Obj) (i : Nat) (o : Obj), l[i]? = some o → (allocs w l).heap[w.heap.size + i]? = some o
  | w, [], i, o, h => by simp at h
  | w, x :: r, 0, o, h => by
    simp at h
    subst h
    rw [allocs, Nat.add_zero, (allocs_below (w.alloc x) r).block w.heap.size (by simp)]
    exact heap_alloc_new w _
  | w, x :: r, i + 1, o, h => by
    have := allocs_at (w.alloc x) r i o (by simpa using h)
    rw [allocs, show w.heap.size + (i + 1) = (w.alloc x).heap.size + i by simp; omega]
    exact this
theorem allocs_cell (w : World) (l : List Obj) (i j : Nat) (cs : Array Value) (t : TypeId) (u : Value) (h : l[i]? = some (.cells cs t)) (hu : cs[j]? = some u) : (allocs w l).cell? ⟨w.heap.size + i, j, none⟩ = some u := by
  rw [cell_of_row _ _ j cs t (0, 0) (allocs_at w l i _ h)]
  exact hu

end Go.Proofs.Ytiaajpfebcccfaa
