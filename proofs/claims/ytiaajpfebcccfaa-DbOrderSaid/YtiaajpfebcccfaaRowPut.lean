/-
  Rows of the call's own: one cell of one element set; the row without its last. Condition: the element's count of cells.
-/
import Derived.Test.YtiaajpfebcccfaaRow
namespace Go.Proofs.Ytiaajpfebcccfaa
open Go.RowKit Go.Deep

section
variable {w : World} {α : Type} {B sz : Nat} {e : TypeId} {enc : α → List Value} {v : Value} {l : List α}

theorem flatMap_set (henc : ∀ x, (enc x).length = sz) : ∀ (l : List α) (i j : Nat) (x y : α) (u : Value), l[i]? = some x → j < sz → enc y = (enc x).set j u → (l.flatMap enc).set (i * sz + j) u = (l.set i y).flatMap enc
  | [], i, j, x, y, u, h, _, _ => by simp at h
  | z :: r, 0, j, x, y, u, h, hj, he => by
    simp at h
    subst h
    rw [Nat.zero_mul, Nat.zero_add, List.set_cons_zero, List.flatMap_cons, List.flatMap_cons, List.set_append_left _ _ (by rw [henc]; exact hj), he]
  | z :: r, i + 1, j, x, y, u, h, hj, he => by
    simp at h
    rw [List.set_cons_succ, List.flatMap_cons, List.flatMap_cons, List.set_append_right _ _ (by rw [henc, Nat.add_mul]; omega), henc, show (i + 1) * sz + j - sz = i * sz + j by rw [Nat.add_mul]; omega, flatMap_set henc r i j x y u h hj he]

/-- A store of one cell into the row. -/
theorem Row.put (henc : ∀ x, (enc x).length = sz) {g n cap : Nat} (h : Row w B e sz enc (.slice (some ⟨g, 0, none⟩) n cap) l) {i j : Nat} {x y : α} {u : Value} (hx : l[i]? = some x) (hj : j < sz) (hy : enc y = (enc x).set j u) :
    Row (w.setCell ⟨g, i * sz + j, none⟩ u) B e sz enc (.slice (some ⟨g, 0, none⟩) n cap) (l.set i y) := by
  obtain ⟨h1, h2⟩ := h.own
  rcases h2 with ⟨h0, _⟩ | ⟨g', cap', cur, hv, hg, hh, hn, hcap, hsz, htake⟩
  · cases h0
  · cases hv
    refine ⟨by rw [length_flatMap_enc henc], .inr ⟨g, cap, cur.setIfInBounds (i * sz + j) u, by rw [List.length_set], hg, ?_, by rw [List.length_set]; exact hn, hcap, by rw [Array.size_setIfInBounds]; exact hsz, ?_⟩⟩
    · simp [World.setCell, Array.getElem?_modify, hh]
    · rw [List.length_set, Array.toList_setIfInBounds, List.take_set, htake, flatMap_set henc l i j x y u hx hj hy]

/-- A store elsewhere. -/
theorem Row.away (h : Row w B e sz enc v l) {p : Addr} (u : Value) (hp : ∀ k, v.ownBlock = some k → k ≠ p.block) : Row (w.setCell p u) B e sz enc v l :=
  h.keep fun k hk => blk_setCell_other _ _ _ _ (hp k hk)

/-- The row without its last element. -/
theorem Row.front (henc : ∀ x, (enc x).length = sz) {g cap : Nat} {x : α} (h : Row w B e sz enc (.slice (some ⟨g, 0, none⟩) (l.length + 1) cap) (l ++ [x])) : Row w B e sz enc (.slice (some ⟨g, 0, none⟩) l.length cap) l := by
  have h1 := h.own
  rw [List.length_append, List.flatMap_append] at h1
  exact ⟨ownsRow_pop (length_flatMap_enc henc l) h1⟩

theorem wpList_rows {P : Program} {ops : Array Oper} {rest : List Oper} {o : Oper} {a : Act} {Q : Exit → Act → World → Prop} (hgd : o.guard = none) (s x : Operand) (t : TypeId)
    (ho : o.op = .call { callee := .builtin .append, args := #[s, x], argTypes := #[t, t] }) (w : World) (B : Nat)
    (e : TypeId) (i : TypeInfo) (z : Value) (sz bytes : Nat) (enc : α → List Value) (ht : P.underlying t = some (.slice e)) (hi : P.info? e = some i) (hz : i.zero = some z)
    (hsize : i.size = sz) (hby : i.bytes = bytes) (hzs : z.cells.size = sz) (hsz : 0 < sz) (henc : ∀ x, (enc x).length = sz) (h1 : ∀ x, ∀ u ∈ enc x, u.oneCell' = true)
    (v : Value) (l ys : List α) (hs : a.eval s = v) (h : Row w B e sz enc v l)
    (g off cap : Nat) (hx : a.eval x = .slice (some ⟨g, off, none⟩) ys.length cap) (hnews : ∀ j u, (ys.flatMap enc)[j]? = some u → w.cell? ⟨g, off + j, none⟩ = some u)
    (h63 : l.length + ys.length ≤ maxLen) (hbytes : (l.length + ys.length) * bytes ≤ 140737488355328) (hbase : B ≤ w.heap.size)
    (hK : ∀ v' w', Row w' B e sz enc v' (l ++ ys) → w.grownBy w' v.ownBlock → wpList P ops Q rest (a.put o.dst v') w') : wpList P ops Q (o :: rest) a w := by
  refine wpList_append_own w hgd s x t ho B e i z sz bytes ht hi hz hsize hby hzs hsz v l.length (l.flatMap enc) hs h.own ⟨g, off, none⟩ ys.length cap (ys.flatMap enc) hx (length_flatMap_enc henc ys) ?_ ?_ h63 hbytes hbase ?_
  · intro j u hu
    have : (⟨g, off, none⟩ : Addr).add j = ⟨g, off + j, none⟩ := by unfold Addr.add; split <;> simp_all
    rw [this]
    exact hnews j u hu
  · intro u hu
    rw [List.mem_flatMap] at hu
    obtain ⟨y, -, hy⟩ := hu
    exact h1 y u hy
  · intro v' w' h2 h3 _
    refine hK v' w' ⟨?_⟩ h3
    rw [List.flatMap_append, List.length_append]
    exact h2
end
end Go.Proofs.Ytiaajpfebcccfaa
