import Derived.WalkSmall
import Derived.Deep.OwnRows
namespace Go.Proofs.YtjdnigepnfeboaaGreatDoor
open Go.RowKit
structure Fr (S : Nat → Prop) (w w' : World) : Prop where
 os : w'.os = w.os
 tape : w'.tape = w.tape
 output : w'.output = w.output
 size : w.heap.size ≤ w'.heap.size
 block : ∀ k, k < w.heap.size → ¬ S k → w'.heap[k]? = w.heap[k]?
section
variable {S S' : Nat → Prop} {w w' w'' : World}
theorem Fr.refl (S : Nat → Prop) (w : World) : Fr S w w := ⟨rfl, rfl, rfl, Nat.le_refl _, fun _ _ _ => rfl⟩
theorem Fr.trans (h : Fr S w w') (k : Fr S w' w'') : Fr S w w'' :=
 ⟨k.os.trans h.os, k.tape.trans h.tape, k.output.trans h.output, Nat.le_trans h.size k.size, fun i hi hs => (k.block i (Nat.lt_of_lt_of_le hi h.size) hs).trans (h.block i hi hs)⟩
theorem Fr.mono (h : Fr S w w') (hs : ∀ k, k < w.heap.size → S k → S' k) : Fr S' w w' := ⟨h.os, h.tape, h.output, h.size, fun i hi hn => h.block i hi (fun e => hn (hs i hi e))⟩
theorem Fr.weak (h : Fr S w w') (hs : ∀ k, S k → S' k) : Fr S' w w' := h.mono fun k _ => hs k
theorem Fr.of_below (S : Nat → Prop) (h : Below w.heap.size w w') : Fr S w w' := ⟨h.os, h.tape, h.output, h.size, fun i hi _ => h.block i hi⟩
theorem Fr.below (h : Fr S w w') {B : Nat} (hB : B ≤ w.heap.size) (hs : ∀ k, k < B → ¬ S k) : Below B w w' := ⟨h.os, h.tape, h.output, h.size, fun i hi => h.block i (by omega) (hs i hi)⟩
theorem Fr.alloc (h : Fr S w w') (o : Obj) : Fr S w (w'.alloc o) := h.trans (.of_below S ((Below.refl _ _).alloc (Nat.le_refl _) o))
theorem Fr.drew (h : Fr S w w') : Fr S w w'.drew := ⟨h.os, h.tape, h.output, h.size, h.block⟩
theorem Fr.setCell (h : Fr S w w') {p : Addr} (hp : S p.block ∨ w.heap.size ≤ p.block) (u : Value) : Fr S w (w'.setCell p u) :=
 ⟨h.os, h.tape, h.output, by simpa [World.setCell] using h.size, fun k hk hs => by
  rw [Below.heap_setCell _ _ _ _ (fun e => by subst e; exact hp.elim (fun h => hs h) (fun h => absurd h (by omega)))]
  exact h.block k hk hs⟩
theorem Fr.grown {row : Option Nat} (h : Fr S w w') (hg : w'.grownBy w'' row) (hr : ∀ g, row = some g → S g ∨ w.heap.size ≤ g) : Fr S w w'' :=
 ⟨hg.os.trans h.os, hg.tape.trans h.tape, hg.output.trans h.output, Nat.le_trans h.size hg.size, fun k hk hs => by
  rw [hg.block k (Nat.lt_of_lt_of_le hk h.size) (fun e => (hr k e.symm).elim (fun h => hs h) (fun h => absurd h (by omega)))]
  exact h.block k hk hs⟩
theorem Fr.step (h : Fr S w w') (k : Below w'.heap.size w' w'') : Fr S w w'' := h.trans (.of_below S k)
theorem Fr.cell (h : Fr S w w') {p : Addr} (hp : p.block < w.heap.size) (hs : ¬ S p.block) : w'.cell? p = w.cell? p := World.cell?_of_block (w := w) (h.block p.block hp hs)
end
end Go.Proofs.YtjdnigepnfeboaaGreatDoor
namespace Go.Proofs.YtjdnigepnfeboaaGreatDoor
open Go.RowKit
section
variable {P : Program} {w w' : World} {α : Type} {B sz : Nat} {e : TypeId} {enc : α → List Value} {v : Value} {l : List α}
structure Row (w : World) (B : Nat) (e : TypeId) (sz : Nat) (enc : α → List Value) (v : Value) (l : List α) : Prop where
 own : w.ownsRow B e sz v l.length (l.flatMap enc)
def sliceLen : Value → Nat
 | .slice _ n _ => n
 | _ => 0
theorem Row.nil (w : World) (B : Nat) (e : TypeId) (sz : Nat) (enc : α → List Value) : Row w B e sz enc (.slice none 0 0) [] := ⟨World.ownsRow_nil w B e sz⟩
theorem Row.kept {row : Option Nat} (h : Row w B e sz enc v l) (hg : w.grownBy w' row) (hne : v.ownBlock = none ∨ v.ownBlock ≠ row) : Row w' B e sz enc v l := ⟨h.own.kept hg hne⟩
theorem Row.alloc (h : Row w B e sz enc v l) (o : Obj) : Row (w.alloc o) B e sz enc v l := ⟨h.own.alloc o⟩
theorem Row.lt (h : Row w B e sz enc v l) : ∀ k, v.ownBlock = some k → B ≤ k ∧ k < w.heap.size := h.own.lt
theorem Row.keep (h : Row w B e sz enc v l) (hb : ∀ k, v.ownBlock = some k → w'.heap[k]? = w.heap[k]?) : Row w' B e sz enc v l := by
 refine ⟨h.own.1, ?_⟩
 rcases h.own.2 with hn | ⟨g, cap, cur, rfl, hg, hgg, rest⟩
 ·exact .inl hn
 ·exact .inr ⟨g, cap, cur, rfl, hg, by rw [hb g rfl]; exact hgg, rest⟩
theorem Row.later (h : Row w B e sz enc v l) (hb : Below w.heap.size w w') : Row w' B e sz enc v l := h.keep fun k hk => hb.block k (h.lt k hk).2
theorem Row.down {B' : Nat} (h : Row w B e sz enc v l) (hB : B' ≤ B) : Row w B' e sz enc v l := by
 refine ⟨h.own.1, ?_⟩
 rcases h.own.2 with hn | ⟨g, cap, cur, hv, hg, rest⟩
 ·exact .inl hn
 ·exact .inr ⟨g, cap, cur, hv, Nat.le_trans hB hg, rest⟩
theorem Row.len (h : Row w B e sz enc v l) : sliceLen v = l.length := by
 rcases h.own.2 with ⟨rfl, h2⟩ | ⟨g, cap, cur, rfl, _⟩
 ·exact h2.symm
 ·rfl
theorem Row.made {t : TypeId} {i : TypeInfo} {z : Value} (ht : P.underlying t = some (.slice e)) (hi : P.info? e = some i) (hz : i.zero = some z) (hsize : i.size = sz) (kl kc : IntKind) (c : Nat)
    (hbytes : i.bytes * c ≤ 281474976710656) (h63 : c ≤ maxLen) (hbase : B ≤ w.heap.size) :
    ∃ w', (Instr.makeSlice t (.int kl 0) (.int kc (c : Int))).run P w = .ok (.slice (some ⟨w.heap.size, 0, none⟩) 0 c) w' ∧ Row w' B e sz enc (.slice (some ⟨w.heap.size, 0, none⟩) 0 c) [] ∧ w.grownBy w' none := by
 obtain ⟨w', h1, h2, h3⟩ := run_make_own (P := P) w B t e i z sz ht hi hz hsize kl kc c hbytes h63 hbase
 exact ⟨w', h1, ⟨h2⟩, h3⟩
theorem length_flatMap_enc (henc : ∀ x, (enc x).length = sz) : ∀ l : List α, (l.flatMap enc).length = l.length * sz
 | [] => by simp
 | x :: r => by rw [List.flatMap_cons, List.length_append, henc, length_flatMap_enc henc r, List.length_cons, Nat.add_mul]; omega
theorem flatMap_get (henc : ∀ x, (enc x).length = sz) : ∀ (l : List α) (i j : Nat) (x : α) (u : Value), l[i]? = some x → (enc x)[j]? = some u → (l.flatMap enc)[i * sz + j]? = some u
 | [], i, j, x, u, h, _ => by simp at h
 | y :: r, 0, j, x, u, h, h2 => by
  simp at h
  subst h
  rw [List.flatMap_cons, Nat.zero_mul, Nat.zero_add, List.getElem?_append_left (List.getElem?_eq_some_iff.1 h2).1]
  exact h2
 | y :: r, i + 1, j, x, u, h, h2 => by
  simp at h
  rw [List.flatMap_cons, List.getElem?_append_right (by rw [henc, Nat.add_mul]; omega), henc, show (i + 1) * sz + j - sz = i * sz + j by rw [Nat.add_mul]; omega]
  exact flatMap_get henc r i j x u h h2
theorem Row.cells (henc : ∀ x, (enc x).length = sz) (h : Row w B e sz enc v l) (hne : l ≠ []) :
    ∃ g cap, v = .slice (some ⟨g, 0, none⟩) l.length cap ∧ B ≤ g ∧ g < w.heap.size ∧ l.length ≤ cap ∧ ∀ i x, l[i]? = some x → ∀ j u, (enc x)[j]? = some u → w.cell? ⟨g, i * sz + j, none⟩ = some u ∧ w.frozen? ⟨g, i * sz + j, none⟩ = false := by
 rcases h.own.2 with ⟨rfl, h2⟩ | ⟨g, cap, cur, rfl, hg, hgg, hc, _, hcs, htk⟩
 ·exact absurd (List.eq_nil_of_length_eq_zero h2) hne
 ·refine ⟨g, cap, rfl, hg, (Array.getElem?_eq_some_iff.1 hgg).1, hc, ?_⟩
  intro i x hx j u hu
  have h3 := flatMap_get henc l i j x u hx hu
  rw [← htk, List.getElem?_take] at h3
  split at h3
  ·rename_i hlt
   constructor
   ·rw [cell_of_row w g _ cur e (0, 0) hgg]
    simpa using h3
   ·simp [World.frozen?, hgg]
  ·cases h3
theorem Row.shape (h : Row w B e sz enc v l) : ∃ A cap, v = .slice A l.length cap := by
 rcases h.own.2 with ⟨rfl, h2⟩ | ⟨g, cap, cur, rfl, _⟩
 ·exact ⟨none, 0, by rw [h2]⟩
 ·exact ⟨_, cap, rfl⟩
theorem wpList_row {ops : Array Oper} {rest : List Oper} {o : Oper} {a : Act} {Q : Exit → Act → World → Prop} (hgd : o.guard = none) (s x : Operand) (t : TypeId)
    (ho : o.op = .call { callee := .builtin .append, args := #[s, x], argTypes := #[t, t] }) (w : World) (B : Nat)
    (e : TypeId) (i : TypeInfo) (z : Value) (sz bytes : Nat) (enc : α → List Value) (ht : P.underlying t = some (.slice e)) (hi : P.info? e = some i) (hz : i.zero = some z)
    (hsize : i.size = sz) (hby : i.bytes = bytes) (hzs : z.cells.size = sz) (hsz : 0 < sz) (henc : ∀ x, (enc x).length = sz) (h1 : ∀ x, ∀ u ∈ enc x, u.oneCell' = true)
    (v : Value) (l : List α) (y : α) (hs : a.eval s = v) (h : Row w B e sz enc v l)
    (g cap : Nat) (hx : a.eval x = .slice (some ⟨g, 0, none⟩) 1 cap) (hnews : ∀ j u, (enc y)[j]? = some u → w.cell? ⟨g, j, none⟩ = some u)
    (h63 : l.length + 1 ≤ maxLen) (hbytes : (l.length + 1) * bytes ≤ 140737488355328) (hbase : B ≤ w.heap.size)
    (hK : ∀ v' w', Row w' B e sz enc v' (l ++ [y]) → w.grownBy w' v.ownBlock → wpList P ops Q rest (a.put o.dst v') w') : wpList P ops Q (o :: rest) a w := by
 refine wpList_append_own w hgd s x t ho B e i z sz bytes ht hi hz hsize hby hzs hsz v l.length (l.flatMap enc) hs h.own ⟨g, 0, none⟩ 1 cap (enc y) hx (by rw [henc, Nat.one_mul]) ?_ (h1 y) h63 hbytes hbase ?_
 ·intro j u hu
  have : (⟨g, 0, none⟩ : Addr).add j = ⟨g, j, none⟩ := by unfold Addr.add; split <;> simp_all
  rw [this]
  exact hnews j u hu
 ·intro v' w' h2 h3 _
  refine hK v' w' ⟨?_⟩ h3
  rw [List.flatMap_append, List.length_append]
  simpa using h2
end
end Go.Proofs.YtjdnigepnfeboaaGreatDoor
