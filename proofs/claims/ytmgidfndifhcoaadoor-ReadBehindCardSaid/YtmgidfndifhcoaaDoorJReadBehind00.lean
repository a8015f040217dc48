import Derived.Test.YtmgidfndifhcoaaDoorJReadBrackets32
import Derived.Test.YtmgidfndifhcoaaDoorJReadBrackets23
import Derived.Test.YtmgidfndifhcoaaDoorJReadBrackets17
import Derived.Test.YtmgidfndifhcoaaDoorJReadBrackets07
import Derived.Test.YtmgidfndifhcoaaDoorJReadBrackets30
import Derived.Test.YtmgidfndifhcoaaDoorJReadBrackets08
import Derived.BigQuiet
import Derived.Deep.Heap
import Derived.Test.YtmgidfndifhcoaaDoorJReadBrackets18
/-
  What stands behind a clause's Stop, and operators that are none of its tokens, turn nothing of what is read. Plain laws; no condition.
-/
namespace Go.Proofs.YtmgidfndifhcoaaDoor

/-- The same tokens up to a Stop at m; the same operators as far as these tokens go. -/
structure Upto (o1 o2 : OpsF) (ts1 ts2 : List Tok) (m : Nat) : Prop where
  same : ∀ i, i ≤ m → peekF ts2 i = peekF ts1 i
  pre : ∀ i, i ≤ m → o2.pre (peekF ts1 i).s = o1.pre (peekF ts1 i).s
  inf : ∀ i, i ≤ m → o2.inf (peekF ts1 i).s = o1.inf (peekF ts1 i).s
  post : ∀ i, i ≤ m → o2.post (peekF ts1 i).s = o1.post (peekF ts1 i).s
  stop : (peekF ts1 m).kind = 7
def LeO (m : Nat) (x : Except Nat RdS) : Prop := ∀ s1, x = .ok s1 → s1.at' ≤ m

section
variable {o1 o2 : OpsF} {ts1 ts2 : List Tok} {m : Nat}
theorem Upto.mark (h : Upto o1 o2 ts1 ts2 m) {i : Nat} (hi : i ≤ m) (c : UInt8) : isP ts2 i c = isP ts1 i c := by
  unfold isP
  rw [h.same i hi]
theorem Upto.lt (h : Upto o1 o2 ts1 ts2 m) {i : Nat} (hi : i ≤ m) (hk : (peekF ts1 i).kind ≠ 7) : i < m := by
  rcases Nat.lt_or_ge i m with h1 | h1
  · exact h1
  · exfalso
    apply hk
    rw [show i = m by omega]
    exact h.stop
theorem Upto.mark_lt (h : Upto o1 o2 ts1 ts2 m) {i : Nat} (hi : i ≤ m) {c : UInt8} (hp : isP ts1 i c = true) : i < m := by
  apply h.lt hi
  unfold isP at hp
  simp at hp
  omega
theorem Upto.expect (h : Upto o1 o2 ts1 ts2 m) {s : RdS} (hi : s.at' ≤ m) (c : UInt8) : s.expect ts2 c = s.expect ts1 c ∧ LeO m (s.expect ts1 c) := by
  unfold RdS.expect
  rw [h.mark hi]
  refine ⟨rfl, fun s1 h1 => ?_⟩
  split at h1
  · rename_i hp
    injection h1 with h1
    subst h1
    exact h.mark_lt hi hp
  · cases h1
theorem Upto.expect_map (h : Upto o1 o2 ts1 ts2 m) {s : RdS} (hi : s.at' ≤ m) (c : UInt8) (f : RdS → RdS) (hf : ∀ x : RdS, (f x).at' = x.at') : (s.expect ts2 c).map f = (s.expect ts1 c).map f ∧ LeO m ((s.expect ts1 c).map f) := by
  obtain ⟨e1, e2⟩ := h.expect hi c
  rw [e1]
  refine ⟨rfl, fun s1 h1 => ?_⟩
  cases hx : s.expect ts1 c with
  | error a => rw [hx] at h1; cases h1
  | ok x =>
    rw [hx] at h1
    have h1' : f x = s1 := by injection h1
    subst h1'
    rw [hf]
    exact e2 x hx
theorem Upto.args (h : Upto o1 o2 ts1 ts2 m) {s : RdS} (hi : s.at' ≤ m) (n : List UInt8) : argsF ts2 s n = argsF ts1 s n ∧ LeO m (argsF ts1 s n) := by
  obtain ⟨e1, e2⟩ := h.expect hi 40
  unfold argsF
  rw [e1]
  refine ⟨rfl, fun s1 h1 => ?_⟩
  cases hx : s.expect ts1 40 with
  | error a => rw [hx] at h1; cases h1
  | ok x =>
    rw [hx] at h1
    injection h1 with h1
    subst h1
    exact e2 x hx
theorem Upto.pair (h : Upto o1 o2 ts1 ts2 m) {s : RdS} (hi : s.at' + 1 < m) (c : UInt8) : pairF ts2 s c = pairF ts1 s c ∧ LeO m (pairF ts1 s c) := by
  unfold pairF
  rw [h.same s.at' (by omega), h.same (s.at' + 1) (by omega)]
  obtain ⟨e1, e2⟩ := h.args (s := s.go 2) (show s.at' + 2 ≤ m by omega) ((peekF ts1 s.at').s ++ [c])
  dsimp only
  split
  · exact ⟨e1, e2⟩
  · refine ⟨rfl, fun s1 h1 => ?_⟩
    injection h1 with h1
    subst h1
    exact hi
theorem Upto.punct (h : Upto o1 o2 ts1 ts2 m) {s : RdS} (hi : s.at' < m) (x : List UInt8) : punctF ts2 s x = punctF ts1 s x ∧ LeO m (punctF ts1 s x) := by
  have go1 : ∀ f k, LeO m (Except.ok ((s.go 1).await f k)) := fun f k s1 h1 => by
    injection h1 with h1
    subst h1
    exact hi
  unfold punctF
  rw [h.mark (i := s.at' + 1) hi, h.mark (i := s.at' + 1) hi]
  split
  · exact ⟨rfl, go1 _ _⟩
  · split
    · split
      · rename_i hp
        exact h.pair (h.mark_lt hi hp) 93
      · exact ⟨rfl, go1 _ _⟩
    · split
      · split
        · rename_i hp
          exact h.pair (h.mark_lt hi hp) 125
        · exact ⟨rfl, go1 _ _⟩
      · exact ⟨rfl, fun s1 h1 => by cases h1⟩
theorem Upto.begins (h : Upto o1 o2 ts1 ts2 m) {i : Nat} (hi : i ≤ m) : beginsF o2 (peekF ts1 i) = beginsF o1 (peekF ts1 i) := by
  unfold beginsF
  rw [h.pre i hi, h.inf i hi, h.post i hi]
theorem Upto.atom (h : Upto o1 o2 ts1 ts2 m) {s : RdS} (hi : s.at' < m) : atomF o2 ts2 s (peekF ts1 s.at') = atomF o1 ts1 s (peekF ts1 s.at') ∧ LeO m (atomF o1 ts1 s (peekF ts1 s.at')) := by
  unfold atomF
  rw [h.same (s.at' + 1) hi, h.pre s.at' (by omega)]
  dsimp only
  rw [h.begins (i := s.at' + 1) hi]
  obtain ⟨e1, e2⟩ := h.args (s := s.go 1) (show s.at' + 1 ≤ m by omega) (peekF ts1 s.at').s
  rw [e1]
  refine ⟨rfl, ?_⟩
  split
  · rename_i hp
    intro s1 h1
    injection h1 with h1
    subst h1
    exact h.lt (i := s.at' + 1) hi (by omega)
  · split
    · exact e2
    · split
      · intro s1 h1
        injection h1 with h1
        subst h1
        exact hi
      · intro s1 h1
        injection h1 with h1
        subst h1
        exact hi
theorem Upto.primary (h : Upto o1 o2 ts1 ts2 m) {s : RdS} (hi : s.at' ≤ m) : primaryF o2 ts2 s = primaryF o1 ts1 s ∧ LeO m (primaryF o1 ts1 s) := by
  unfold primaryF
  rw [h.same s.at' hi]
  dsimp only
  split
  · rename_i hk
    have hl := h.lt hi (by omega)
    refine ⟨rfl, ?_⟩
    split
    · intro s1 h1
      cases h1
    · intro s1 h1
      injection h1 with h1
      subst h1
      exact hl
  · split
    · rename_i hk
      have hl := h.lt hi (by omega)
      refine ⟨rfl, fun s1 h1 => ?_⟩
      injection h1 with h1
      subst h1
      rw [(var_at (s.go 1) (peekF ts1 s.at').s).1]
      exact hl
    · split
      · rename_i hk
        have hl := h.lt hi (by omega)
        refine ⟨rfl, fun s1 h1 => ?_⟩
        injection h1 with h1
        subst h1
        exact hl
      · split
        · rename_i hk
          exact h.punct (h.lt hi (by omega)) _
        · split
          · rename_i hk
            exact h.atom (h.lt hi (by omega))
          · exact ⟨rfl, fun s1 h1 => by cases h1⟩
theorem Upto.operator (h : Upto o1 o2 ts1 ts2 m) {s : RdS} (hi : s.at' ≤ m) : operatorF o2 ts2 s = operatorF o1 ts1 s ∧ ∀ s1, operatorF o1 ts1 s = some s1 → s1.at' ≤ m := by
  have hlt : ¬((peekF ts1 s.at').kind ≠ 1 ∧ (peekF ts1 s.at').kind ≠ 2 ∧ isP ts1 s.at' 44 = false) → s.at' < m := by
    intro hn
    apply h.lt hi
    intro h7
    apply hn
    refine ⟨by omega, by omega, ?_⟩
    unfold isP
    rw [h7]
    rfl
  unfold operatorF
  rw [h.same s.at' hi, h.mark hi]
  dsimp only
  rw [h.inf s.at' hi, h.post s.at' hi]
  refine ⟨rfl, fun s1 h1 => ?_⟩
  split at h1
  · cases h1
  · rename_i hn
    have hl := hlt hn
    split at h1
    · injection h1 with h1
      subst h1
      exact hl
    · split at h1
      · injection h1 with h1
        subst h1
        exact hl
      · cases h1
theorem Upto.backs (h : Upto o1 o2 ts1 ts2 m) {s : RdS} (hi : s.at' ≤ m) (f : WaitF) : backG ts2 s f = backG ts1 s f ∧ LeO m (backG ts1 s f) := by
  unfold backG
  rw [h.mark hi 44, h.mark hi 124]
  dsimp only
  have ex : ∀ (c : UInt8) (g : RdS → RdS), (∀ x : RdS, (g x).at' = x.at') → (s.expect ts2 c).map g = (s.expect ts1 c).map g ∧ LeO m ((s.expect ts1 c).map g) := fun c g hg => h.expect_map hi c g hg
  have ok : ∀ x : RdS, x.at' = s.at' → LeO m (.ok x) := fun x hx s1 h1 => by
    injection h1 with h1
    subst h1
    omega
  have go1 : ∀ {c : UInt8}, isP ts1 s.at' c = true → ∀ f k, LeO m (.ok ((s.go 1).again f k)) := fun hp f k s1 h1 => by
    injection h1 with h1
    subst h1
    exact h.mark_lt hi hp
  split
  · exact ex 41 _ fun x => rfl
  · split
    · exact ex 125 _ fun x => rfl
    · split
      · exact ⟨rfl, ok _ rfl⟩
      · split
        · exact ⟨rfl, ok _ rfl⟩
        · split
          · split
            · rename_i hp
              exact ⟨rfl, go1 hp _ _⟩
            · exact ex 41 _ fun x => rfl
          · split
            · split
              · rename_i hp
                exact ⟨rfl, go1 hp _ _⟩
              · split
                · rename_i hp
                  exact ⟨rfl, go1 hp _ _⟩
                · exact ex 93 _ fun x => rfl
            · split
              · exact ex 93 _ fun x => rfl
              · exact ⟨rfl, ok _ rfl⟩
theorem Upto.round (h : Upto o1 o2 ts1 ts2 m) {s : RdS} (hi : s.at' ≤ m) : roundF o2 ts2 s = roundF o1 ts1 s ∧ ∀ s1, roundF o1 ts1 s = .on s1 → s1.at' ≤ m := by
  unfold roundF
  obtain ⟨p1, p2⟩ := h.primary hi
  obtain ⟨q1, q2⟩ := h.operator hi
  rw [p1, q1, h.same s.at' hi]
  split
  · exact ⟨rfl, fun s1 h1 => p2 s1 (toO_on h1)⟩
  · split
    · rename_i x hx
      refine ⟨rfl, fun s1 h1 => ?_⟩
      injection h1 with h1
      subst h1
      exact q2 _ hx
    · split
      · rename_i f r hw
        obtain ⟨b1, b2⟩ := h.backs (s := { s with wait := r, most := f.most }) hi f
        unfold backF
        rw [b1]
        exact ⟨rfl, fun s1 h1 => b2 s1 (toO_on h1)⟩
      · refine ⟨rfl, fun s1 h1 => ?_⟩
        split at h1
        · cases h1
        · cases h1
theorem Upto.run (h : Upto o1 o2 ts1 ts2 m) : ∀ (n : Nat) (s : RdS), leftF ts1 s ≤ n → s.at' ≤ m → endF o2 ts2 s = endF o1 ts1 s
  | n, s, hn, hi => by
    obtain ⟨r1, r2⟩ := h.round hi
    rw [end_step o2, end_step o1, r1]
    cases hr : roundF o1 ts1 s with
    | on s1 =>
      have hl := round_less hr
      match n, hn with
      | 0, hn => omega
      | n + 1, hn => exact Upto.run h n s1 (by omega) (r2 s1 hr)
    | fin s1 => rfl
    | bad a => rfl
theorem upto_read (h : Upto o1 o2 ts1 ts2 m) {c : ClauseF} (hr : readF o1 ts1 ((0 : Nat) : Int) = (c, 0)) : readF o2 ts2 ((0 : Nat) : Int) = (c, 0) := by
  obtain ⟨hl, hk, sf, he, h1, h2, h3, rfl⟩ := read_ok hr
  have he2 := h.run _ (startF 0) (Nat.le_refl _) (Nat.zero_le _)
  have hs := h.same 0 (Nat.zero_le _)
  have hk2 : (peekF ts2 0).kind ≠ 0 := by rw [hs]; exact hk
  rw [read_mk (peek_lt hk2) hk2 (he2.trans he) h1 h2 h3, hs]
end
/-- The reader comes to its end at a Stop. -/
theorem end_stop (o : OpsF) (ts : List Tok) : ∀ (n : Nat) (s sf : RdS), leftF ts s ≤ n → endF o ts s = .fin sf → (peekF ts sf.at').kind = 7
  | n, s, sf, hn, he => by
    rw [end_step] at he
    cases hr : roundF o ts s with
    | on s1 =>
      rw [hr] at he
      have hl := round_less hr
      match n, hn with
      | 0, hn => omega
      | n + 1, hn => exact end_stop o ts n s1 sf (by omega) he
    | fin s1 =>
      rw [hr] at he
      injection he with he
      subst he
      obtain ⟨rfl, _, _, _, h7⟩ := round_fin hr
      exact h7
    | bad a => rw [hr] at he; cases he
theorem peek_mem {ts : List Tok} {i : Nat} (h : i < ts.length) : peekF ts i ∈ ts := by
  unfold peekF
  rw [List.getD_eq_getElem?_getD, List.getElem?_eq_getElem h]
  exact List.getElem_mem h
/-- What stands behind a text's Stop turns nothing. -/
theorem behind_same {o : OpsF} {u b : List UInt8} {ts1 : List Tok} {ln : Int} {c : ClauseF} (hu : Ends u) (h : lexB u = (ts1, ln, 0)) (hr : readF o ts1 ((0 : Nat) : Int) = (c, 0)) (hn : c.next = (ts1.length : Int) - 1) :
    readF o (lexB (u ++ b)).1 ((0 : Nat) : Int) = (c, 0) ∧ c.next ≤ ((lexB (u ++ b)).1.length : Int) := by
  obtain ⟨ts0, e0, e1⟩ := lex_app b (u.length + 1) u 1 true ts1 ln hu (Nat.lt_succ_self _) h
  have e2 : lexB (u ++ b) = lexF (u.length + 1 + b.length) (u ++ b) 1 true := by
    unfold lexB
    rw [List.length_append]
    congr 1
    omega
  rw [e2, e1]
  have hlen : ts1.length = ts0.length + 1 := by rw [e0, List.length_append]; rfl
  refine ⟨?_, by rw [hn, List.length_append]; omega⟩
  obtain ⟨_, _, sf, he, _, _, _, rfl⟩ := read_ok hr
  have h7 := end_stop o ts1 _ _ _ (Nat.le_refl _) he
  have hm : sf.at' + 1 = ts0.length := by
    have : (sf.at' : Int) + 1 = (ts1.length : Int) - 1 := hn
    omega
  refine upto_read (m := sf.at') ⟨fun i hi => ?_, fun _ _ => rfl, fun _ _ => rfl, fun _ _ => rfl, h7⟩ hr
  rw [e0]
  unfold peekF
  rw [List.getD_eq_getElem?_getD, List.getD_eq_getElem?_getD, List.getElem?_append_left (by omega), List.getElem?_append_left (by omega)]
/-- Operators that no token names turn nothing. -/
theorem strange_same {o o2 : OpsF} {ts : List Tok} {c : ClauseF} (hr : readF o ts ((0 : Nat) : Int) = (c, 0)) (ha : ∀ t ∈ ts, o2.pre t.s = o.pre t.s ∧ o2.inf t.s = o.inf t.s ∧ o2.post t.s = o.post t.s) :
    readF o2 ts ((0 : Nat) : Int) = (c, 0) := by
  obtain ⟨_, _, sf, he, _, _, _, rfl⟩ := read_ok hr
  have h7 := end_stop o ts _ _ _ (Nat.le_refl _) he
  have hlt : sf.at' < ts.length := peek_lt (by rw [h7]; decide)
  exact upto_read (m := sf.at') ⟨fun _ _ => rfl, fun i hi => (ha _ (peek_mem (by omega))).1, fun i hi => (ha _ (peek_mem (by omega))).2.1, fun i hi => (ha _ (peek_mem (by omega))).2.2, h7⟩ hr
end Go.Proofs.YtmgidfndifhcoaaDoor
/-
  From and the document's Same, of clauses: a clause as the document tells it; the same clauses are the same. Conditions: the names can be read and are few; the terms are small.
-/
namespace Go.Proofs.YtmgidfndifhcoaaDoor
open Go.RowKit Go.Maps
set_option maxRecDepth 100000

theorem bind_info2 : ∃ i z, Tryd.prog.info? 99 = some i ∧ i.zero = some z ∧ i.size = 2 ∧ i.bytes = 24 ∧ z.cells.size = 2 := by
  refine ⟨_, _, rfl, rfl, ?_, ?_, ?_⟩ <;> kernel_rfl
theorem encB_len2 (x : List UInt8 × Int) : (encB x).length = 2 := rfl
theorem cell_allocF (w : World) (o : Obj) (cs : Array Value) (t : TypeId) (i : Nat) (u : Value) (h : cs[i]? = some u) : ((w.alloc o).alloc (.cells cs t)).cell? ⟨w.heap.size + 1, i, none⟩ = some u := by
  rw [cell_of_row _ (w.heap.size + 1) i _ t (0, 0) (by have := heap_alloc_new (w.alloc o) (.cells cs t); rwa [World.size_alloc] at this)]
  exact h
/-- Names that can be read. -/
structure NmAt (w : World) (B : Nat) (A : Option Addr) (n : Nat) (l : List (List UInt8 × Int)) : Prop where
  len : l.length = n
  at' : ∀ (i : Nat) e, l[i]? = some e → ∃ b, A = some ⟨b, 0, none⟩ ∧ b < B ∧ w.cell? ⟨b, i * 2, none⟩ = some (.string ⟨e.1.toArray⟩) ∧ w.cell? ⟨b, i * 2 + 1, none⟩ = some (.int .i64 e.2)
theorem NmAt.of {w : World} {B : Nat} {t : TypeId} {A : Option Addr} {n c : Nat} {l : List (List UInt8 × Int)} (h : Row w B t 2 encB (.slice A n c) l) : NmAt w w.heap.size A n l := by
  refine ⟨h.len.symm, fun i e hi => ?_⟩
  obtain ⟨g, cap, hv, h1, h2, h3, h4⟩ := h.cells encB_len2 (by rintro rfl; simp at hi)
  injection hv with hA _ _
  exact ⟨g, hA, h2, (h4 i e hi 0 _ rfl).1, (h4 i e hi 1 _ rfl).1⟩
theorem NmAt.keep {w w' : World} {B B' : Nat} {A : Option Addr} {n : Nat} {l : List (List UInt8 × Int)} (h : NmAt w B A n l) (hB : B ≤ B') (hb : ∀ k, k < B → w'.heap[k]? = w.heap[k]?) : NmAt w' B' A n l := by
  refine ⟨h.len, fun i e hi => ?_⟩
  obtain ⟨b, e1, e2, e3, e4⟩ := h.at' i e hi
  exact ⟨b, e1, by omega, (World.cell?_of_block (a := ⟨b, i * 2, none⟩) (hb b e2)).trans e3, (World.cell?_of_block (a := ⟨b, i * 2 + 1, none⟩) (hb b e2)).trans e4⟩
theorem NmAt.later {w w' : World} {A : Option Addr} {n : Nat} {l : List (List UInt8 × Int)} (h : NmAt w w.heap.size A n l) (hb : Below w.heap.size w w') : NmAt w' w'.heap.size A n l := h.keep hb.size hb.block

structure FromInv (w : World) (x : TV) (fl fx : Int) (l : List (List UInt8 × Int)) (k : Nat) (wr : World) : Prop where
  below : Below w.heap.size w wr
  out : ∃ A c, Row wr (w.heap.size + 1 + 1 + 1) 99 2 encB (.slice A k c) (l.take k) ∧ wr.heap[w.heap.size + 1 + 1]? = some (.cells #[.int .i64 x.k, .int .i64 x.n, .string ⟨x.s.toArray⟩, .slice x.A x.len x.cap, .slice A k c, .int .i64 fl, .int .i64 fx] 49 (0, 0))
  res : wr.heap[w.heap.size + 1]? = some (.cells #[.int .i64 0, .int .i64 0, .string ⟨#[]⟩, .slice none 0 0, .slice none 0 0, .int .i64 0, .int .i64 0] 49 (0, 0))
  size : w.heap.size + 1 + 1 + 1 ≤ wr.heap.size

theorem blk_set_at {w : World} {b i : Nat} {cs : Array Value} {t : TypeId} {fr : Nat × Nat} (h : w.heap[b]? = some (.cells cs t fr)) (v : Value) : (w.setCell ⟨b, i, none⟩ v).heap[b]? = some (.cells (cs.setIfInBounds i v) t fr) := by
  simp [World.setCell, Array.getElem?_modify, h]
theorem FromInv.step {w wr w5 : World} {x : TV} {fl fx : Int} {l : List (List UInt8 × Int)} {k : Nat} (h : FromInv w x fl fx l k wr) {A A5 : Option Addr} {c c5 : Nat} {o1 o2 : Obj} {e : List UInt8 × Int}
    (hrow : Row wr (w.heap.size + 1 + 1 + 1) 99 2 encB (.slice A k c) (l.take k)) (hblk : wr.heap[w.heap.size + 1 + 1]? = some (.cells #[.int .i64 x.k, .int .i64 x.n, .string ⟨x.s.toArray⟩, .slice x.A x.len x.cap, .slice A k c, .int .i64 fl, .int .i64 fx] 49 (0, 0)))
    (hsn : l.take (k + 1) = l.take k ++ [e])
    (hrow5 : Row w5 (w.heap.size + 1 + 1 + 1) 99 2 encB (.slice A5 (k + 1) c5) (l.take k ++ [e])) (hg : ((wr.alloc o1).alloc o2).grownBy w5 (Value.slice A k c).ownBlock) :
    FromInv w x fl fx l (k + 1) (w5.setCell ⟨w.heap.size + 1 + 1, 4, none⟩ (.slice A5 (k + 1) c5)) ∧ w5.heap[w.heap.size + 1 + 1]? = some (.cells #[.int .i64 x.k, .int .i64 x.n, .string ⟨x.s.toArray⟩, .slice x.A x.len x.cap, .slice A k c, .int .i64 fl, .int .i64 fx] 49 (0, 0)) := by
  have hs := h.size
  have hF : Fr (fun k => w.heap.size + 1 + 1 + 1 ≤ k) wr w5 := ((((Fr.of_below (fun k => w.heap.size + 1 + 1 + 1 ≤ k) (Below.refl _ _)).alloc _).alloc _).grown hg fun g e => .inl (hrow.lt g e).1)
  have h2 : w5.heap[w.heap.size + 1 + 1]? = _ := (hF.block (w.heap.size + 1 + 1) (by omega) (by omega)).trans hblk
  have h1 : w5.heap[w.heap.size + 1]? = _ := (hF.block (w.heap.size + 1) (by omega) (by omega)).trans h.res
  have hb : Below w.heap.size w w5 := h.below.trans (hF.below (by omega) fun k hk => by omega)
  have hsz : wr.heap.size ≤ w5.heap.size := hF.size
  refine ⟨⟨hb.setCell (p := ⟨w.heap.size + 1 + 1, 4, none⟩) (by simp only; omega) _, ⟨A5, c5, ?_, ?_⟩, ?_, ?_⟩, h2⟩
  · rw [hsn]
    exact hrow5.away _ fun k hk => by have := (hrow5.lt k hk).1; simp only; omega
  · exact blk_set_at h2 _
  · rw [Go.Deep.blk_setCell_other _ _ _ _ (by simp)]
    exact h1
  · rw [World.size_setCell]
    omega

theorem FromInv.start (w : World) (x : TV) (sv : Value) (fl fx : Int) (l : List (List UInt8 × Int)) : FromInv w x fl fx l 0 (((w.alloc (.cells #[.int .i64 x.k, .int .i64 x.n, .string ⟨x.s.toArray⟩, .slice x.A x.len x.cap, sv, .int .i64 fl, .int .i64 fx] 28)).alloc
    (.cells #[.int .i64 0, .int .i64 0, .string ⟨#[]⟩, .slice none 0 0, .slice none 0 0, .int .i64 0, .int .i64 0] 49)).alloc (.cells #[.int .i64 x.k, .int .i64 x.n, .string ⟨x.s.toArray⟩, .slice x.A x.len x.cap, .slice none 0 0, .int .i64 fl, .int .i64 fx] 49)) := by
  refine ⟨(((Below.refl _ _).alloc (Nat.le_refl _) _).alloc (by simp) _).alloc (by simp; omega) _, ⟨none, 0, Row.nil _ _ _ _ _, ?_⟩, ?_, by simp⟩
  · have := heap_alloc_new ((w.alloc (.cells #[.int .i64 x.k, .int .i64 x.n, .string ⟨x.s.toArray⟩, .slice x.A x.len x.cap, sv, .int .i64 fl, .int .i64 fx] 28)).alloc (.cells #[.int .i64 0, .int .i64 0, .string ⟨#[]⟩, .slice none 0 0, .slice none 0 0, .int .i64 0, .int .i64 0] 49)) (.cells #[.int .i64 x.k, .int .i64 x.n, .string ⟨x.s.toArray⟩, .slice x.A x.len x.cap, .slice none 0 0, .int .i64 fl, .int .i64 fx] 49)
    rw [World.size_alloc, World.size_alloc] at this
    exact this
  · rw [Below.heap_alloc _ _ _ (by simp)]
    have := heap_alloc_new (w.alloc (.cells #[.int .i64 x.k, .int .i64 x.n, .string ⟨x.s.toArray⟩, .slice x.A x.len x.cap, sv, .int .i64 fl, .int .i64 fx] 28)) (.cells #[.int .i64 0, .int .i64 0, .string ⟨#[]⟩, .slice none 0 0, .slice none 0 0, .int .i64 0, .int .i64 0] 49)
    rw [World.size_alloc] at this
    exact this

set_option maxHeartbeats 8000000 in
theorem from06_any (w : World) (x : TV) (A : Option Addr) (n c : Nat) (fl fx : Int) (l : List (List UInt8 × Int)) (hl : NmAt w w.heap.size A n l) (hn : n ≤ 100000) :
    Calls Tryd.prog 15 #[clV x (.slice A n c) fl fx] w fun e w' => ∃ A' c', e = .returned (clV x (.slice A' n c') fl fx) ∧ NmAt w' w'.heap.size A' n l ∧ Below w.heap.size w w' := by
  have HL := Lib.hid hl
  have HLN := Lib.hid hl.len
  clear hl
  obtain ⟨i0, z0, hi0, hz0, hz1, hz2, hz3⟩ := bind_info2
  unfold clV
  go_enter Tryd.func15, Tryd.ntmps15
  go_wp2_with fail
  go_loopw [16] (fun i wr => ∃ k : Nat, k ≤ n ∧ i = .int .i64 k ∧ Hid (FromInv w x fl fx l k wr)) (fun i _ => n - (intOf i).toNat)
  case atStart =>
    exact ⟨0, Nat.zero_le _, rfl, Lib.hid (FromInv.start w x _ fl fx l)⟩
  case round =>
    obtain ⟨k, hk, rfl, HI⟩ := hrel
    have hwr := HI.out.size
    have hlt2 : w.heap.size + 1 + 1 < wr.heap.size := Nat.lt_of_succ_le hwr
    by_cases hlt : k < n
    · have hkl : k < l.length := by rw [HLN.out]; exact hlt
      have hx := List.getElem?_eq_getElem hkl
      have htk : (l.take k).length = k := by rw [List.length_take]; omega
      have hsn := List.take_succ_eq_append_getElem hkl
      generalize l[k] = e at hx hsn
      obtain ⟨b, hA, hb, c0, c1⟩ := HL.out.at' k e hx
      rw [← HI.out.below.cell (p := ⟨b, k * 2, none⟩) hb] at c0
      rw [← HI.out.below.cell (p := ⟨b, k * 2 + 1, none⟩) hb] at c1
      have hlt' : (k : Int) < (n : Int) := by omega
      obtain ⟨Ar, cr, hrow, hblk⟩ := HI.out.out
      obtain ⟨y0, y1, y2, y3, y4, y5, y6, yf⟩ := seven_at hblk
      have HROW := Lib.hid hrow
      have HBLK := Lib.hid hblk
      have HSN := Lib.hid hsn
      have HTK := Lib.hid htk
      clear hx hsn hrow hblk htk
      subst hA
      have HSZ := Lib.hid hwr
      go_wp2_with (at_builtin; refine wpList_row rfl _ _ 47 rfl _ (w.heap.size + 1 + 1 + 1) 99 i0 z0 2 24 encB Tryd.underlying47 hi0 hz0 hz1 hz2 hz3 (by decide) encB_len2 encB_one _ (l.take k) e rfl ((HROW.out.alloc _).alloc _) _ _ rfl (fun j u hu => cell_allocF _ _ _ _ j u (by rw [← Array.getElem?_toList]; exact hu)) (by rw [HTK.out]; unfold maxLen; omega) (by rw [HTK.out]; omega) (Nat.le_trans HSZ.out (by simp; omega)) ?_)
      intro v' w5 hrow5 hg5
      obtain ⟨A5, c5, rfl⟩ := hrow5.shape
      rw [show (l.take k ++ [e]).length = k + 1 by rw [List.length_append, HTK.out]; rfl] at hrow5 ⊢
      obtain ⟨hI5, hblk5⟩ := HI.out.step HROW.out HBLK.out HSN.out hrow5 hg5
      have HI5 := Lib.hid hI5
      clear hI5 hrow5 hg5 y0 y1 y2 y3 y4 y5 y6 yf
      obtain ⟨y0, y1, y2, y3, y4, y5, y6, yf⟩ := seven_at hblk5
      clear hblk5
      go_wp2_with fail
      go_roundw
      case rel => exact ⟨k + 1, hlt, by go_num, HI5⟩
      case measure => simp [intOf]; omega
    · have hkn : k = n := by omega
      subst hkn
      obtain ⟨Ar, cr, hrow, hblk⟩ := HI.out.out
      have e1 : l.take k = l := List.take_of_length_le (by rw [HLN.out]; exact Nat.le_refl _)
      rw [e1] at hrow
      clear e1
      obtain ⟨y0, y1, y2, y3, y4, y5, y6, yf⟩ := seven_at hblk
      obtain ⟨z0, z1, z2, z3, z4, z5, z6, zf⟩ := seven_at HI.out.res
      have HROW := Lib.hid hrow
      clear hrow hblk yf
      go_wp2_with fail
      have hC7 := blk_set7 HI.out.res (.int .i64 x.k) (.int .i64 x.n) (.string ⟨x.s.toArray⟩) (.slice x.A x.len x.cap) (.slice Ar k cr) (.int .i64 fl) (.int .i64 fx)
      have hb7 := cl_below HI.out.below (w.heap.size + 1) (by omega) (.int .i64 x.k) (.int .i64 x.n) (.string ⟨x.s.toArray⟩) (.slice x.A x.len x.cap) (.slice Ar k cr) (.int .i64 fl) (.int .i64 fx)
      have hr7 : Row _ _ _ _ _ _ _ := HROW.out.keep fun g hg => blk_set7_ne (w := wr) (b := w.heap.size + 1) (.int .i64 x.k) (.int .i64 x.n) (.string ⟨x.s.toArray⟩) (.slice x.A x.len x.cap) (.slice Ar k cr) (.int .i64 fl) (.int .i64 fx) (by have := (HROW.out.lt g hg).1; omega)
      clear z0 z1 z2 z3 z4 z5 z6 zf
      obtain ⟨z0, z1, z2, z3, z4, z5, z6, zf⟩ := seven_at hC7
      exact ⟨rfl, _, by simp [results, Tryd.results15, go_sem, z0, z1, z2, z3, z4, z5, z6], Ar, cr, rfl, NmAt.of hr7, hb7⟩

set_option maxHeartbeats 8000000 in
theorem same06_any (w : World) (x y : TV) (t : Tm) (A1 A2 : Option Addr) (n c1 c2 : Nat) (fl fx : Int) (l : List (List UInt8 × Int)) (hx : TermAt w w.heap.size x t) (hy : TermAt w w.heap.size y t) (hs : t.size ≤ 10000000)
    (h1 : NmAt w w.heap.size A1 n l) (h2 : NmAt w w.heap.size A2 n l) (hn : n ≤ 100000) :
    Calls Tryd.prog 14 #[clV x (.slice A1 n c1) fl fx, clV y (.slice A2 n c2) fl fx] w fun e w' => e = .returned (.bool true) ∧ Below w.heap.size w w' := by
  have HX := Lib.hid hx
  have HY := Lib.hid hy
  have HL1 := Lib.hid h1
  have HL2 := Lib.hid h2
  have HLN := Lib.hid h1.len
  have HS := Lib.hid hs
  clear hx hy h1 h2 hs
  have e1 : (fl != fl) = false := by simp
  have e2 : (fx != fx) = false := by simp
  have e3 : ((n : Int) != (n : Int)) = false := by simp
  unfold clV
  go_enter Tryd.func14, Tryd.ntmps14
  go_wp2_with fail
  have hb2 := ((Below.refl w.heap.size w).alloc (Nat.le_refl _) (.cells #[.int .i64 x.k, .int .i64 x.n, .string ⟨x.s.toArray⟩, .slice x.A x.len x.cap, .slice A1 n c1, .int .i64 fl, .int .i64 fx] 49)).alloc (by simp) (.cells #[.int .i64 y.k, .int .i64 y.n, .string ⟨y.s.toArray⟩, .slice y.A y.len y.cap, .slice A2 n c2, .int .i64 fl, .int .i64 fx] 49)
  have hk1 := (Below.heap_alloc (w.alloc (.cells #[.int .i64 x.k, .int .i64 x.n, .string ⟨x.s.toArray⟩, .slice x.A x.len x.cap, .slice A1 n c1, .int .i64 fl, .int .i64 fx] 49)) (.cells #[.int .i64 y.k, .int .i64 y.n, .string ⟨y.s.toArray⟩, .slice y.A y.len y.cap, .slice A2 n c2, .int .i64 fl, .int .i64 fx] 49) w.heap.size (by simp)).trans (heap_alloc_new w _)
  have hk2 := heap_alloc_new (w.alloc (.cells #[.int .i64 x.k, .int .i64 x.n, .string ⟨x.s.toArray⟩, .slice x.A x.len x.cap, .slice A1 n c1, .int .i64 fl, .int .i64 fx] 49)) (.cells #[.int .i64 y.k, .int .i64 y.n, .string ⟨y.s.toArray⟩, .slice y.A y.len y.cap, .slice A2 n c2, .int .i64 fl, .int .i64 fx] 49)
  rw [World.size_alloc] at hk2
  have hsz2 : ((w.alloc (.cells #[.int .i64 x.k, .int .i64 x.n, .string ⟨x.s.toArray⟩, .slice x.A x.len x.cap, .slice A1 n c1, .int .i64 fl, .int .i64 fx] 49)).alloc (.cells #[.int .i64 y.k, .int .i64 y.n, .string ⟨y.s.toArray⟩, .slice y.A y.len y.cap, .slice A2 n c2, .int .i64 fl, .int .i64 fx] 49)).heap.size = w.heap.size + 1 + 1 := by simp
  generalize ((w.alloc (.cells #[.int .i64 x.k, .int .i64 x.n, .string ⟨x.s.toArray⟩, .slice x.A x.len x.cap, .slice A1 n c1, .int .i64 fl, .int .i64 fx] 49)).alloc (.cells #[.int .i64 y.k, .int .i64 y.n, .string ⟨y.s.toArray⟩, .slice y.A y.len y.cap, .slice A2 n c2, .int .i64 fl, .int .i64 fx] 49)) = W at hb2 hk1 hk2 hsz2 ⊢
  refine (same_any t.size t t x y W (Nat.le_refl _) HS.out HS.out (HX.out.later hb2) (HY.out.later hb2)).mono ?_
  rintro e w1 ⟨rfl, hb1⟩
  rw [sameTm_self]
  have hq1 := (hb1.block w.heap.size (by omega)).trans hk1
  have hq2 := (hb1.block (w.heap.size + 1) (by omega)).trans hk2
  have HB := Lib.hid (hb2.trans (hb1.mono hb2.size))
  obtain ⟨y0, y1, y2, y3, y4, y5, y6, -⟩ := seven_at hq1
  obtain ⟨z0, z1, z2, z3, z4, z5, z6, -⟩ := seven_at hq2
  clear hb2 hk1 hk2 hsz2 hb1 hq1 hq2
  go_wp2_with fail
  go_loopw [38] (fun i wr => ∃ k nq : Nat, k ≤ n ∧ i = .int .i64 k ∧ wr = w1.drewN nq) (fun i _ => n - (intOf i).toNat)
  case atStart => exact ⟨0, 0, Nat.zero_le _, rfl, rfl⟩
  case round =>
    obtain ⟨k, nq, hk, rfl, rfl⟩ := hrel
    by_cases hlt : k < n
    · have hkl : k < l.length := by rw [HLN.out]; exact hlt
      have hx := List.getElem?_eq_getElem hkl
      generalize l[k] = e at hx
      obtain ⟨b, hA1, hb, c0, c1⟩ := HL1.out.at' k e hx
      obtain ⟨b', hA2, hb', d0, d1⟩ := HL2.out.at' k e hx
      rw [← HB.out.cell (p := ⟨b, k * 2, none⟩) hb] at c0
      rw [← HB.out.cell (p := ⟨b, k * 2 + 1, none⟩) hb] at c1
      rw [← HB.out.cell (p := ⟨b', k * 2, none⟩) hb'] at d0
      rw [← HB.out.cell (p := ⟨b', k * 2 + 1, none⟩) hb'] at d1
      have hlt' : (k : Int) < (n : Int) := by omega
      clear hx e1 e2 e3
      subst hA1 hA2
      go_wp2_with fail
      go_quiet (fail)
      go_wp2
      go_roundw
      case rel => exact ⟨k + 1, _, hlt, by go_num, rfl⟩
      case measure => simp [intOf]; omega
    · have hkn : k = n := by omega
      subst hkn
      clear e1 e2 e3
      go_wp2
      go_ret
      exact ⟨rfl, below_drewN' HB.out nq⟩
end Go.Proofs.YtmgidfndifhcoaaDoor
/-
  Variables are numbered as they come, and named once each, in what is read. Plain laws; no condition.
-/
namespace Go.Proofs.YtmgidfndifhcoaaDoor

mutual
/-- A term's variables, as they stand. -/
def varsT : Tm → List Int | .mk k n _ l => (if k = 1 then [n] else []) ++ varsL l
def varsL : List Tm → List Int | [] => [] | t :: r => varsT t ++ varsL r
end
theorem varsL_app : ∀ l r : List Tm, varsL (l ++ r) = varsL l ++ varsL r
  | [], r => by simp [varsL]
  | t :: l, r => by rw [List.cons_append, varsL, varsL, varsL_app l r, List.append_assoc]
theorem varsL_one (t : Tm) : varsL [t] = varsT t := by simp [varsL]
theorem vars_comp (s : List UInt8) (l : List Tm) : varsT (compT s l) = varsL l := by simp [compT, varsT]
theorem vars_atom (s : List UInt8) : varsT (atomT s) = [] := by simp [atomT, varsT, varsL]
theorem vars_int (n : Int) : varsT (intT n) = [] := by simp [intT, varsT, varsL]
theorem vars_var (n : Int) : varsT (varT n) = [n] := by simp [varT, varsT, varsL]
theorem vars_list : ∀ (l : List Tm) (t : Tm), varsT (listT l t) = varsL l ++ varsT t
  | [], t => by simp [listT, varsL]
  | x :: l, t => by
    rw [show listT (x :: l) t = compT [46] [x, listT l t] from rfl, vars_comp, varsL, varsL_one, vars_list l t, varsL, List.append_assoc]
theorem vars_ints : ∀ s : List UInt8, varsL (s.map fun c => intT c.toNat) = []
  | [] => rfl
  | c :: s => by rw [List.map_cons, varsL, vars_ints s, vars_int]; rfl
/-- What stands in what waits, from the bottom. -/
def occW : List WaitF → List Int
  | [] => []
  | f :: r => occW r ++ varsL f.l
def RdS.occ (s : RdS) : List Int := occW s.wait ++ (if s.hv = true then varsT s.t else [])
/-- Each number once, as they come. -/
def firsts : List Int → List Int → List Int
  | seen, [] => seen
  | seen, n :: r => if n ∈ seen then firsts seen r else firsts (seen ++ [n]) r
theorem firsts_app : ∀ (l r seen : List Int), firsts seen (l ++ r) = firsts (firsts seen l) r
  | [], _, _ => rfl
  | n :: l, r, seen => by
    rw [List.cons_append, firsts, firsts]
    split
    · exact firsts_app l r seen
    · exact firsts_app l r _
def upTo (k : Nat) : List Int := (List.range k).map fun (i : Nat) => (i : Int)
theorem upTo_succ (k : Nat) : upTo (k + 1) = upTo k ++ [(k : Int)] := by unfold upTo; rw [List.range_succ, List.map_append]; rfl
theorem mem_upTo (k : Nat) (n : Int) : n ∈ upTo k ↔ 0 ≤ n ∧ n < (k : Int) := by
  unfold upTo
  rw [List.mem_map]
  constructor
  · rintro ⟨i, hi, rfl⟩
    have := List.mem_range.1 hi
    omega
  · rintro ⟨h1, h2⟩
    exact ⟨n.toNat, List.mem_range.2 (by omega), by omega⟩
/-- What holds of the numbers as they are given. -/
structure NumOk (s : RdS) : Prop where
  cnt : ∃ k : Nat, s.cnt = (k : Int) ∧ firsts [] s.occ = upTo k
  same : s.names = s.vars
  low : ∀ y ∈ s.vars, 0 ≤ y.2 ∧ y.2 < s.cnt
  up : s.vars.Pairwise (fun a b => a.2 < b.2)
  once : s.vars.Pairwise (fun a b => a.1 ≠ b.1)
  blank : ∀ y ∈ s.vars, y.1 ≠ [95]
theorem NumOk.keep {s s' : RdS} (h : NumOk s) (h1 : s'.occ = s.occ) (h2 : s'.cnt = s.cnt) (h3 : s'.vars = s.vars) (h4 : s'.names = s.names) : NumOk s' := by
  obtain ⟨a, b, c, d, e, f⟩ := h
  exact ⟨by rw [h1, h2]; exact a, by rw [h3, h4]; exact b, by rw [h2, h3]; exact c, by rw [h3]; exact d, by rw [h3]; exact e, by rw [h3]; exact f⟩
/-- Only a variable's token turns what is numbered. -/
structure Keeps (s s' : RdS) (extra : List Int) : Prop where
  occ : s'.occ = occW s.wait ++ extra
  cnt : s'.cnt = s.cnt
  vars : s'.vars = s.vars
  names : s'.names = s.names
section
variable {o : OpsF} {ts : List Tok} {s s' : RdS}
theorem keeps_done (s : RdS) (t : Tm) (p : Int) (n : Nat) : Keeps s ((s.go n).done t p) (varsT t) := ⟨rfl, rfl, rfl, rfl⟩
theorem keeps_await (s : RdS) (f : WaitF) (m : Int) (n : Nat) : Keeps s ((s.go n).await f m) (varsL f.l) := ⟨by unfold RdS.occ; simp [RdS.await, RdS.again, RdS.go, occW], rfl, rfl, rfl⟩
theorem args_keeps {n : List UInt8} (h : argsF ts s n = .ok s') : Keeps s s' [] := by
  obtain ⟨rfl, _⟩ := args_ok h
  exact keeps_await s ⟨2, 0, n, 0, []⟩ 999 1
theorem Keeps.go {k : Nat} {e : List Int} (h : Keeps (s.go k) s' e) : Keeps s s' e := ⟨h.occ, h.cnt, h.vars, h.names⟩
theorem pair_keeps {c : UInt8} (h : pairF ts s c = .ok s') : Keeps s s' [] := by
  unfold pairF at h
  dsimp only at h
  split at h
  · exact (args_keeps h).go
  · injection h with h
    subst h
    have := keeps_done s (atomT ((peekF ts s.at').s ++ [c])) 0 2
    rw [vars_atom] at this
    exact this
theorem punct_keeps {x : List UInt8} (h : punctF ts s x = .ok s') : Keeps s s' [] := by
  unfold punctF at h
  split at h
  · injection h with h
    subst h
    exact keeps_await s ⟨0, 0, [], 0, []⟩ 1200 1
  · split at h
    · split at h
      · exact pair_keeps h
      · injection h with h
        subst h
        exact keeps_await s ⟨3, 0, [], 0, []⟩ 999 1
    · split at h
      · split at h
        · exact pair_keeps h
        · injection h with h
          subst h
          exact keeps_await s ⟨1, 0, [], 0, []⟩ 1200 1
      · cases h
theorem atom_keeps {t : Tok} (h : atomF o ts s t = .ok s') : Keeps s s' [] := by
  unfold atomF at h
  dsimp only at h
  split at h
  · injection h with h
    subst h
    have := keeps_done s (intT (negI (peekF ts (s.at' + 1)).n)) 0 2
    rw [vars_int] at this
    exact this
  · split at h
    · exact (args_keeps h).go
    · split at h
      · injection h with h
        subst h
        exact keeps_await s ⟨5, 0, t.s, (o.pre t.s).1, []⟩ _ 1
      · injection h with h
        subst h
        have := keeps_done s (atomT t.s) 0 1
        rw [vars_atom] at this
        exact this
theorem occ_new (h : s.hv = false) : s.occ = occW s.wait := by unfold RdS.occ; rw [if_neg (by rw [h]; decide), List.append_nil]
theorem occ_old (h : s.hv = true) : s.occ = occW s.wait ++ varsT s.t := by unfold RdS.occ; rw [if_pos h]
theorem Keeps.num {e : List Int} (h : Keeps s s' e) (hn : NumOk s) (he : s.occ = occW s.wait ++ e) : NumOk s' := hn.keep (h.occ.trans he.symm) h.cnt h.vars h.names
theorem firsts_mem : ∀ (l seen : List Int) (n : Int), n ∈ seen → n ∈ firsts seen l
  | [], _, _, h => h
  | m :: l, seen, n, h => by
    rw [firsts]
    split
    · exact firsts_mem l seen n h
    · exact firsts_mem l _ n (List.mem_append_left _ h)
theorem var_num (hv : s.hv = false) (hn : NumOk s) (x : List UInt8) : NumOk (varF (s.go 1) x) := by
  obtain ⟨⟨k, hk, hf⟩, hs, hl, hu, ho, hb⟩ := hn
  rw [occ_new hv] at hf
  unfold varF
  rw [show (s.go 1).vars = s.vars from rfl]
  cases hfd : s.vars.find? (fun y => decide (y.1 = x)) with
  | some y =>
    simp only
    have hy := List.mem_of_find?_eq_some hfd
    have hlow := hl y hy
    refine ⟨⟨k, hk, ?_⟩, hs, hl, hu, ho, hb⟩
    show firsts [] (occW s.wait ++ varsT (varT y.2)) = _
    rw [firsts_app, hf, vars_var, firsts, if_pos ((mem_upTo k y.2).2 (by omega)), firsts]
  | none =>
    have hnx : ∀ y ∈ s.vars, y.1 ≠ x := fun y hy e => by
      have := List.find?_eq_none.1 hfd y hy
      simp [e] at this
    have hocc : firsts [] (occW s.wait ++ varsT (varT s.cnt)) = upTo (k + 1) := by
      rw [firsts_app, hf, vars_var, firsts, if_neg (fun h => by have := (mem_upTo k s.cnt).1 h; omega), firsts, upTo_succ, hk]
    simp only
    by_cases hx : x = [95]
    · rw [if_pos hx]
      exact ⟨⟨k + 1, by show s.cnt + 1 = _; rw [hk]; rfl, hocc⟩, hs, fun y hy => by have := hl y hy; show _ ∧ _ < s.cnt + 1; omega, hu, ho, hb⟩
    · rw [if_neg hx]
      refine ⟨⟨k + 1, by show s.cnt + 1 = _; rw [hk]; rfl, hocc⟩, ?_, fun y hy => ?_, ?_, ?_, fun y hy => ?_⟩
      · show s.names ++ _ = s.vars ++ _
        rw [hs]
      · rcases List.mem_append.1 (show y ∈ s.vars ++ [(x, s.cnt)] from hy) with h1 | h1
        · have := hl y h1
          show _ ∧ _ < s.cnt + 1
          omega
        · have : y = (x, s.cnt) := by simpa using h1
          subst this
          show 0 ≤ s.cnt ∧ s.cnt < s.cnt + 1
          omega
      · show (s.vars ++ [(x, s.cnt)]).Pairwise _
        rw [List.pairwise_append]
        exact ⟨hu, by simp, fun a ha b hb' => by have : b = (x, s.cnt) := by simpa using hb'
                                                 subst this
                                                 exact (hl a ha).2⟩
      · show (s.vars ++ [(x, s.cnt)]).Pairwise _
        rw [List.pairwise_append]
        exact ⟨ho, by simp, fun a ha b hb' => by have : b = (x, s.cnt) := by simpa using hb'
                                                 subst this
                                                 exact hnx a ha⟩
      · rcases List.mem_append.1 (show y ∈ s.vars ++ [(x, s.cnt)] from hy) with h1 | h1
        · exact hb y h1
        · have : y = (x, s.cnt) := by simpa using h1
          subst this
          exact hx
theorem primary_num (hv : s.hv = false) (hn : NumOk s) (h : primaryF o ts s = .ok s') : NumOk s' := by
  have hocc : ∀ {e : List Int}, e = [] → s.occ = occW s.wait ++ e := fun he => by rw [occ_new hv, he, List.append_nil]
  unfold primaryF at h
  dsimp only at h
  split at h
  · split at h
    · cases h
    · injection h with h
      subst h
      exact (keeps_done s _ 0 1).num hn (hocc (vars_int _))
  · split at h
    · injection h with h
      subst h
      exact var_num hv hn _
    · split at h
      · injection h with h
        subst h
        exact (keeps_done s _ 0 1).num hn (hocc (by rw [vars_list, vars_ints, show nilT = atomT [91, 93] from rfl, vars_atom]; rfl))
      · split at h
        · exact (punct_keeps h).num hn (hocc rfl)
        · split at h
          · exact (atom_keeps h).num hn (hocc rfl)
          · cases h
theorem operator_num (hv : s.hv = true) (hn : NumOk s) (h : operatorF o ts s = some s') : NumOk s' := by
  unfold operatorF at h
  dsimp only at h
  split at h
  · cases h
  · split at h
    · injection h with h
      subst h
      exact (keeps_await s ⟨6, 0, (peekF ts s.at').s, (o.inf (peekF ts s.at').s).1, [s.t]⟩ _ 1).num hn (by rw [occ_old hv, varsL_one])
    · split at h
      · injection h with h
        subst h
        exact (keeps_done s (compT (peekF ts s.at').s [s.t]) (o.post (peekF ts s.at').s).1 1).num hn (by rw [occ_old hv, vars_comp, varsL_one])
      · cases h
/-- Behind a whole term that goes to what waits. -/
structure Pops (s s' : RdS) (f : WaitF) : Prop where
  occ : s'.occ = occW s.wait ++ (varsL f.l ++ varsT s.t)
  cnt : s'.cnt = s.cnt
  vars : s'.vars = s.vars
  names : s'.names = s.names
theorem backG_pops {f : WaitF} (h : backG ts s f = .ok s') (hu : f.use = 5 ∨ f.use = 6 ∨ f.use = 0 ∨ f.use = 1 ∨ f.use = 2 ∨ f.use = 3 ∨ f.use = 4) (hl : f.use = 0 ∨ f.use = 1 ∨ f.use = 5 → f.l = []) : Pops s s' f := by
  have ex : ∀ (c : UInt8) (t : Tm) (p : Int), ((s.expect ts c).map fun s => s.done t p) = .ok s' → varsT t = varsL f.l ++ varsT s.t → Pops s s' f := fun c t p h1 h2 => by
    obtain ⟨rfl, _⟩ := expect_map h1
    exact ⟨by rw [← h2]; rfl, rfl, rfl, rfl⟩
  have ag : ∀ (g : WaitF), g.l = f.l ++ [s.t] → s' = (s.go 1).again g 999 → Pops s s' f := fun g h2 h3 => by
    subst h3
    refine ⟨?_, rfl, rfl, rfl⟩
    show (occW s.wait ++ varsL g.l) ++ [] = _
    rw [h2, varsL_app, varsL_one, List.append_nil]
  have e0 : f.l = [] → varsL f.l ++ varsT s.t = varsT s.t := fun h => by rw [h]; rfl
  unfold backG at h
  split at h
  · rename_i hu0
    cases hx : s.expect ts 41 with
    | error a => rw [hx] at h; cases h
    | ok x =>
      rw [hx] at h
      obtain ⟨rfl, _⟩ := expect_ok hx
      injection h with h
      subst h
      exact ⟨by rw [e0 (hl (.inl hu0))]; rfl, rfl, rfl, rfl⟩
  · split at h
    · rename_i hu0
      cases hx : s.expect ts 125 with
      | error a => rw [hx] at h; cases h
      | ok x =>
        rw [hx] at h
        obtain ⟨rfl, _⟩ := expect_ok hx
        injection h with h
        subst h
        refine ⟨?_, rfl, rfl, rfl⟩
        rw [e0 (hl (.inr (.inl hu0)))]
        show occW s.wait ++ varsT (compT [123, 125] [s.t]) = _
        rw [vars_comp, varsL_one]
    · split at h
      · rename_i hu0
        injection h with h
        subst h
        refine ⟨?_, rfl, rfl, rfl⟩
        rw [e0 (hl (.inr (.inr hu0)))]
        show occW s.wait ++ varsT (compT f.name [s.t]) = _
        rw [vars_comp, varsL_one]
      · split at h
        · injection h with h
          subst h
          refine ⟨?_, rfl, rfl, rfl⟩
          show occW s.wait ++ varsT (compT f.name (f.l ++ [s.t])) = _
          rw [vars_comp, varsL_app, varsL_one]
        · split at h
          · dsimp only at h
            split at h
            · injection h with h
              exact ag _ rfl h.symm
            · cases hx : s.expect ts 41 with
              | error a => rw [hx] at h; cases h
              | ok x =>
                rw [hx] at h
                obtain ⟨rfl, _⟩ := expect_ok hx
                injection h with h
                subst h
                refine ⟨?_, rfl, rfl, rfl⟩
                show occW s.wait ++ varsT (compT f.name (f.l ++ [s.t])) = _
                rw [vars_comp, varsL_app, varsL_one]
          · split at h
            · dsimp only at h
              split at h
              · injection h with h
                exact ag _ rfl h.symm
              · split at h
                · injection h with h
                  exact ag _ rfl h.symm
                · exact ex 93 _ 0 h (by rw [vars_list, varsL_app, varsL_one, show nilT = atomT [91, 93] from rfl, vars_atom, List.append_nil])
            · split at h
              · cases hx : s.expect ts 93 with
                | error a => rw [hx] at h; cases h
                | ok x =>
                  rw [hx] at h
                  obtain ⟨rfl, _⟩ := expect_ok hx
                  injection h with h
                  subst h
                  refine ⟨?_, rfl, rfl, rfl⟩
                  show occW s.wait ++ varsT (listT f.l s.t) = _
                  rw [vars_list]
              · omega
end
end Go.Proofs.YtmgidfndifhcoaaDoor
