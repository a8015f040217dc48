import Derived.Test.YtmgidfndifhcoaaDoorJReadBrackets03
import Derived.Test.YtmgidfndifhcoaaDoorJReadBrackets04
import Derived.Test.YtmgidfndifhcoaaDoorJReadBrackets07
import Derived.Test.YtmgidfndifhcoaaDoorJReadBrackets00
/-
  Terms whose arguments lie in blocks of a set that nothing writes: how they stand behind a change, how rows become arguments. No condition.
-/
namespace Go.Proofs.YtmgidfndifhcoaaDoor
open Go.RowKit

/-- Cells that read as a term, its arguments in blocks of S. -/
inductive TermS (w : World) (S : Nat → Prop) : TV → Tm → Prop
  | mk (x : TV) (args : List Tm) (xs : List TV) (h1 : xs.length = x.len) (h2 : args.length = x.len) (h3 : x.s.length ≤ maxLen)
      (hc : ∀ (i : Nat) (y : TV), xs[i]? = some y → ∃ b off, x.A = some ⟨b, off, none⟩ ∧ S b ∧ ∀ (j : Nat) u, (encTV y)[j]? = some u → w.cell? ⟨b, off + i * 4 + j, none⟩ = some u)
      (ht : ∀ (i : Nat) (y : TV) (t : Tm), xs[i]? = some y → args[i]? = some t → TermS w S y t) : TermS w S x (.mk x.k x.n x.s args)
section
variable {w w' : World} {S S' : Nat → Prop} {x : TV} {t : Tm}
theorem TermS.keep (h : TermS w S x t) (hS : ∀ b, S b → S' b) (hb : ∀ b, S b → w'.heap[b]? = w.heap[b]?) : TermS w' S' x t := by
  induction h with
  | mk x args xs h1 h2 h3 hc ht ih =>
    refine .mk x args xs h1 h2 h3 (fun i y hy => ?_) ih
    obtain ⟨b, off, e1, e2, e3⟩ := hc i y hy
    exact ⟨b, off, e1, hS b e2, fun j u hu => (World.cell?_of_block (a := ⟨b, off + i * 4 + j, none⟩) (hb b e2)).trans (e3 j u hu)⟩
theorem TermS.at (h : TermS w S x t) {B : Nat} (hS : ∀ b, S b → b < B) : TermAt w B x t := by
  induction h with
  | mk x args xs h1 h2 h3 hc ht ih =>
    refine .mk x args xs h1 h2 h3 (fun i y hy => ?_) ih
    obtain ⟨b, off, e1, e2, e3⟩ := hc i y hy
    exact ⟨b, off, e1, hS b e2, e3⟩
theorem TermS.leaf (w : World) (S : Nat → Prop) (k n : Int) (s : List UInt8) (A : Option Addr) (c : Nat) (hs : s.length ≤ maxLen) : TermS w S ⟨k, n, s, A, 0, c⟩ (.mk k n s []) :=
  .mk ⟨k, n, s, A, 0, c⟩ [] [] rfl rfl hs (fun i y h => by simp at h) (fun i y t h => by simp at h)
/-- Terms one behind the other. -/
def TermsS (w : World) (S : Nat → Prop) (xs : List TV) (l : List Tm) : Prop := xs.length = l.length ∧ ∀ (i : Nat) (y : TV) (t : Tm), xs[i]? = some y → l[i]? = some t → TermS w S y t
theorem TermsS.nil (w : World) (S : Nat → Prop) : TermsS w S [] [] := ⟨rfl, fun i y t h => by simp at h⟩
theorem TermsS.keep {xs : List TV} {l : List Tm} (h : TermsS w S xs l) (hS : ∀ b, S b → S' b) (hb : ∀ b, S b → w'.heap[b]? = w.heap[b]?) : TermsS w' S' xs l :=
  ⟨h.1, fun i y t h1 h2 => (h.2 i y t h1 h2).keep hS hb⟩
theorem TermsS.snoc {xs : List TV} {l : List Tm} (h : TermsS w S xs l) (hx : TermS w S x t) : TermsS w S (xs ++ [x]) (l ++ [t]) := by
  refine ⟨by rw [List.length_append, List.length_append, h.1]; rfl, fun i y u h1 h2 => ?_⟩
  by_cases hi : i < xs.length
  · rw [List.getElem?_append_left hi] at h1
    rw [List.getElem?_append_left (by rw [← h.1]; exact hi)] at h2
    exact h.2 i y u h1 h2
  · have hi2 : i = xs.length := by
      have := (List.getElem?_eq_some_iff.1 h1).1
      simp at this
      omega
    subst hi2
    rw [List.getElem?_append_right (Nat.le_refl _), Nat.sub_self] at h1
    rw [h.1, List.getElem?_append_right (Nat.le_refl _), Nat.sub_self] at h2
    have e1 : x = y := by simpa using h1
    have e2 : t = u := by simpa using h2
    subst e1 e2
    exact hx
/-- A row of terms is what a term has as arguments, once its block is in the set. -/
theorem TermsS.comp {B : Nat} {v : Value} {xs : List TV} {l : List Tm} {A : Option Addr} {n c : Nat} (h : TermsS w S xs l) (hr : Row w B 25 4 encTV v xs) (hv : v = .slice A n c) (hS : ∀ g, v.ownBlock = some g → S g) (s : List UInt8) (hs : s.length ≤ maxLen) (k m : Int) :
    TermS w S ⟨k, m, s, A, n, c⟩ (.mk k m s l) := by
  subst hv
  have hlen : n = xs.length := hr.len
  refine .mk ⟨k, m, s, A, n, c⟩ l xs hlen.symm (by rw [← h.1, hlen]) hs (fun i y hy => ?_) h.2
  obtain ⟨g, cap, e1, _, _, _, hc⟩ := hr.cells encTV_len (by rintro rfl; cases hy)
  injection e1 with e1 e2 e3
  refine ⟨g, 0, e1, hS g (by rw [e1]; rfl), fun j u hu => ?_⟩
  rw [Nat.zero_add]
  exact (hc i y hy j u hu).1
/-- A block of terms, made as it stands. -/
theorem TermsS.block {xs : List TV} {l : List Tm} {g : Nat} (h : TermsS w S xs l) (hg : w.heap[g]? = some (.cells (xs.flatMap encTV).toArray 25 (0, 0))) (hS : S g) (s : List UInt8) (hs : s.length ≤ maxLen) (k m : Int) (c : Nat) :
    TermS w S ⟨k, m, s, some ⟨g, 0, none⟩, xs.length, c⟩ (.mk k m s l) := by
  refine .mk ⟨k, m, s, some ⟨g, 0, none⟩, xs.length, c⟩ l xs rfl h.1.symm hs (fun i y hy => ⟨g, 0, rfl, hS, fun j u hu => ?_⟩) h.2
  rw [Nat.zero_add, cell_of_row w g (i * 4 + j) _ _ (0, 0) hg]
  have := flatMap_get encTV_len xs i j y u hy hu
  simpa using this
end
end Go.Proofs.YtmgidfndifhcoaaDoor
/-
  The reader's whole state in memory: its block, its row of waiting frames and their rows of terms, the variables' map, the names' row, the operators' table. Plain laws of keeping it. No condition.
-/
namespace Go.Proofs.YtmgidfndifhcoaaDoor
open Go.RowKit Go.Maps
set_option maxRecDepth 100000

def TyB (u : World) (t : TypeId) (b : Nat) : Prop := ∃ cs, u.heap[b]? = some (.cells cs t (0, 0))
theorem TyB.ne {u : World} {t t' : TypeId} {b b' : Nat} (h : TyB u t b) (h' : TyB u t' b') (hn : t ≠ t') : b ≠ b' := by
  rintro rfl
  obtain ⟨c, h⟩ := h
  obtain ⟨c', h'⟩ := h'
  rw [h] at h'
  injection h' with h'
  injection h' with _ h'
  exact hn h'
theorem TyB.keep {u u' : World} {t : TypeId} {b : Nat} (h : TyB u t b) (hb : u'.heap[b]? = u.heap[b]?) : TyB u' t b := by
  obtain ⟨c, h⟩ := h
  exact ⟨c, hb.trans h⟩
theorem TyB.lt {u : World} {t : TypeId} {b : Nat} (h : TyB u t b) : b < u.heap.size := by
  obtain ⟨c, h⟩ := h
  exact (Array.getElem?_eq_some_iff.1 h).1
theorem Row.ty {α : Type} {w : World} {B sz : Nat} {e : TypeId} {enc : α → List Value} {v : Value} {l : List α} (h : Row w B e sz enc v l) {g : Nat} (hg : v.ownBlock = some g) : TyB w e g := by
  rcases h.own.2 with ⟨rfl, _⟩ | ⟨g', cap, cur, rfl, _, hgg, _⟩
  · cases hg
  · injection hg with hg
    subst hg
    exact ⟨cur, hgg⟩
theorem MapAt.ne {κ ν : Type} {u : World} {b b' : Nat} {ek : κ → Value} {ev : ν → Value} {l : List (κ × ν)} {t : TypeId} (h : MapAt u b ek ev l) (h' : TyB u t b') : b ≠ b' := by
  rintro rfl
  obtain ⟨es, clock, h1, _⟩ := h.blk
  obtain ⟨c, h2⟩ := h'
  rw [h1] at h2
  cases h2

def obF (f : FrV) : Option Nat := (Value.slice f.A f.len f.cap).ownBlock
/-- The blocks of terms that are still written. -/
def opL (fl : List FrV) : List Nat := fl.filterMap obF
theorem opL_app (a b : List FrV) : opL (a ++ b) = opL a ++ opL b := List.filterMap_append
theorem opL_mem {fl : List FrV} {f : FrV} {k : Nat} (hf : f ∈ fl) (hk : obF f = some k) : k ∈ opL fl := List.mem_filterMap.2 ⟨f, hf, hk⟩
def SOf (u : World) (L : List Nat) (b : Nat) : Prop := TyB u 25 b ∧ b ∉ L
theorem SOf.step {W : Nat → Prop} {u u' : World} {L L' : List Nat} (hF : Fr W u u') (hW : ∀ b, W b → ¬ SOf u L b) (hL : ∀ b ∈ L', b ∈ L ∨ u.heap.size ≤ b) (b : Nat) (h : SOf u L b) : SOf u' L' b ∧ u'.heap[b]? = u.heap[b]? := by
  have hk := hF.block b h.1.lt fun e => hW b e h
  refine ⟨⟨h.1.keep hk, fun e => ?_⟩, hk⟩
  rcases hL b e with e | e
  · exact h.2 e
  · have := h.1.lt; omega
theorem TermS.step {u u' : World} {S S' : Nat → Prop} {x : TV} {t : Tm} (h : TermS u S x t) (hs : ∀ b, S b → S' b ∧ u'.heap[b]? = u.heap[b]?) : TermS u' S' x t := h.keep (fun b hb => (hs b hb).1) fun b hb => (hs b hb).2
theorem TermsS.step {u u' : World} {S S' : Nat → Prop} {x : List TV} {t : List Tm} (h : TermsS u S x t) (hs : ∀ b, S b → S' b ∧ u'.heap[b]? = u.heap[b]?) : TermsS u' S' x t := h.keep (fun b hb => (hs b hb).1) fun b hb => (hs b hb).2

/-- A frame in memory, and what it is. -/
structure TieF (u : World) (rb : Nat) (S : Nat → Prop) (f : FrV) (w : WaitF) : Prop where
  use : f.use = w.use
  most : f.most = w.most
  name : f.name = w.name
  pri : f.pri = w.pri
  short : w.name.length ≤ maxLen
  row : ∃ xs, Row u (rb + 1) 25 4 encTV (.slice f.A f.len f.cap) xs ∧ TermsS u S xs w.l
inductive Ties (u : World) (rb : Nat) (S : Nat → Prop) : List FrV → List WaitF → Prop
  | nil : Ties u rb S [] []
  | cons {f : FrV} {w : WaitF} {fs : List FrV} {ws : List WaitF} (h : TieF u rb S f w) (hr : Ties u rb S fs ws) : Ties u rb S (f :: fs) (w :: ws)
theorem TieF.step {u u' : World} {rb : Nat} {S S' : Nat → Prop} {f : FrV} {w : WaitF} (h : TieF u rb S f w) (hf : ∀ k, obF f = some k → u'.heap[k]? = u.heap[k]?) (hs : ∀ b, S b → S' b ∧ u'.heap[b]? = u.heap[b]?) : TieF u' rb S' f w := by
  obtain ⟨xs, h1, h2⟩ := h.row
  exact ⟨h.use, h.most, h.name, h.pri, h.short, xs, h1.keep hf, h2.step hs⟩
theorem Ties.step {u u' : World} {rb : Nat} {S S' : Nat → Prop} {fs : List FrV} {ws : List WaitF} (h : Ties u rb S fs ws) (hf : ∀ f ∈ fs, ∀ k, obF f = some k → u'.heap[k]? = u.heap[k]?) (hs : ∀ b, S b → S' b ∧ u'.heap[b]? = u.heap[b]?) : Ties u' rb S' fs ws := by
  induction h with
  | nil => exact .nil
  | cons h1 _ ih => exact .cons (h1.step (hf _ (by simp)) hs) (ih fun f h => hf f (by simp [h]))
theorem Ties.ty {u : World} {rb : Nat} {S : Nat → Prop} {fs : List FrV} {ws : List WaitF} (h : Ties u rb S fs ws) : ∀ f ∈ fs, ∀ k, obF f = some k → TyB u 25 k ∧ rb < k := by
  induction h with
  | nil => intro f h; cases h
  | cons h1 _ ih =>
    intro f hf k hk
    rcases List.mem_cons.1 hf with rfl | hf
    · obtain ⟨xs, h2, _⟩ := h1.row
      exact ⟨h2.ty hk, (h2.lt k hk).1⟩
    · exact ih f hf k hk
theorem Ties.len {u : World} {rb : Nat} {S : Nat → Prop} {fs : List FrV} {ws : List WaitF} (h : Ties u rb S fs ws) : fs.length = ws.length := by
  induction h with
  | nil => rfl
  | cons _ _ ih => simp [ih]

/-- What a reader's run holds fast. -/
structure RdE where
  rb : Nat
  B : Nat
  ts : List Tok
  bt : Nat
  bm : Nat
  es : List (OpK × OpV)
  bb : Nat
  mb : Nat
  fix : List (Nat × Array Value × TypeId)
def opsOf (es : List (OpK × OpV)) : OpsF := ⟨fun n => ((tsides es 1 n).1, (tsides es 1 n).2.2), fun n => tsides es 2 n, fun n => ((tsides es 3 n).1, (tsides es 3 n).2.1)⟩
def okI (n : Int) : Prop := -9223372036854775808 ≤ n ∧ n ≤ 9223372036854775807
theorem intKE : KE Tryd.prog 3 evI okI :=
  ⟨int_keyed Tryd.underlying3, fun _ hk => ⟨_, keyOf_int_mk Tryd.underlying3 (int_wf hk.1 hk.2)⟩, fun a b h => by simpa [evI] using h⟩
/-- The methods that begin a term, by the kinds of tokens. -/
def begL : List (Int × Nat) := [(3, 31), (4, 32), (5, 33), (6, 34), (1, 35), (2, 35)]
def evF (rb : Nat) (n : Nat) : Value := .func (.func n) #[.pointer (some ⟨rb, 0, none⟩)] #[]
theorem begL_ok : ∀ x ∈ begL, okI x.1 := by
  intro x hx
  simp only [begL, List.mem_cons, List.mem_nil_iff, or_false] at hx
  unfold okI
  rcases hx with rfl | rfl | rfl | rfl | rfl | rfl <;> (simp only; omega)
theorem beg_look {u : World} {b rb : Nat} (h : MapAt u b evI (evF rb) begL) (k : Int) (hk : okI k) :
    (Instr.lookup 76 (.map (some b)) (.int .i64 k) true).run Tryd.prog u = .ok (.tuple #[((mget begL k).map (evF rb)).getD .nilFunc, .bool (mget begL k).isSome]) u := by
  have := h.lookup (t := 76) intKE Tryd.underlying76 (z := .nilFunc) (fun u => by kernel_rfl) begL_ok (k := k) hk true
  simp only [if_true] at this
  exact this
/-- The blocks of terms that a term does not stand in: those still written, and those that the run holds fast. -/
def opE (E : RdE) (fl : List FrV) : List Nat := opL fl ++ E.fix.map (·.1)
structure RdInv (E : RdE) (u : World) (v : RdV) (s : RdS) (fl : List FrV) : Prop where
  r : RdAt u E.rb v E.ts s E.B
  row : WRow u E.rb v.wv fl
  vb : v.vb = .map (some E.mb)
  ob : v.ob = .pointer (some ⟨E.bt, 0, none⟩)
  bv : v.bv = .map (some E.bb)
  mbr : E.mb ≠ E.rb
  Bmb : E.B ≤ E.mb
  rbb : E.rb < E.bb
  mbb : E.mb ≠ E.bb
  vars : VarsAt u E.mb s.vars
  beg : MapAt u E.bb evI (evF E.rb) begL
  nm : NRow u E.rb v.nv s.names
  tab : TabAt u E.bt E.bm E.es
  kinds : KindsAt u
  btr : E.bt < E.B
  bmr : E.bm < E.B
  kr : 0 < E.B
  tie : Ties u E.rb (SOf u (opE E fl)) fl.reverse s.wait
  x : TermS u (SOf u (opE E fl)) v.x s.t
  fix : ∀ p ∈ E.fix, u.heap[p.1]? = some (.cells p.2.1 p.2.2 (0, 0)) ∧ p.1 ∉ opL fl ∧ p.2.2 ≠ 79 ∧ p.2.2 ≠ 124 ∧ p.2.2 ≠ 57
  nd : (opL fl).Nodup
  short : ∀ t ∈ E.ts, t.s.length ≤ 1000000
  num : ∀ t ∈ E.ts, (-9223372036854775808 ≤ t.n ∧ t.n ≤ 9223372036854775807) ∧ okI t.kind
  left : leftF E.ts s ≤ 60001
  ll : ∀ w ∈ s.wait, w.l.length + leftF E.ts s ≤ 60002
  c0 : 0 ≤ s.cnt
  cn : s.cnt + (leftF E.ts s : Int) ≤ 60001
  nn : s.names.length + leftF E.ts s ≤ 60001
section
variable {E : RdE} {u u' : World} {v : RdV} {s : RdS} {fl : List FrV}
theorem RdInv.rty (h : RdInv E u v s fl) : TyB u 79 E.rb := ⟨_, h.r.blk⟩
theorem RdInv.open_ty (h : RdInv E u v s fl) {k : Nat} (hk : k ∈ opL fl) : TyB u 25 k ∧ E.rb < k := by
  obtain ⟨f, hf, hk⟩ := List.mem_filterMap.1 hk
  exact h.tie.ty f (by simpa using hf) k hk
theorem RdInv.waits (h : RdInv E u v s fl) : fl.length ≤ 60001 := by
  have h1 := h.tie.len
  have h2 := h.left
  unfold leftF at h2
  rw [List.length_reverse] at h1
  omega
/-- What may be written in a step: the reader's block, the blocks of the rows of frames and names, the map of variables, and blocks of terms of a list. -/
def WSet (E : RdE) (v : RdV) (L : List Nat) (k : Nat) : Prop := k = E.rb ∨ v.wv.ownBlock = some k ∨ v.nv.ownBlock = some k ∨ k = E.mb ∨ k ∈ L
theorem RdInv.wset (h : RdInv E u v s fl) {L : List Nat} (hL : ∀ k ∈ L, k ∈ opL fl) (b : Nat) (hb : WSet E v L b) : ¬ SOf u (opE E fl) b := by
  rintro ⟨h1, h2⟩
  rcases hb with rfl | hb | hb | rfl | hb
  · exact h1.ne h.rty (by decide) rfl
  · exact h1.ne (h.row.ty hb) (by decide) rfl
  · exact h1.ne (h.nm.ty hb) (by decide) rfl
  · exact h.vars.map.ne h1 rfl
  · exact h2 (List.mem_append_left _ (hL b hb))
theorem RdInv.old (h : RdInv E u v s fl) {L : List Nat} (hL : ∀ k ∈ L, k ∈ opL fl) (b : Nat) (hb : b < E.B) : ¬ WSet E v L b := by
  have hB := h.r.base
  rintro (rfl | hw | hw | rfl | hw)
  · omega
  · have := (h.row.lt b hw).1; omega
  · have := (h.nm.lt b hw).1; omega
  · have := h.Bmb; omega
  · have := (h.open_ty (hL b hw)).2; omega
/-- What a step leaves as it was. -/
structure BelE (E : RdE) (u u' : World) : Prop where
  b : Below E.B u u'
  fix : ∀ p ∈ E.fix, u'.heap[p.1]? = u.heap[p.1]?
theorem BelE.trans {w : World} (h : BelE E u u') (k : BelE E u' w) : BelE E u w := ⟨h.b.trans k.b, fun p hp => (k.fix p hp).trans (h.fix p hp)⟩
theorem RdInv.fixW (h : RdInv E u v s fl) {L : List Nat} (hL : ∀ k ∈ L, k ∈ opL fl) (p : Nat × Array Value × TypeId) (hp : p ∈ E.fix) : p.1 < u.heap.size ∧ ¬ WSet E v L p.1 := by
  obtain ⟨h1, h2, h3, h4, h5⟩ := h.fix p hp
  have ht : TyB u p.2.2 p.1 := ⟨_, h1⟩
  refine ⟨ht.lt, ?_⟩
  rintro (e | e | e | e | e)
  · exact ht.ne h.rty h3 e
  · exact ht.ne (h.row.ty e) h4 rfl
  · exact ht.ne (h.nm.ty e) h5 rfl
  · exact h.vars.map.ne ht e.symm
  · exact h2 (hL _ e)
theorem RdInv.below (h : RdInv E u v s fl) {L : List Nat} (hL : ∀ k ∈ L, k ∈ opL fl) (hF : Fr (WSet E v L) u u') : BelE E u u' :=
  ⟨hF.below (Nat.le_trans h.r.base (Nat.le_of_lt h.r.blk.lt)) fun k hk => h.old hL k hk, fun p hp => hF.block p.1 (h.fixW hL p hp).1 (h.fixW hL p hp).2⟩
/-- A step: what was kept, and what is told anew. -/
theorem RdInv.step (h : RdInv E u v s fl) {L : List Nat} (hL : ∀ k ∈ L, k ∈ opL fl) (hF : Fr (WSet E v L) u u') {v' : RdV} {s' : RdS} {fl' : List FrV} (r : RdAt u' E.rb v' E.ts s' E.B) (row : WRow u' E.rb v'.wv fl')
    (evb : v'.vb = v.vb) (eob : v'.ob = v.ob) (ebv : v'.bv = v.bv) (vars : VarsAt u' E.mb s'.vars) (nm : NRow u' E.rb v'.nv s'.names)
    (hl : ∀ b ∈ opL fl', b ∈ opL fl ∨ u.heap.size ≤ b) (tie : Ties u' E.rb (SOf u' (opE E fl')) fl'.reverse s'.wait) (x : TermS u' (SOf u' (opE E fl')) v'.x s'.t) (nd : (opL fl').Nodup)
    (hless : leftF E.ts s' < leftF E.ts s) (ll : ∀ w ∈ s'.wait, (∃ w0 ∈ s.wait, w.l.length ≤ w0.l.length + 1) ∨ w.l.length ≤ 1)
    (hc : s'.cnt = s.cnt ∨ s'.cnt = s.cnt + 1) (hn : s'.names.length ≤ s.names.length + 1) : RdInv E u' v' s' fl' where
  r := r
  row := row
  vb := evb.trans h.vb
  ob := eob.trans h.ob
  bv := ebv.trans h.bv
  mbr := h.mbr
  Bmb := h.Bmb
  rbb := h.rbb
  mbb := h.mbb
  vars := vars
  beg := h.beg.keep (hF.block E.bb h.beg.lt (by
    rintro (e | e | e | e | e)
    · have := h.rbb; omega
    · exact h.beg.ne (h.row.ty e) rfl
    · exact h.beg.ne (h.nm.ty e) rfl
    · exact h.mbb e.symm
    · exact h.beg.ne (h.open_ty (hL _ e)).1 rfl))
  nm := nm
  tab := h.tab.below (h.below hL hF).b h.btr h.bmr
  kinds := h.kinds.below (h.below hL hF).b h.kr
  btr := h.btr
  bmr := h.bmr
  kr := h.kr
  tie := tie
  x := x
  nd := nd
  fix := fun p hp => by
    obtain ⟨h1, h2, h3, h4, h5⟩ := h.fix p hp
    obtain ⟨k1, k2⟩ := h.fixW hL p hp
    refine ⟨(hF.block p.1 k1 k2).trans h1, fun e => ?_, h3, h4, h5⟩
    · rcases hl _ e with e | e
      · exact h2 e
      · omega
  short := h.short
  num := h.num
  left := by have := h.left; omega
  ll := fun w hw => by
    rcases ll w hw with ⟨w0, h0, h1⟩ | h1
    · have := h.ll w0 h0; omega
    · have := h.left; omega
  c0 := by have := h.c0; omega
  cn := by have := h.cn; omega
  nn := by have := h.nn; omega
theorem RdInv.keepS (h : RdInv E u v s fl) {L : List Nat} (hL : ∀ k ∈ L, k ∈ opL fl) (hF : Fr (WSet E v L) u u') {fl' : List FrV} (hl : ∀ b ∈ opL fl', b ∈ opL fl ∨ u.heap.size ≤ b) :
    ∀ b, SOf u (opE E fl) b → SOf u' (opE E fl') b ∧ u'.heap[b]? = u.heap[b]? := SOf.step hF (h.wset hL) fun b hb => by
  rcases List.mem_append.1 hb with hb | hb
  · exact (hl b hb).imp (fun e => List.mem_append_left _ e) id
  · exact .inl (List.mem_append_right _ hb)
theorem RdInv.keepV (h : RdInv E u v s fl) (hF : Fr (fun k => k = E.rb ∨ v.wv.ownBlock = some k) u u') : VarsAt u' E.mb s.vars := ⟨h.vars.map.keep (hF.block E.mb h.vars.map.lt (by
    rintro (e | e)
    · exact h.mbr e
    · exact h.vars.map.ne (h.row.ty e) rfl)), h.vars.ok⟩
theorem RdInv.keepN (h : RdInv E u v s fl) (hF : Fr (fun k => k = E.rb ∨ v.wv.ownBlock = some k) u u') : NRow u' E.rb v.nv s.names := Row.keep h.nm fun k hk => hF.block k (h.nm.lt k hk).2 (by
    rintro (e | e)
    · have := (h.nm.lt k hk).1; omega
    · exact (h.nm.ty hk).ne (h.row.ty e) (by decide) rfl)
theorem fr_w {L : List Nat} (hF : Fr (fun k => k = E.rb ∨ v.wv.ownBlock = some k) u u') : Fr (WSet E v L) u u' := hF.weak fun _ hk => hk.elim .inl fun e => .inr (.inl e)
theorem RdInv.keepT (h : RdInv E u v s fl) (hF : Fr (fun k => k = E.rb ∨ v.wv.ownBlock = some k) u u') {fl' : List FrV} (hl : ∀ b ∈ opL fl', b ∈ opL fl ∨ u.heap.size ≤ b) : Ties u' E.rb (SOf u' (opE E fl')) fl.reverse s.wait :=
  h.tie.step (fun f hf k hk => by
    obtain ⟨h1, h2⟩ := h.tie.ty f hf k hk
    refine hF.block k h1.lt ?_
    rintro (e | e)
    · omega
    · exact h1.ne (h.row.ty e) (by decide) rfl) (h.keepS (L := []) (fun _ hk => by cases hk) (fr_w hF) hl)
end
/-- What a method of the reader comes to. -/
def RdOut (E : RdE) (u u' : World) (r : Except Nat RdS) (e : Ending) : Prop :=
  BelE E u u' ∧ match r with
    | .error a => e = gaveUp ∧ ∃ s' v', s'.at' = a ∧ RdAt u' E.rb v' E.ts s' E.B
    | .ok s' => e = .returned (.tuple #[]) ∧ ∃ v' fl', RdInv E u' v' s' fl'
section
variable {E : RdE} {u u' : World} {v : RdV} {s : RdS} {fl : List FrV}
theorem opL_frOf (fl : List FrV) (w : WaitF) : opL (fl ++ [frOf w]) = opL fl := by
  rw [opL_app]
  show opL fl ++ [] = opL fl
  simp
/-- From what the methods that begin a term leave. -/
theorem RdInv.prim (h : RdInv E u v s fl) {r : Except Nat RdS} {e : Ending} (hF : Fr (fun k => k = E.rb ∨ v.wv.ownBlock = some k) u u') (ho : PrimOut u' E.rb v E.ts s E.B fl r e)
    (hr : ∀ s', r = .ok s' → s'.vars = s.vars ∧ s'.names = s.names ∧ s'.cnt = s.cnt ∧ leftF E.ts s' < leftF E.ts s ∧ (∀ w, s'.wait = w :: s.wait → w.name.length ≤ maxLen) ∧ (s'.wait = s.wait → s'.t.s.length ≤ maxLen)) : RdOut E u u' r e := by
  have hnil : ∀ k ∈ ([] : List Nat), k ∈ opL fl := fun k hk => by cases hk
  refine ⟨h.below hnil (fr_w hF), ?_⟩
  cases r with
  | error a =>
    obtain ⟨h1, s', h2, h3⟩ := ho
    exact ⟨h1, s', v, h2, h3⟩
  | ok s' =>
    obtain ⟨h1, v', h2, hc, hob, hbv, hvb, hnv, _, _, h3⟩ := ho
    obtain ⟨q1, q2, q3, q4, q5, q6⟩ := hr s' rfl
    refine ⟨h1, v', ?_⟩
    rcases h3 with ⟨ex, et, w, ew, el, hrow⟩ | ⟨ewv, ew, hrow, k, n, y, ex, et⟩
    · have hl : ∀ b ∈ opL (fl ++ [frOf w]), b ∈ opL fl ∨ u.heap.size ≤ b := fun b hb => .inl (by rw [opL_frOf] at hb; exact hb)
      refine ⟨fl ++ [frOf w], h.step hnil (fr_w hF) h2 hrow hvb hob hbv (by rw [q1]; exact h.keepV hF) (by rw [hnv, q2]; exact h.keepN hF) hl ?_ ?_ (by rw [opL_frOf]; exact h.nd) q4 ?_ (.inl q3) (by rw [q2]; omega)⟩
      · rw [List.reverse_append, ew]
        exact .cons ⟨rfl, rfl, rfl, rfl, q5 w ew, [], Row.nil _ _ _ _ _, by rw [el]; exact TermsS.nil _ _⟩ (h.keepT hF hl)
      · rw [ex, et]
        exact h.x.step (h.keepS hnil (fr_w hF) hl)
      · intro w' hw'
        rw [ew] at hw'
        rcases List.mem_cons.1 hw' with rfl | hw'
        · right; rw [el]; simp
        · exact .inl ⟨w', hw', by omega⟩
    · have hl : ∀ b ∈ opL fl, b ∈ opL fl ∨ u.heap.size ≤ b := fun b hb => .inl hb
      refine ⟨fl, h.step hnil (fr_w hF) h2 hrow hvb hob hbv (by rw [q1]; exact h.keepV hF) (by rw [hnv, q2]; exact h.keepN hF) hl (by rw [ew]; exact h.keepT hF hl) ?_ h.nd q4 (fun w' hw' => .inl ⟨w', by rw [← ew]; exact hw', by omega⟩) (.inl q3) (by rw [q2]; omega)⟩
      rw [ex, et]
      exact .leaf _ _ _ _ _ _ _ (by have := q6 ew; rw [et] at this; exact this)
end
end Go.Proofs.YtmgidfndifhcoaaDoor
/-
  What a method that begins a term leaves of the reader's state: its variables, names and count, and how long the names are. Plain laws; condition: the tokens' texts are short.
-/
namespace Go.Proofs.YtmgidfndifhcoaaDoor

structure PlainOut (s s' : RdS) : Prop where
  vars : s'.vars = s.vars
  names : s'.names = s.names
  cnt : s'.cnt = s.cnt
  wait : ∀ w, s'.wait = w :: s.wait → w.name.length ≤ maxLen
  t : s'.wait = s.wait → s'.t.s.length ≤ maxLen
theorem list_ne {α : Type} (x : α) (l : List α) : l ≠ x :: l := fun h => by
  have := congrArg List.length h
  simp at this
theorem plain_await (s : RdS) (k : Nat) (u : Int) (nm : List UInt8) (p m : Int) (hn : nm.length ≤ maxLen) : PlainOut s ((s.go k).await ⟨u, 0, nm, p, []⟩ m) :=
  ⟨rfl, rfl, rfl, fun w hw => by
    have h : WaitF.mk u s.most nm p [] :: s.wait = w :: s.wait := hw
    injection h with h
    subst h
    exact hn, fun hw => absurd hw.symm (list_ne _ _)⟩
theorem plain_done (s : RdS) (k : Nat) (t : Tm) (p : Int) (hn : t.s.length ≤ maxLen) : PlainOut s ((s.go k).done t p) :=
  ⟨rfl, rfl, rfl, fun w hw => absurd hw (list_ne _ _), fun _ => hn⟩
theorem peek_short {ts : List Tok} (hs : ∀ t ∈ ts, t.s.length ≤ 1000000) (i : Nat) : (peekF ts i).s.length ≤ 1000000 := by
  unfold peekF
  rw [List.getD_eq_getElem?_getD]
  cases h : ts[i]? with
  | none => simp [noTok]
  | some t => exact hs t (List.mem_of_getElem? h)
theorem go_go (s : RdS) (a b : Nat) : (s.go a).go b = s.go (a + b) := by simp [RdS.go, Nat.add_assoc]
theorem short_max {n : Nat} (h : n ≤ 1000000) : n + 1 ≤ maxLen := by unfold maxLen; omega
theorem args_plain {ts : List Tok} {s s' : RdS} {k : Nat} {nm : List UInt8} (hn : nm.length ≤ maxLen) (h : argsF ts (s.go k) nm = .ok s') : PlainOut s s' := by
  obtain ⟨rfl, _⟩ := args_ok h
  rw [go_go]
  exact plain_await s _ _ _ _ _ hn
theorem pair_plain {ts : List Tok} {s s' : RdS} {c : UInt8} (hs : ∀ t ∈ ts, t.s.length ≤ 1000000) (h : pairF ts s c = .ok s') : PlainOut s s' := by
  have hn : ((peekF ts s.at').s ++ [c]).length ≤ maxLen := by
    rw [List.length_append]
    exact short_max (peek_short hs _)
  unfold pairF at h
  dsimp only at h
  split at h
  · exact args_plain hn h
  · injection h with h
    subst h
    exact plain_done s _ _ _ hn
theorem punct_plain {ts : List Tok} {s s' : RdS} {x : List UInt8} (hs : ∀ t ∈ ts, t.s.length ≤ 1000000) (h : punctF ts s x = .ok s') : PlainOut s s' := by
  have h0 : ([] : List UInt8).length ≤ maxLen := Nat.zero_le _
  unfold punctF at h
  split at h
  · injection h with h
    subst h
    exact plain_await s _ _ _ _ _ h0
  · split at h
    · split at h
      · exact pair_plain hs h
      · injection h with h
        subst h
        exact plain_await s _ _ _ _ _ h0
    · split at h
      · split at h
        · exact pair_plain hs h
        · injection h with h
          subst h
          exact plain_await s _ _ _ _ _ h0
      · cases h
theorem atom_plain {o : OpsF} {ts : List Tok} {s s' : RdS} {t : Tok} (ht : t.s.length ≤ 1000000) (h : atomF o ts s t = .ok s') : PlainOut s s' := by
  have hn : t.s.length ≤ maxLen := Nat.le_of_succ_le (short_max ht)
  unfold atomF at h
  dsimp only at h
  split at h
  · injection h with h
    subst h
    exact plain_done s _ _ _ (Nat.zero_le _)
  · split at h
    · exact args_plain hn h
    · split at h
      · injection h with h
        subst h
        exact plain_await s _ _ _ _ _ hn
      · injection h with h
        subst h
        exact plain_done s _ _ _ hn
theorem mget_find {l : List (List UInt8 × Int)} {k : List UInt8} : ((l.find? (fun y => decide (y.1 = k))).map (·.2) = none ↔ l.find? (fun y => decide (y.1 = k)) = none) := by
  cases l.find? (fun y => decide (y.1 = k)) <;> simp
end Go.Proofs.YtmgidfndifhcoaaDoor
