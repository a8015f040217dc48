import Derived.Test.YtcallkljcjimiaaGreatDoorJW08
import Derived.Lib.ItoaMem
namespace Go.Proofs.YtcallkljcjimiaaGreatDoor
open Go.RowKit Go.Maps
set_option maxRecDepth 100000
def TyB (u : World) (t : TypeId) (b : Nat) : Prop := ∃ cs, u.heap[b]? = some (.cells cs t (0, 0))
theorem TyB.ne {u : World} {t t' : TypeId} {b b' : Nat} (h : TyB u t b) (h' : TyB u t' b') (hn : t ≠ t') : b ≠ b' := by
 rintro rfl
 obtain ⟨c, h⟩ := h
 obtain ⟨c', h'⟩ := h'
 rw [h] at h'
 injection h' with h'
 injection h' with _ h'
 exact hn h'
theorem TyB.keep {u u' : World} {t : TypeId} {b : Nat} (h : TyB u t b) (hb : u'.heap[b]? = u.heap[b]?) : TyB u' t b := by
 obtain ⟨c, h⟩ := h
 exact ⟨c, hb.trans h⟩
theorem TyB.lt {u : World} {t : TypeId} {b : Nat} (h : TyB u t b) : b < u.heap.size := by
 obtain ⟨c, h⟩ := h
 exact (Array.getElem?_eq_some_iff.1 h).1
theorem Row.ty {α : Type} {w : World} {B sz : Nat} {e : TypeId} {enc : α → List Value} {v : Value} {l : List α} (h : Row w B e sz enc v l) {g : Nat} (hg : v.ownBlock = some g) : TyB w e g := by
 rcases h.own.2 with ⟨rfl, _⟩ | ⟨g', cap, cur, rfl, _, hgg, _⟩
 ·cases hg
 ·injection hg with hg
  subst hg
  exact ⟨cur, hgg⟩
theorem MapAt.ne {κ ν : Type} {u : World} {b b' : Nat} {ek : κ → Value} {ev : ν → Value} {l : List (κ × ν)} {t : TypeId} (h : MapAt u b ek ev l) (h' : TyB u t b') : b ≠ b' := by
 rintro rfl
 obtain ⟨es, clock, h1, _⟩ := h.blk
 obtain ⟨c, h2⟩ := h'
 rw [h1] at h2
 cases h2
def obF (f : FrV) : Option Nat := (Value.slice f.A f.len f.cap).ownBlock
def opL (fl : List FrV) : List Nat := fl.filterMap obF
theorem opL_app (a b : List FrV) : opL (a ++ b) = opL a ++ opL b := List.filterMap_append
theorem opL_mem {fl : List FrV} {f : FrV} {k : Nat} (hf : f ∈ fl) (hk : obF f = some k) : k ∈ opL fl := List.mem_filterMap.2 ⟨f, hf, hk⟩
def SOf (u : World) (L : List Nat) (b : Nat) : Prop := TyB u 28 b ∧ b ∉ L
theorem SOf.step {W : Nat → Prop} {u u' : World} {L L' : List Nat} (hF : Fr W u u') (hW : ∀ b, W b → ¬ SOf u L b) (hL : ∀ b ∈ L', b ∈ L ∨ u.heap.size ≤ b) (b : Nat) (h : SOf u L b) : SOf u' L' b ∧ u'.heap[b]? = u.heap[b]? := by
 have hk := hF.block b h.1.lt fun e => hW b e h
 refine ⟨⟨h.1.keep hk, fun e => ?_⟩, hk⟩
 rcases hL b e with e | e
 ·exact h.2 e
 ·have := h.1.lt; omega
theorem TermS.step {u u' : World} {S S' : Nat → Prop} {x : TV} {t : Tm} (h : TermS u S x t) (hs : ∀ b, S b → S' b ∧ u'.heap[b]? = u.heap[b]?) : TermS u' S' x t := h.keep (fun b hb => (hs b hb).1) fun b hb => (hs b hb).2
theorem TermsS.step {u u' : World} {S S' : Nat → Prop} {x : List TV} {t : List Tm} (h : TermsS u S x t) (hs : ∀ b, S b → S' b ∧ u'.heap[b]? = u.heap[b]?) : TermsS u' S' x t := h.keep (fun b hb => (hs b hb).1) fun b hb => (hs b hb).2
structure TieF (u : World) (rb : Nat) (S : Nat → Prop) (f : FrV) (w : WaitF) : Prop where
 use : f.use = w.use
 most : f.most = w.most
 name : f.name = w.name
 pri : f.pri = w.pri
 short : w.name.length ≤ maxLen
 row : ∃ xs, Row u (rb + 1) 28 4 encTV (.slice f.A f.len f.cap) xs ∧ TermsS u S xs w.l
inductive Ties (u : World) (rb : Nat) (S : Nat → Prop) : List FrV → List WaitF → Prop
 | nil : Ties u rb S [] []
 | cons {f : FrV} {w : WaitF} {fs : List FrV} {ws : List WaitF} (h : TieF u rb S f w) (hr : Ties u rb S fs ws) : Ties u rb S (f :: fs) (w :: ws)
theorem TieF.step {u u' : World} {rb : Nat} {S S' : Nat → Prop} {f : FrV} {w : WaitF} (h : TieF u rb S f w) (hf : ∀ k, obF f = some k → u'.heap[k]? = u.heap[k]?) (hs : ∀ b, S b → S' b ∧ u'.heap[b]? = u.heap[b]?) : TieF u' rb S' f w := by
 obtain ⟨xs, h1, h2⟩ := h.row
 exact ⟨h.use, h.most, h.name, h.pri, h.short, xs, h1.keep hf, h2.step hs⟩
theorem Ties.step {u u' : World} {rb : Nat} {S S' : Nat → Prop} {fs : List FrV} {ws : List WaitF} (h : Ties u rb S fs ws) (hf : ∀ f ∈ fs, ∀ k, obF f = some k → u'.heap[k]? = u.heap[k]?) (hs : ∀ b, S b → S' b ∧ u'.heap[b]? = u.heap[b]?) : Ties u' rb S' fs ws := by
 induction h with
 | nil => exact .nil
 | cons h1 _ ih => exact .cons (h1.step (hf _ (by simp)) hs) (ih fun f h => hf f (by simp [h]))
theorem Ties.ty {u : World} {rb : Nat} {S : Nat → Prop} {fs : List FrV} {ws : List WaitF} (h : Ties u rb S fs ws) : ∀ f ∈ fs, ∀ k, obF f = some k → TyB u 28 k ∧ rb < k := by
 induction h with
 | nil => intro f h; cases h
 | cons h1 _ ih =>
  intro f hf k hk
  rcases List.mem_cons.1 hf with rfl | hf
  ·obtain ⟨xs, h2, _⟩ := h1.row
   exact ⟨h2.ty hk, (h2.lt k hk).1⟩
  ·exact ih f hf k hk
theorem Ties.len {u : World} {rb : Nat} {S : Nat → Prop} {fs : List FrV} {ws : List WaitF} (h : Ties u rb S fs ws) : fs.length = ws.length := by
 induction h with
 | nil => rfl
 | cons _ _ ih => simp [ih]
structure RdE where
 rb : Nat
 B : Nat
 ts : List Tok
 bt : Nat
 bm : Nat
 es : List (OpK × OpV)
 bb : Nat
 mb : Nat
 fix : List (Nat × Array Value × TypeId)
def opsOf (es : List (OpK × OpV)) : OpsF := ⟨fun n => ((tsides es 1 n).1, (tsides es 1 n).2.2), fun n => tsides es 2 n, fun n => ((tsides es 3 n).1, (tsides es 3 n).2.1)⟩
def okI (n : Int) : Prop := -9223372036854775808 ≤ n ∧ n ≤ 9223372036854775807
theorem intKE : KE Tryz.prog 3 evI okI :=
 ⟨int_keyed Tryz.underlying3, fun _ hk => ⟨_, keyOf_int_mk Tryz.underlying3 (int_wf hk.1 hk.2)⟩, fun a b h => by simpa [evI] using h⟩
def begL : List (Int × Nat) := [(3, 49), (4, 50), (5, 51), (6, 52), (1, 53), (2, 53)]
def evF (rb : Nat) (n : Nat) : Value := .func (.func n) #[.pointer (some ⟨rb, 0, none⟩)] #[]
theorem begL_ok : ∀ x ∈ begL, okI x.1 := by
 intro x hx
 simp only [begL, List.mem_cons, List.mem_nil_iff, or_false] at hx
 unfold okI
 rcases hx with rfl | rfl | rfl | rfl | rfl | rfl <;> (simp only; omega)
theorem beg_look {u : World} {b rb : Nat} (h : MapAt u b evI (evF rb) begL) (k : Int) (hk : okI k) :
    (Instr.lookup 113 (.map (some b)) (.int .i64 k) true).run Tryz.prog u = .ok (.tuple #[((mget begL k).map (evF rb)).getD .nilFunc, .bool (mget begL k).isSome]) u := by
 have := h.lookup (t := 113) intKE Tryz.underlying113 (z := .nilFunc) (fun u => by kernel_rfl) begL_ok (k := k) hk true
 simp only [if_true] at this
 exact this
def opE (E : RdE) (fl : List FrV) : List Nat := opL fl ++ E.fix.map (·.1)
structure RdInv (E : RdE) (u : World) (v : RdV) (s : RdS) (fl : List FrV) : Prop where
 r : RdAt u E.rb v E.ts s E.B
 row : WRow u E.rb v.wv fl
 vb : v.vb = .map (some E.mb)
 ob : v.ob = .pointer (some ⟨E.bt, 0, none⟩)
 bv : v.bv = .map (some E.bb)
 mbr : E.mb ≠ E.rb
 Bmb : E.B ≤ E.mb
 rbb : E.rb < E.bb
 mbb : E.mb ≠ E.bb
 vars : VarsAt u E.mb s.vars
 beg : MapAt u E.bb evI (evF E.rb) begL
 nm : NRow u E.rb v.nv s.names
 tab : TabAt u E.bt E.bm E.es
 kinds : KindsAt u
 btr : E.bt < E.B
 bmr : E.bm < E.B
 kr : 0 < E.B
 tie : Ties u E.rb (SOf u (opE E fl)) fl.reverse s.wait
 x : TermS u (SOf u (opE E fl)) v.x s.t
 fix : ∀ p ∈ E.fix, u.heap[p.1]? = some (.cells p.2.1 p.2.2 (0, 0)) ∧ p.1 ∉ opL fl ∧ p.2.2 ≠ 116 ∧ p.2.2 ≠ 160 ∧ p.2.2 ≠ 157
 nd : (opL fl).Nodup
 short : ∀ t ∈ E.ts, t.s.length ≤ 1000000
 num : ∀ t ∈ E.ts, (-9223372036854775808 ≤ t.n ∧ t.n ≤ 9223372036854775807) ∧ okI t.kind
 left : leftF E.ts s ≤ 60001
 ll : ∀ w ∈ s.wait, w.l.length + leftF E.ts s ≤ 60002
 c0 : 0 ≤ s.cnt
 cn : s.cnt + (leftF E.ts s : Int) ≤ 60001
 nn : s.names.length + leftF E.ts s ≤ 60001
section
variable {E : RdE} {u u' : World} {v : RdV} {s : RdS} {fl : List FrV}
theorem RdInv.rty (h : RdInv E u v s fl) : TyB u 116 E.rb := ⟨_, h.r.blk⟩
theorem RdInv.open_ty (h : RdInv E u v s fl) {k : Nat} (hk : k ∈ opL fl) : TyB u 28 k ∧ E.rb < k := by
 obtain ⟨f, hf, hk⟩ := List.mem_filterMap.1 hk
 exact h.tie.ty f (by simpa using hf) k hk
theorem RdInv.waits (h : RdInv E u v s fl) : fl.length ≤ 60001 := by
 have h1 := h.tie.len
 have h2 := h.left
 unfold leftF at h2
 rw [List.length_reverse] at h1
 omega
def WSet (E : RdE) (v : RdV) (L : List Nat) (k : Nat) : Prop := k = E.rb ∨ v.wv.ownBlock = some k ∨ v.nv.ownBlock = some k ∨ k = E.mb ∨ k ∈ L
theorem RdInv.wset (h : RdInv E u v s fl) {L : List Nat} (hL : ∀ k ∈ L, k ∈ opL fl) (b : Nat) (hb : WSet E v L b) : ¬ SOf u (opE E fl) b := by
 rintro ⟨h1, h2⟩
 rcases hb with rfl | hb | hb | rfl | hb
 ·exact h1.ne h.rty (by decide) rfl
 ·exact h1.ne (h.row.ty hb) (by decide) rfl
 ·exact h1.ne (h.nm.ty hb) (by decide) rfl
 ·exact h.vars.map.ne h1 rfl
 ·exact h2 (List.mem_append_left _ (hL b hb))
theorem RdInv.old (h : RdInv E u v s fl) {L : List Nat} (hL : ∀ k ∈ L, k ∈ opL fl) (b : Nat) (hb : b < E.B) : ¬ WSet E v L b := by
 have hB := h.r.base
 rintro (rfl | hw | hw | rfl | hw)
 ·omega
 ·have := (h.row.lt b hw).1; omega
 ·have := (h.nm.lt b hw).1; omega
 ·have := h.Bmb; omega
 ·have := (h.open_ty (hL b hw)).2; omega
structure BelE (E : RdE) (u u' : World) : Prop where
 b : Below E.B u u'
 fix : ∀ p ∈ E.fix, u'.heap[p.1]? = u.heap[p.1]?
theorem BelE.trans {w : World} (h : BelE E u u') (k : BelE E u' w) : BelE E u w := ⟨h.b.trans k.b, fun p hp => (k.fix p hp).trans (h.fix p hp)⟩
theorem RdInv.fixW (h : RdInv E u v s fl) {L : List Nat} (hL : ∀ k ∈ L, k ∈ opL fl) (p : Nat × Array Value × TypeId) (hp : p ∈ E.fix) : p.1 < u.heap.size ∧ ¬ WSet E v L p.1 := by
 obtain ⟨h1, h2, h3, h4, h5⟩ := h.fix p hp
 have ht : TyB u p.2.2 p.1 := ⟨_, h1⟩
 refine ⟨ht.lt, ?_⟩
 rintro (e | e | e | e | e)
 ·exact ht.ne h.rty h3 e
 ·exact ht.ne (h.row.ty e) h4 rfl
 ·exact ht.ne (h.nm.ty e) h5 rfl
 ·exact h.vars.map.ne ht e.symm
 ·exact h2 (hL _ e)
theorem RdInv.below (h : RdInv E u v s fl) {L : List Nat} (hL : ∀ k ∈ L, k ∈ opL fl) (hF : Fr (WSet E v L) u u') : BelE E u u' :=
 ⟨hF.below (Nat.le_trans h.r.base (Nat.le_of_lt h.r.blk.lt)) fun k hk => h.old hL k hk, fun p hp => hF.block p.1 (h.fixW hL p hp).1 (h.fixW hL p hp).2⟩
theorem RdInv.step (h : RdInv E u v s fl) {L : List Nat} (hL : ∀ k ∈ L, k ∈ opL fl) (hF : Fr (WSet E v L) u u') {v' : RdV} {s' : RdS} {fl' : List FrV} (r : RdAt u' E.rb v' E.ts s' E.B) (row : WRow u' E.rb v'.wv fl')
    (evb : v'.vb = v.vb) (eob : v'.ob = v.ob) (ebv : v'.bv = v.bv) (vars : VarsAt u' E.mb s'.vars) (nm : NRow u' E.rb v'.nv s'.names)
    (hl : ∀ b ∈ opL fl', b ∈ opL fl ∨ u.heap.size ≤ b) (tie : Ties u' E.rb (SOf u' (opE E fl')) fl'.reverse s'.wait) (x : TermS u' (SOf u' (opE E fl')) v'.x s'.t) (nd : (opL fl').Nodup)
    (hless : leftF E.ts s' < leftF E.ts s) (ll : ∀ w ∈ s'.wait, (∃ w0 ∈ s.wait, w.l.length ≤ w0.l.length + 1) ∨ w.l.length ≤ 1)
    (hc : s'.cnt = s.cnt ∨ s'.cnt = s.cnt + 1) (hn : s'.names.length ≤ s.names.length + 1) : RdInv E u' v' s' fl' where
 r := r
 row := row
 vb := evb.trans h.vb
 ob := eob.trans h.ob
 bv := ebv.trans h.bv
 mbr := h.mbr
 Bmb := h.Bmb
 rbb := h.rbb
 mbb := h.mbb
 vars := vars
 beg := h.beg.keep (hF.block E.bb h.beg.lt (by
  rintro (e | e | e | e | e)
  ·have := h.rbb; omega
  ·exact h.beg.ne (h.row.ty e) rfl
  ·exact h.beg.ne (h.nm.ty e) rfl
  ·exact h.mbb e.symm
  ·exact h.beg.ne (h.open_ty (hL _ e)).1 rfl))
 nm := nm
 tab := h.tab.below (h.below hL hF).b h.btr h.bmr
 kinds := h.kinds.below (h.below hL hF).b h.kr
 btr := h.btr
 bmr := h.bmr
 kr := h.kr
 tie := tie
 x := x
 nd := nd
 fix := fun p hp => by
  obtain ⟨h1, h2, h3, h4, h5⟩ := h.fix p hp
  obtain ⟨k1, k2⟩ := h.fixW hL p hp
  refine ⟨(hF.block p.1 k1 k2).trans h1, fun e => ?_, h3, h4, h5⟩
  ·rcases hl _ e with e | e
   ·exact h2 e
   ·omega
 short := h.short
 num := h.num
 left := by have := h.left; omega
 ll := fun w hw => by
  rcases ll w hw with ⟨w0, h0, h1⟩ | h1
  ·have := h.ll w0 h0; omega
  ·have := h.left; omega
 c0 := by have := h.c0; omega
 cn := by have := h.cn; omega
 nn := by have := h.nn; omega
theorem RdInv.keepS (h : RdInv E u v s fl) {L : List Nat} (hL : ∀ k ∈ L, k ∈ opL fl) (hF : Fr (WSet E v L) u u') {fl' : List FrV} (hl : ∀ b ∈ opL fl', b ∈ opL fl ∨ u.heap.size ≤ b) :
    ∀ b, SOf u (opE E fl) b → SOf u' (opE E fl') b ∧ u'.heap[b]? = u.heap[b]? := SOf.step hF (h.wset hL) fun b hb => by
 rcases List.mem_append.1 hb with hb | hb
 ·exact (hl b hb).imp (fun e => List.mem_append_left _ e) id
 ·exact .inl (List.mem_append_right _ hb)
theorem RdInv.keepV (h : RdInv E u v s fl) (hF : Fr (fun k => k = E.rb ∨ v.wv.ownBlock = some k) u u') : VarsAt u' E.mb s.vars := ⟨h.vars.map.keep (hF.block E.mb h.vars.map.lt (by
    rintro (e | e)
    ·exact h.mbr e
    ·exact h.vars.map.ne (h.row.ty e) rfl)), h.vars.ok⟩
theorem RdInv.keepN (h : RdInv E u v s fl) (hF : Fr (fun k => k = E.rb ∨ v.wv.ownBlock = some k) u u') : NRow u' E.rb v.nv s.names := Row.keep h.nm fun k hk => hF.block k (h.nm.lt k hk).2 (by
    rintro (e | e)
    ·have := (h.nm.lt k hk).1; omega
    ·exact (h.nm.ty hk).ne (h.row.ty e) (by decide) rfl)
theorem fr_w {L : List Nat} (hF : Fr (fun k => k = E.rb ∨ v.wv.ownBlock = some k) u u') : Fr (WSet E v L) u u' := hF.weak fun _ hk => hk.elim .inl fun e => .inr (.inl e)
theorem RdInv.keepT (h : RdInv E u v s fl) (hF : Fr (fun k => k = E.rb ∨ v.wv.ownBlock = some k) u u') {fl' : List FrV} (hl : ∀ b ∈ opL fl', b ∈ opL fl ∨ u.heap.size ≤ b) : Ties u' E.rb (SOf u' (opE E fl')) fl.reverse s.wait :=
 h.tie.step (fun f hf k hk => by
  obtain ⟨h1, h2⟩ := h.tie.ty f hf k hk
  refine hF.block k h1.lt ?_
  rintro (e | e)
  ·omega
  ·exact h1.ne (h.row.ty e) (by decide) rfl) (h.keepS (L := []) (fun _ hk => by cases hk) (fr_w hF) hl)
end
def RdOut (E : RdE) (u u' : World) (r : Except Nat RdS) (e : Ending) : Prop :=
 BelE E u u' ∧ match r with
  | .error a => e = gaveUp ∧ ∃ s' v', s'.at' = a ∧ RdAt u' E.rb v' E.ts s' E.B
  | .ok s' => e = .returned (.tuple #[]) ∧ ∃ v' fl', RdInv E u' v' s' fl'
section
variable {E : RdE} {u u' : World} {v : RdV} {s : RdS} {fl : List FrV}
theorem opL_frOf (fl : List FrV) (w : WaitF) : opL (fl ++ [frOf w]) = opL fl := by
 rw [opL_app]
 show opL fl ++ [] = opL fl
 simp
theorem RdInv.prim (h : RdInv E u v s fl) {r : Except Nat RdS} {e : Ending} (hF : Fr (fun k => k = E.rb ∨ v.wv.ownBlock = some k) u u') (ho : PrimOut u' E.rb v E.ts s E.B fl r e)
    (hr : ∀ s', r = .ok s' → s'.vars = s.vars ∧ s'.names = s.names ∧ s'.cnt = s.cnt ∧ leftF E.ts s' < leftF E.ts s ∧ (∀ w, s'.wait = w :: s.wait → w.name.length ≤ maxLen) ∧ (s'.wait = s.wait → s'.t.s.length ≤ maxLen)) : RdOut E u u' r e := by
 have hnil : ∀ k ∈ ([] : List Nat), k ∈ opL fl := fun k hk => by cases hk
 refine ⟨h.below hnil (fr_w hF), ?_⟩
 cases r with
 | error a =>
  obtain ⟨h1, s', h2, h3⟩ := ho
  exact ⟨h1, s', v, h2, h3⟩
 | ok s' =>
  obtain ⟨h1, v', h2, hc, hob, hbv, hvb, hnv, _, _, h3⟩ := ho
  obtain ⟨q1, q2, q3, q4, q5, q6⟩ := hr s' rfl
  refine ⟨h1, v', ?_⟩
  rcases h3 with ⟨ex, et, w, ew, el, hrow⟩ | ⟨ewv, ew, hrow, k, n, y, ex, et⟩
  ·have hl : ∀ b ∈ opL (fl ++ [frOf w]), b ∈ opL fl ∨ u.heap.size ≤ b := fun b hb => .inl (by rw [opL_frOf] at hb; exact hb)
   refine ⟨fl ++ [frOf w], h.step hnil (fr_w hF) h2 hrow hvb hob hbv (by rw [q1]; exact h.keepV hF) (by rw [hnv, q2]; exact h.keepN hF) hl ?_ ?_ (by rw [opL_frOf]; exact h.nd) q4 ?_ (.inl q3) (by rw [q2]; omega)⟩
   ·rw [List.reverse_append, ew]
    exact .cons ⟨rfl, rfl, rfl, rfl, q5 w ew, [], Row.nil _ _ _ _ _, by rw [el]; exact TermsS.nil _ _⟩ (h.keepT hF hl)
   ·rw [ex, et]
    exact h.x.step (h.keepS hnil (fr_w hF) hl)
   ·intro w' hw'
    rw [ew] at hw'
    rcases List.mem_cons.1 hw' with rfl | hw'
    ·right; rw [el]; simp
    ·exact .inl ⟨w', hw', by omega⟩
  ·have hl : ∀ b ∈ opL fl, b ∈ opL fl ∨ u.heap.size ≤ b := fun b hb => .inl hb
   refine ⟨fl, h.step hnil (fr_w hF) h2 hrow hvb hob hbv (by rw [q1]; exact h.keepV hF) (by rw [hnv, q2]; exact h.keepN hF) hl (by rw [ew]; exact h.keepT hF hl) ?_ h.nd q4 (fun w' hw' => .inl ⟨w', by rw [← ew]; exact hw', by omega⟩) (.inl q3) (by rw [q2]; omega)⟩
   rw [ex, et]
   exact .leaf _ _ _ _ _ _ _ (by have := q6 ew; rw [et] at this; exact this)
end
end Go.Proofs.YtcallkljcjimiaaGreatDoor
namespace Go.Proofs.YtcallkljcjimiaaGreatDoor
structure OpR where
 side : Int
 pri : Int
 name : List UInt8
 left : Bool
 right : Bool
def consT (t : Tm) : Bool := decide (t.k = 4) && (decide (t.s = [46]) && decide (t.args.length = 2))
def operF (es : List (OpK × OpV)) (way : Int) (t : Tm) : Option OpR :=
 if way = 2 ∨ t.k ≠ 4 ∨ consT t = true then none
 else if t.args.length = 1 then
  (if 0 < (tsides es 1 t.s).1 then some ⟨1, (tsides es 1 t.s).1, t.s, false, false⟩
  else if 0 < (tsides es 3 t.s).1 then some ⟨3, (tsides es 3 t.s).1, t.s, false, false⟩ else none)
 else if t.args.length = 2 then
  (if 0 < (tsides es 2 t.s).1 then some ⟨2, (tsides es 2 t.s).1, t.s, decide ((tsides es 2 t.s).2.1 = (tsides es 2 t.s).1), decide ((tsides es 2 t.s).2.2 = (tsides es 2 t.s).1)⟩ else none)
 else none
def textF (way : Int) (s : List UInt8) : List UInt8 := if way = 0 then s else putB s
def withinF (es : List (OpK × OpV)) (way : Int) (t : Tm) (o : OpR) (same : Bool) : Bool :=
 if t.k = 3 then isOp es t.s
 else if t.k = 2 then decide (t.n < 0)
 else if t.k = 4 then
  (match operF es way t with
  | some p => decide (o.pri ≤ p.pri) && !(same && (decide (p.side = 2) && decide (p.name = o.name)))
  | none => false)
 else false
def consF : Nat → Tm → List Tm × Tm
 | 0, t => ([], t)
 | f + 1, t => if consT t = true then (t.args.getD 0 noTm :: (consF f (t.args.getD 1 noTm)).1, (consF f (t.args.getD 1 noTm)).2) else ([], t)
section
variable (es : List (OpK × OpV)) (way : Int) (g : Tm → Int → List UInt8)
def commaF : List Tm → List UInt8
 | [] => []
 | [t] => g t 999
 | t :: r => g t 999 ++ 44 :: commaF r
def operandF (t : Tm) (o : OpR) (same : Bool) : List UInt8 := if withinF es way t o same then 40 :: (g t 1200 ++ [41]) else g t 1200
def operateF (o : OpR) (l : List Tm) : List UInt8 :=
 if o.side = 1 then textF way o.name ++ 32 :: operandF es way g (l.getD 0 noTm) o false
 else if o.side = 3 then operandF es way g (l.getD 0 noTm) o false ++ 32 :: textF way o.name
 else operandF es way g (l.getD 0 noTm) o o.left ++ ((if o.name = [44] then [44] else 32 :: (textF way o.name ++ [32])) ++ operandF es way g (l.getD 1 noTm) o o.right)
def tailF (t : Tm) : List UInt8 := if t.k = 3 ∧ t.s = [91, 93] then [] else 124 :: g t 999
def listF (t : Tm) : List UInt8 := 91 :: (commaF g (consF t.size t).1 ++ (tailF g (consF t.size t).2 ++ [93]))
def compF (t : Tm) (most : Int) : List UInt8 :=
 if consT t = true then listF g t
 else if way ≠ 2 ∧ t.s = [123, 125] ∧ t.args.length = 1 then 123 :: (g (t.args.getD 0 noTm) 1200 ++ [125])
 else match operF es way t with
  | none => textF way t.s ++ 40 :: (commaF g t.args ++ [41])
  | some o => if most < o.pri then 40 :: (operateF es way g o t.args ++ [41]) else operateF es way g o t.args
def wrStep (t : Tm) (most : Int) : List UInt8 :=
 if t.k = 1 then 95 :: Lib.itoa t.n
 else if t.k = 2 then Lib.itoa t.n
 else if t.k = 3 then textF way t.s
 else compF es way g t most
end
def wrF (es : List (OpK × OpV)) (way : Int) : Nat → Tm → Int → List UInt8
 | 0, _, _ => []
 | f + 1, t, most => wrStep es way (wrF es way f) t most
def wrT (es : List (OpK × OpV)) (way : Int) (t : Tm) (most : Int) : List UInt8 := wrF es way t.size t most
theorem arg_size {t : Tm} {i : Nat} (h : i < t.args.length) : (t.args.getD i noTm).size < t.size := by
 have h1 := mem_sizes t.args (t.args.getD i noTm) (by rw [List.getD_eq_getElem?_getD, List.getElem?_eq_getElem h]; exact List.getElem_mem h)
 have h2 := size_args t
 omega
theorem consT_len {t : Tm} (h : consT t = true) : t.k = 4 ∧ t.s = [46] ∧ t.args.length = 2 := by
 unfold consT at h
 simpa using h
theorem consF_size : ∀ (f : Nat) (t : Tm), (∀ x ∈ (consF f t).1, x.size < t.size) ∧ (consF f t).2.size ≤ t.size ∧ (consT t = true → 0 < f → (consF f t).2.size < t.size)
 | 0, t => ⟨fun x hx => (by cases hx), Nat.le_refl _, fun _ h => absurd h (Nat.lt_irrefl _)⟩
 | f + 1, t => by
  unfold consF
  by_cases h : consT t = true
  ·rw [if_pos h]
   obtain ⟨_, _, h3⟩ := consT_len h
   have h0 := arg_size (t := t) (i := 0) (by omega)
   have h1 := arg_size (t := t) (i := 1) (by omega)
   obtain ⟨i1, i2, _⟩ := consF_size f (t.args.getD 1 noTm)
   refine ⟨fun x hx => ?_, by simp only; omega, fun _ _ => by simp only; omega⟩
   rcases List.mem_cons.1 hx with rfl | hx
   ·exact h0
   ·have := i1 x hx; omega
  ·rw [if_neg h]
   exact ⟨fun x hx => (by cases hx), Nat.le_refl _, fun h' => absurd h' h⟩
theorem commaF_congr {g g' : Tm → Int → List UInt8} : ∀ (l : List Tm), (∀ t ∈ l, ∀ m, g t m = g' t m) → commaF g l = commaF g' l
 | [], _ => rfl
 | [t], h => h t (by simp) 999
 | t :: u :: r, h => by
  have ih := commaF_congr (u :: r) (fun x hx => h x (List.mem_cons_of_mem _ hx))
  simp only [commaF] at ih ⊢
  rw [h t (by simp) 999, ih]
theorem wrStep_congr {es : List (OpK × OpV)} {way : Int} {g g' : Tm → Int → List UInt8} (t : Tm) (most : Int) (h : ∀ x : Tm, x.size < t.size → ∀ m, g x m = g' x m) : wrStep es way g t most = wrStep es way g' t most := by
 have ha : ∀ x ∈ t.args, ∀ m, g x m = g' x m := fun x hx => h x (by have h1 := mem_sizes t.args x hx; have h2 := size_args t; omega)
 have hd : ∀ i, i < t.args.length → ∀ m, g (t.args.getD i noTm) m = g' (t.args.getD i noTm) m := fun i hi => h _ (arg_size hi)
 have hop : ∀ i, i < t.args.length → ∀ o same, operandF es way g (t.args.getD i noTm) o same = operandF es way g' (t.args.getD i noTm) o same := fun i hi o same => by
  unfold operandF
  rw [hd i hi]
 unfold wrStep
 split
 ·rfl
 ·split
  ·rfl
  ·split
   ·rfl
   ·unfold compF
    split
    ·rename_i hc
     have hpos : 0 < t.size := size_pos t
     obtain ⟨i1, _, i3⟩ := consF_size t.size t
     unfold listF tailF
     rw [commaF_congr (g := g) (g' := g') _ (fun x hx => h x (i1 x hx)), h _ (i3 hc hpos)]
    ·split
     ·rename_i h1
      rw [hd 0 (by omega)]
     ·have ho1 : ∀ o, operF es way t = some o → operateF es way g o t.args = operateF es way g' o t.args := fun o ho => by
       have hlen : (o.side = 1 ∨ o.side = 3 → 0 < t.args.length) ∧ (¬ o.side = 1 → ¬ o.side = 3 → 1 < t.args.length) := by
        unfold operF at ho
        split at ho
        ·cases ho
        ·split at ho
         ·rename_i hl
          split at ho
          ·injection ho with ho
           subst ho
           exact ⟨fun _ => by omega, fun e => absurd rfl e⟩
          ·split at ho
           ·injection ho with ho
            subst ho
            exact ⟨fun _ => by omega, fun _ e => absurd rfl e⟩
           ·cases ho
         ·split at ho
          ·rename_i hl
           split at ho
           ·injection ho with ho
            subst ho
            exact ⟨fun _ => by omega, fun _ _ => by omega⟩
           ·cases ho
          ·cases ho
       unfold operateF
       split
       ·rename_i h1
        rw [hop 0 (hlen.1 (.inl h1))]
       ·split
        ·rename_i h1
         rw [hop 0 (hlen.1 (.inr h1))]
        ·rename_i h1 h2
         have := hlen.2 h1 h2
         rw [hop 0 (by omega), hop 1 (by omega)]
      split
      ·rw [commaF_congr _ ha]
      ·rename_i o ho
       rw [ho1 o ho]
theorem wrF_fuel (es : List (OpK × OpV)) (way : Int) : ∀ (n f g : Nat) (t : Tm) (most : Int), t.size ≤ n → t.size ≤ f → t.size ≤ g → wrF es way f t most = wrF es way g t most
 | 0, _, _, t, _, h, _, _ => by have := size_pos t; omega
 | n + 1, f, g, t, most, h, hf, hg => by
  have := size_pos t
  obtain ⟨f, rfl⟩ : ∃ k, f = k + 1 := ⟨f - 1, by omega⟩
  obtain ⟨g, rfl⟩ : ∃ k, g = k + 1 := ⟨g - 1, by omega⟩
  rw [wrF, wrF]
  exact wrStep_congr t most fun x hx m => wrF_fuel es way n f g x m (by omega) (by omega) (by omega)
theorem wrT_step (es : List (OpK × OpV)) (way : Int) (t : Tm) (most : Int) : wrT es way t most = wrStep es way (wrT es way) t most := by
 have hp := size_pos t
 unfold wrT
 obtain ⟨f, hf⟩ : ∃ k, t.size = k + 1 := ⟨t.size - 1, by omega⟩
 rw [hf, wrF]
 exact wrStep_congr t most fun x hx m => wrF_fuel es way x.size f x.size x m (Nat.le_refl _) (by omega) (Nat.le_refl _)
end Go.Proofs.YtcallkljcjimiaaGreatDoor
namespace Go.Proofs.YtcallkljcjimiaaGreatDoor
section
variable {es : List (OpK × OpV)} {g0 g1 : Tm → Int → List UInt8}
end
section
variable {es : List (OpK × OpV)} {g0 g1 : Tm → Int → List UInt8}
theorem oper_name {way : Int} {t : Tm} {o : OpR} (h : operF es way t = some o) : o.name = t.s ∧ t.k = 4 ∧ ((o.side = 1 ∨ o.side = 3) ∧ t.args.length = 1 ∨ o.side = 2 ∧ t.args.length = 2) := by
 unfold operF at h
 split at h
 ·cases h
 ·rename_i hn
  have hk : t.k = 4 := Classical.byContradiction fun e => hn (.inr (.inl e))
  split at h
  ·rename_i hl
   split at h
   ·injection h with h
    subst h
    exact ⟨rfl, hk, .inl ⟨.inl rfl, hl⟩⟩
   ·split at h
    ·injection h with h
     subst h
     exact ⟨rfl, hk, .inl ⟨.inr rfl, hl⟩⟩
    ·cases h
  ·split at h
   ·rename_i hl
    split at h
    ·injection h with h
     subst h
     exact ⟨rfl, hk, .inr ⟨rfl, hl⟩⟩
    ·cases h
   ·cases h
theorem may_parts {t : Tm} (h : t.may = true) : (t.k = 1 ∨ t.k = 2 ∨ t.k = 3 ∨ t.k = 4) ∧ ∀ x ∈ t.args, x.may = true := by
 obtain ⟨k, n, s, l⟩ := t
 rw [Tm.may, Bool.and_eq_true] at h
 refine ⟨?_, ?_⟩
 ·show k = 1 ∨ k = 2 ∨ k = 3 ∨ k = 4
  have h1 := h.1
  unfold mayP at h1
  split at h1
  ·omega
  ·split at h1
   ·omega
   ·split at h1
    ·omega
    ·split at h1
     ·omega
     ·cases h1
 ·have : ∀ (l : List Tm), Tm.mays l = true → ∀ x ∈ l, x.may = true := by
   intro l
   induction l with
   | nil => intro _ x hx; cases hx
   | cons a l ih =>
    intro hl x hx
    rw [Tm.mays, Bool.and_eq_true] at hl
    rcases List.mem_cons.1 hx with rfl | hx
    ·exact hl.1
    ·exact ih hl.2 x hx
  exact this l h.2
end
end Go.Proofs.YtcallkljcjimiaaGreatDoor
