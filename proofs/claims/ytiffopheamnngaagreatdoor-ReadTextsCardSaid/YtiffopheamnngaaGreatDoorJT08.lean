import Derived.Test.YtiffopheamnngaaGreatDoorJT07
namespace Go.Proofs.YtiffopheamnngaaGreatDoor
open Go.RowKit Go.Maps
set_option maxRecDepth 100000
def TyQ (u : World) (t : TypeId) (b : Nat) : Prop := ∃ cs, u.heap[b]? = some (.cells cs t (0, 0))
theorem TyQ.ne {u : World} {t t' : TypeId} {b b' : Nat} (h : TyQ u t b) (h' : TyQ u t' b') (hn : t ≠ t') : b ≠ b' := by
 rintro rfl
 obtain ⟨c, h⟩ := h
 obtain ⟨c', h'⟩ := h'
 rw [h] at h'
 injection h' with h'
 injection h' with _ h'
 exact hn h'
theorem TyQ.keep {u u' : World} {t : TypeId} {b : Nat} (h : TyQ u t b) (hb : u'.heap[b]? = u.heap[b]?) : TyQ u' t b := by
 obtain ⟨c, h⟩ := h
 exact ⟨c, hb.trans h⟩
theorem TyQ.lt {u : World} {t : TypeId} {b : Nat} (h : TyQ u t b) : b < u.heap.size := by
 obtain ⟨c, h⟩ := h
 exact (Array.getElem?_eq_some_iff.1 h).1
theorem Row.tyq {α : Type} {w : World} {B sz : Nat} {e : TypeId} {enc : α → List Value} {v : Value} {l : List α} (h : Row w B e sz enc v l) {g : Nat} (hg : v.ownBlock = some g) : TyQ w e g := by
 rcases h.own.2 with ⟨rfl, _⟩ | ⟨g', cap, cur, rfl, _, hgg, _⟩
 ·cases hg
 ·injection hg with hg
  subst hg
  exact ⟨cur, hgg⟩
def encBi (x : List UInt8 × Int) : List Value := [.string ⟨x.1.toArray⟩, .int .i64 x.2]
theorem encBi_one (x : List UInt8 × Int) : ∀ u ∈ encBi x, u.oneCell' = true := by
 intro u hu
 simp only [encBi, List.mem_cons, List.mem_nil_iff, or_false] at hu
 rcases hu with rfl | rfl <;> rfl
theorem encBi_len (x : List UInt8 × Int) : (encBi x).length = 2 := rfl
theorem bind6_info : ∃ i z, Tryz.prog.info? 83 = some i ∧ i.zero = some z ∧ i.size = 2 ∧ i.bytes = 24 ∧ z.cells.size = 2 := by
 refine ⟨_, _, rfl, rfl, ?_, ?_, ?_⟩ <;> kernel_rfl
structure TabB (u : World) (B rt : Nat) (L : List DefT) : Prop where
 lt : rt < B
 ex : ∃ v, u.cell? ⟨rt, 0, none⟩ = some v ∧ u.frozen? ⟨rt, 0, none⟩ = false ∧ Row u (rt + 1) 56 3 encDef v L ∧ ∀ k, v.ownBlock = some k → k < B
theorem TabB.tab {u : World} {B rt : Nat} {L : List DefT} (h : TabB u B rt L) : RTab u rt L := by
 obtain ⟨v, h1, h2, h3, _⟩ := h.ex
 exact ⟨v, h1, h2, h3⟩
theorem TabB.keep {u u' : World} {B rt : Nat} {L : List DefT} (h : TabB u B rt L) (hb : ∀ k, k < B → u'.heap[k]? = u.heap[k]?) : TabB u' B rt L := by
 obtain ⟨v, h1, h2, h3, h4⟩ := h.ex
 exact ⟨h.lt, v, (World.cell?_of_block (a := ⟨rt, 0, none⟩) (hb rt h.lt)).trans h1, (World.frozen?_of_block (a := ⟨rt, 0, none⟩) (hb rt h.lt)).trans h2, h3.keep fun k hk => hb k (h4 k hk), h4⟩
theorem RTab.tabB {u : World} {rt : Nat} {L : List DefT} (h : RTab u rt L) : TabB u u.heap.size rt L := by
 obtain ⟨v, h1, h2, h3⟩ := h.ex
 exact ⟨h.lt, v, h1, h2, h3, fun k hk => (h3.lt k hk).2⟩
def opsQ (es : List (OpK × OpV)) : OpsF := ⟨fun n => ((tsides es 1 n).1, (tsides es 1 n).2.2), fun n => tsides es 2 n, fun n => ((tsides es 3 n).1, (tsides es 3 n).2.1)⟩
structure RqE where
 rb : Nat
 B : Nat
 ts : List Tok
 es : List (OpK × OpV)
 L : List DefT
 A : Option Addr
 c : Nat
 rt : Nat
def rqCells (E : RqE) (nv : Value) (q : QS) (bad : Bool) : Array Value := #[.slice E.A E.ts.length E.c, .int .i64 (q.at' : Int), .pointer (some ⟨E.rt, 0, none⟩), .int .i64 q.cnt, nv, .bool bad]
structure RqCo (E : RqE) (u : World) (nv : Value) (q : QS) (bad : Bool) : Prop where
 blk : u.heap[E.rb]? = some (.cells (rqCells E nv q bad) 79 (0, 0))
 toks : ToksAt u E.B E.A E.ts.length E.ts
 base : E.B ≤ E.rb
 few : E.ts.length ≤ 20000
 in' : q.at' ≤ E.ts.length
 tab : TabB u E.B E.rt E.L
 agree : Agree E.es E.L
 fewL : E.L.length ≤ 1000
 cnt : 0 ≤ q.cnt ∧ q.cnt ≤ q.at'
 nm : q.names.length ≤ q.at'
 short : ∀ t ∈ E.ts, t.s.length ≤ 1000000
 num : ∀ t ∈ E.ts, -9223372036854775808 ≤ t.n ∧ t.n ≤ 9223372036854775807
structure RqAt (E : RqE) (u : World) (nv : Value) (q : QS) (bad : Bool) : Prop extends RqCo E u nv q bad where
 names : Row u (E.rb + 1) 83 2 encBi nv q.names
section
variable {E : RqE} {u u' u'' : World} {nv nv' nv'' : Value} {q q' : QS} {bad bad' : Bool}
theorem RqCo.lt (h : RqCo E u nv q bad) : E.rb < u.heap.size := (Array.getElem?_eq_some_iff.1 h.blk).1
theorem RqCo.ty (h : RqCo E u nv q bad) : TyQ u 79 E.rb := ⟨_, h.blk⟩
theorem RqCo.cells (h : RqCo E u nv q bad) : (u.cell? ⟨E.rb, 0, none⟩ = some (.slice E.A E.ts.length E.c) ∧ u.cell? ⟨E.rb, 1, none⟩ = some (.int .i64 (q.at' : Int)) ∧ u.cell? ⟨E.rb, 2, none⟩ = some (.pointer (some ⟨E.rt, 0, none⟩)) ∧ u.cell? ⟨E.rb, 3, none⟩ = some (.int .i64 q.cnt) ∧ u.cell? ⟨E.rb, 4, none⟩ = some nv ∧ u.cell? ⟨E.rb, 5, none⟩ = some (.bool bad)) ∧ ∀ o, u.frozen? ⟨E.rb, o, none⟩ = false := by
 obtain ⟨h0, h1, h2, h3, h4, h5, h6⟩ := six_at h.blk
 exact ⟨⟨h0, h1, h2, h3, h4, h5⟩, h6⟩
theorem RqCo.keep (h : RqCo E u nv q bad) (hb : ∀ k, k < E.B → u'.heap[k]? = u.heap[k]?) (hr : u'.heap[E.rb]? = u.heap[E.rb]?) : RqCo E u' nv q bad :=
 ⟨hr.trans h.blk, h.toks.keep hb, h.base, h.few, h.in', h.tab.keep hb, h.agree, h.fewL, h.cnt, h.nm, h.short, h.num⟩
theorem RqCo.later (h : RqCo E u nv q bad) (hb : Below u.heap.size u u') : RqCo E u' nv q bad :=
 h.keep (fun k hk => hb.block k (by have := h.lt; have := h.base; omega)) (hb.block _ h.lt)
theorem RqCo.grown {w' w9 : World} {row : Option Nat} (h : RqCo E u nv q bad) (hb : Below u.heap.size u w') (hg : w'.grownBy w9 row) (hrow : ∀ k, row = some k → E.rb < k) : RqCo E w9 nv q bad :=
 (h.later hb).keep (fun k hk => hg.block k (by have := h.lt; have := h.base; have := hb.size; omega) fun e => by have := hrow k e.symm; have := h.base; omega) (hg.block E.rb (Nat.lt_of_lt_of_le h.lt hb.size) fun e => absurd (hrow _ e.symm) (Nat.lt_irrefl _))
theorem RqCo.put (h : RqCo E u nv q bad) (i : Nat) (x : Value) (he : (rqCells E nv q bad).setIfInBounds i x = rqCells E nv' q' bad') (hi : q'.at' ≤ E.ts.length) (hc : 0 ≤ q'.cnt ∧ q'.cnt ≤ q'.at') (hl : q'.names.length ≤ q'.at') : RqCo E (u.setCell ⟨E.rb, i, none⟩ x) nv' q' bad' := by
 have h1 := blk_put (i := i) h.blk x
 rw [he] at h1
 have hb : ∀ k, k ≠ E.rb → (u.setCell ⟨E.rb, i, none⟩ x).heap[k]? = u.heap[k]? := fun k hk => Below.heap_setCell _ _ _ _ (by simpa using hk)
 exact ⟨h1, h.toks.keep fun k hk => hb k (by have := h.base; omega), h.base, h.few, hi, h.tab.keep fun k hk => hb k (by have := h.base; omega), h.agree, h.fewL, hc, hl, h.short, h.num⟩
theorem RqAt.keep (h : RqAt E u nv q bad) (hb : ∀ k, k < E.B → u'.heap[k]? = u.heap[k]?) (hr : u'.heap[E.rb]? = u.heap[E.rb]?) (hn : ∀ k, nv.ownBlock = some k → u'.heap[k]? = u.heap[k]?) : RqAt E u' nv q bad :=
 ⟨h.toRqCo.keep hb hr, h.names.keep hn⟩
theorem RqAt.later (h : RqAt E u nv q bad) (hb : Below u.heap.size u u') : RqAt E u' nv q bad := ⟨h.toRqCo.later hb, h.names.later hb⟩
theorem RqAt.put (h : RqAt E u nv q bad) (i : Nat) (x : Value) (he : (rqCells E nv q bad).setIfInBounds i x = rqCells E nv q' bad') (hi : q'.at' ≤ E.ts.length) (hnm : q'.names = q.names) (hc : 0 ≤ q'.cnt ∧ q'.cnt ≤ q'.at') (hl : q'.names.length ≤ q'.at') : RqAt E (u.setCell ⟨E.rb, i, none⟩ x) nv q' bad' :=
 ⟨h.toRqCo.put i x he hi hc hl, by rw [hnm]; exact h.names.keep fun k hk => Below.heap_setCell _ _ _ _ (by have := (h.names.lt k hk).1; show k ≠ E.rb; omega)⟩
structure RqF (E : RqE) (u : World) (nv : Value) (u' : World) (nv' : Value) : Prop where
 fr : Fr (fun k => k = E.rb ∨ nv.ownBlock = some k) u u'
 own : ∀ k, nv'.ownBlock = some k → nv.ownBlock = some k ∨ u.heap.size ≤ k
theorem RqF.refl (E : RqE) (u : World) (nv : Value) : RqF E u nv u nv := ⟨Fr.refl _ _, fun _ h => .inl h⟩
theorem RqF.trans (h : RqF E u nv u' nv') (h' : RqF E u' nv' u'' nv'') : RqF E u nv u'' nv'' := by
 refine ⟨⟨h'.fr.os.trans h.fr.os, h'.fr.tape.trans h.fr.tape, h'.fr.output.trans h.fr.output, Nat.le_trans h.fr.size h'.fr.size, fun k hk hn => ?_⟩, fun k hk => ?_⟩
 ·rw [h'.fr.block k (Nat.lt_of_lt_of_le hk h.fr.size) fun e => ?_, h.fr.block k hk hn]
  rcases e with e | e
  ·exact hn (.inl e)
  ·rcases h.own k e with e | e
   ·exact hn (.inr e)
   ·omega
 ·rcases h'.own k hk with e | e
  ·exact h.own k e
  ·exact .inr (Nat.le_trans h.fr.size e)
theorem RqF.below (h : RqF E u nv u' nv') (hb : Below u'.heap.size u' u'') : RqF E u nv u'' nv' := ⟨h.fr.step hb, h.own⟩
theorem RqF.of_below (E : RqE) (nv : Value) (hb : Below u.heap.size u u') : RqF E u nv u' nv := (RqF.refl E u nv).below hb
theorem RqF.set (h : RqF E u nv u' nv') {p : Addr} (hp : p.block = E.rb ∨ u.heap.size ≤ p.block) (x : Value) : RqF E u nv (u'.setCell p x) nv' := ⟨h.fr.setCell (hp.imp .inl id) x, h.own⟩
theorem RqF.size (h : RqF E u nv u' nv') : u.heap.size ≤ u'.heap.size := h.fr.size
theorem RqF.box (h : RqF E u nv u' nv') (ha : RqAt E u nv q bad) {b : Nat} {cs : Array Value} {t : TypeId} (hb : u.heap[b]? = some (.cells cs t (0, 0))) (h1 : t ≠ 79) (h2 : t ≠ 83) : u'.heap[b]? = some (.cells cs t (0, 0)) := by
 rw [h.fr.block b (Array.getElem?_eq_some_iff.1 hb).1 fun e => ?_, hb]
 rcases e with e | e
 ·exact (TyQ.ne ⟨_, hb⟩ ha.ty h1) e
 ·exact (TyQ.ne ⟨_, hb⟩ (ha.names.tyq e) h2) rfl
def NewX (s : Nat) (u : World) (X : Nat → Prop) (b : Nat) : Prop := s ≤ b ∧ TyQ u 34 b ∧ ¬ X b
abbrev NewT (s : Nat) (u : World) : Nat → Prop := NewX s u fun _ => False
theorem NewX.step {s : Nat} {X : Nat → Prop} (h : RqF E u nv u' nv') (ha : RqAt E u nv q bad) (b : Nat) (hb : NewX s u X b) : NewX s u' X b ∧ u'.heap[b]? = u.heap[b]? := by
 obtain ⟨h1, ⟨cs, h2⟩, h3⟩ := hb
 have h4 := h.box ha h2 (by decide) (by decide)
 exact ⟨⟨h1, ⟨cs, h4⟩, h3⟩, h4.trans h2.symm⟩
theorem NewX.below {s : Nat} {X : Nat → Prop} (h : Below u.heap.size u u') (b : Nat) (hb : NewX s u X b) : NewX s u' X b ∧ u'.heap[b]? = u.heap[b]? := by
 have h4 := h.block b hb.2.1.lt
 exact ⟨⟨hb.1, hb.2.1.keep h4, hb.2.2⟩, h4⟩
theorem NewX.set {s : Nat} {X : Nat → Prop} {p : Addr} (v : Value) (hp : X p.block ∨ p.block < s) (b : Nat) (hb : NewX s u X b) : NewX s (u.setCell p v) X b ∧ (u.setCell p v).heap[b]? = u.heap[b]? := by
 have h4 : (u.setCell p v).heap[b]? = u.heap[b]? := Below.heap_setCell _ _ _ _ fun e => by
  rcases hp with hp | hp
  ·exact hb.2.2 (by rw [e]; exact hp)
  ·have := hb.1; omega
 exact ⟨⟨hb.1, hb.2.1.keep h4, hb.2.2⟩, h4⟩
theorem TermS.go' {S S' : Nat → Prop} {x : TV} {t : Tm} (h : TermS u S x t) (hs : ∀ b, S b → S' b ∧ u'.heap[b]? = u.heap[b]?) : TermS u' S' x t := h.keep (fun b hb => (hs b hb).1) fun b hb => (hs b hb).2
theorem TermsS.go' {S S' : Nat → Prop} {x : List TV} {t : List Tm} (h : TermsS u S x t) (hs : ∀ b, S b → S' b ∧ u'.heap[b]? = u.heap[b]?) : TermsS u' S' x t := h.keep (fun b hb => (hs b hb).1) fun b hb => (hs b hb).2
def Says {α : Type} (res : Except Nat (α × QS)) (bad : Bool) (a : α) (q : QS) : Prop :=
 match res with
 | .error k => bad = true ∧ q.at' = k
 | .ok r => bad = false ∧ r = (a, q)
def RqPost (E : RqE) (u : World) (nv : Value) (res : Except Nat ((Tm × Int) × QS)) (e : Ending) (u' : World) : Prop :=
 ∃ (x : TV) (t : Tm) (p : Int) (nv' : Value) (q' : QS) (bad' : Bool), e = .returned (.tuple #[tvV x, .int .i64 p]) ∧ RqAt E u' nv' q' bad' ∧ RqF E u nv u' nv' ∧ TermS u' (NewT u.heap.size u') x t ∧ Says res bad' (t, p) q'
end
end Go.Proofs.YtiffopheamnngaaGreatDoor
namespace Go.Proofs.YtiffopheamnngaaGreatDoor
open Go.RowKit Go.Maps
set_option maxRecDepth 100000
def clQ (x : TV) (nv : Value) (line next : Int) : Value := .agg #[.int .i64 x.k, .int .i64 x.n, .string ⟨x.s.toArray⟩, .slice x.A x.len x.cap, nv, .int .i64 line, .int .i64 next]
def ReadQ (w w' : World) (c : ClauseF × Int) (e : Ending) : Prop :=
 Below w.heap.size w w' ∧ ∃ x nv B, e = .returned (.tuple #[clQ x nv c.1.line c.1.next, .int .i64 c.2]) ∧ TermAt w' w'.heap.size x c.1.t ∧ Row w' B 83 2 encBi nv c.1.names
set_option maxHeartbeats 8000000 in
theorem read_endQ (w : World) (A : Option Addr) (n c : Nat) (ts : List Tok) (hT : ToksAt w w.heap.size A n ts) (i : Int) (bt : Nat) (o : OpsF) (he : i < 0 ∨ (ts.length : Int) ≤ i ∨ (peekF ts i.toNat).kind = 0) :
    Calls Tryz.prog 9 #[.slice A n c, .int .i64 i, .pointer (some ⟨bt, 0, none⟩)] w fun e w' => ReadQ w w' (readQ o ts i) e := by
 have hr : readQ o ts i = (⟨noTm, [], 0, 0⟩, 7) := by unfold readQ; rw [if_pos he]
 rw [hr]
 clear hr
 have hln := hT.len
 have HT := Lib.hid hT
 obtain ⟨R, hR⟩ : ∃ R : Ending → World → Prop, R = fun e w' => ReadQ w w' (⟨noTm, [], 0, 0⟩, 7) e := ⟨_, rfl⟩
 rw [← hR]
 have HW : Hid (R (.returned (.tuple #[clQ ⟨0, 0, [], none, 0, 0⟩ (.slice none 0 0) 0 0, .int .i64 7])) (w.alloc (.cells #[.int .i64 0, .int .i64 0, .string ⟨#[]⟩, .slice none 0 0, .slice none 0 0, .int .i64 0, .int .i64 0] 42))) := Lib.hid (by
  rw [hR]
  exact ⟨(Below.refl _ _).alloc (Nat.le_refl _) _, ⟨0, 0, [], none, 0, 0⟩, .slice none 0 0, 0, rfl, .leaf _ _ _ _ _ _ _ (Nat.zero_le _), Row.nil _ _ _ _ _⟩)
 clear hR hT
 unfold clQ at HW
 by_cases h1 : i < 0
 ·clear he
  go_enter Tryz.func9, Tryz.ntmps9
  go_wp2_with fail
  exact bodyPost_ret (v := .tuple #[.agg #[.int .i64 0, .int .i64 0, .string ⟨#[]⟩, .slice none 0 0, .slice none 0 0, .int .i64 0, .int .i64 0], .int .i64 7]) (by simp [results, Tryz.results9, go_sem]) rfl HW.out
 by_cases h2 : (n : Int) ≤ i
 ·clear he
  go_enter Tryz.func9, Tryz.ntmps9
  go_wp2_with fail
  exact bodyPost_ret (v := .tuple #[.agg #[.int .i64 0, .int .i64 0, .string ⟨#[]⟩, .slice none 0 0, .slice none 0 0, .int .i64 0, .int .i64 0], .int .i64 7]) (by simp [results, Tryz.results9, go_sem]) rfl HW.out
 have h3 : (peekF ts i.toNat).kind = 0 := by rcases he with h | h | h <;> first | exact h | (exfalso; omega)
 obtain ⟨k, hk⟩ : ∃ k : Nat, i = (k : Int) := ⟨i.toNat, by omega⟩
 subst hk
 have hkl : k < ts.length := by omega
 have hp : peekF ts k = ts[k] := by unfold peekF; rw [List.getD_eq_getElem?_getD, List.getElem?_eq_getElem hkl]; rfl
 obtain ⟨b, off, e1, e2, d0, -, -, -, -, -⟩ := HT.out.at' k _ (List.getElem?_eq_getElem hkl)
 rw [Int.toNat_natCast, hp] at h3
 rw [h3] at d0
 subst e1
 have hk0 : (0 : Int) ≤ (k : Int) := by omega
 have hkn : (k : Int) < (n : Int) := by omega
 clear he hp h3
 go_enter Tryz.func9, Tryz.ntmps9
 go_wp2_with fail
 exact bodyPost_ret (v := .tuple #[.agg #[.int .i64 0, .int .i64 0, .string ⟨#[]⟩, .slice none 0 0, .slice none 0 0, .int .i64 0, .int .i64 0], .int .i64 7]) (by simp [results, Tryz.results9, go_sem]) rfl HW.out
open Go.RowKit
set_option maxHeartbeats 4000000 in
theorem is_any (u : World) (rb : Nat) (v : RdV) (ts : List Tok) (s : RdS) (B : Nat) (h : RdAt u rb v ts s B) (k : Nat) (hk : k ≤ 2) (c : UInt8) :
    Calls Tryz.prog 81 #[.pointer (some ⟨rb, 0, none⟩), .int .i64 k, .string ⟨#[c]⟩] u fun e u' => e = .returned (.bool (isP ts (s.at' + k) c)) ∧ Below u.heap.size u u' := by
 have HA := Lib.hid h
 have hlt := h.blk.lt
 clear h
 unfold isP
 go_enter Tryz.func81, Tryz.ntmps81
 go_wp2_with fail
 refine (peek_any _ rb v ts s B HA.out k hk).mono ?_
 rintro e w1 ⟨rfl, hb⟩
 simp only [tokW]
 go_wp2_with fail
 all_goals rename_i hk6
 ·refine bodyPost_ret (v := .bool ((peekF ts (s.at' + k)).s == [c])) (by simp [results, Tryz.results81, go_sem]) rfl ⟨?_, hb.alloc hb.size _⟩
  rw [decide_eq_true hk6, Bool.true_and]
  by_cases h2 : (peekF ts (s.at' + k)).s = [c]
  ·rw [decide_eq_true h2, beq_iff_eq.2 h2]
  ·rw [decide_eq_false h2, beq_eq_false_iff_ne.2 h2]
 ·exact bodyPost_ret (v := .bool false) (by simp [results, Tryz.results81, go_sem]) rfl ⟨by rw [decide_eq_false hk6]; rfl, hb.alloc hb.size _⟩
set_option maxHeartbeats 4000000 in
theorem accept_any (u : World) (rb : Nat) (v : RdV) (ts : List Tok) (s : RdS) (B : Nat) (h : RdAt u rb v ts s B) (c : UInt8) :
    Calls Tryz.prog 86 #[.pointer (some ⟨rb, 0, none⟩), .string ⟨#[c]⟩] u fun e u' => e = .returned (.bool (isP ts s.at' c)) ∧ RdAt u' rb v ts (if isP ts s.at' c then s.go 1 else s) B ∧ Fr (· = rb) u u' := by
 have HA := Lib.hid h
 have hlt := h.blk.lt
 clear h
 obtain ⟨s', hs'⟩ : ∃ s', s' = (if isP ts s.at' c then s.go 1 else s) := ⟨_, rfl⟩
 rw [← hs']
 go_enter Tryz.func86, Tryz.ntmps86
 go_wp2_with fail
 refine (is_any _ rb v ts s B HA.out 0 (by omega) c).mono ?_
 rintro e w1 ⟨rfl, hb⟩
 have HA1 := Lib.hid (HA.out.later hb)
 have hP : s.at' + 0 = s.at' := rfl
 rw [hP]
 have HB := Lib.hid hb
 clear hb hP
 cases hq : isP ts s.at' c with
 | false =>
  rw [hq, if_neg (by simp)] at hs'
  subst hs'
  go_wp2_with fail
  exact bodyPost_ret (v := .bool false) (by simp [results, Tryz.results86, go_sem]) rfl ⟨by rw [hq], HA1.out, .of_below _ HB.out⟩
 | true =>
  rw [hq, if_pos rfl] at hs'
  subst hs'
  have hl := isP_lt hq
  have c1 : w1.cell? ⟨rb, 1, none⟩ = some (.int .i64 (s.at' : Int)) := HA1.out.blk.cell (i := 1) rfl
  have cf := HA1.out.blk.free
  have hf := HA1.out.few
  have hwr : IntKind.i64.wrap ((s.at' : Int) + 1) = (s.at' : Int) + 1 := IntWalk.i64_in _ (by omega)
  go_wp2_with fail
  exact bodyPost_ret (v := .bool true) (by simp [results, Tryz.results86, go_sem]) rfl ⟨by rw [hq], HA1.out.put (s' := s.go 1) 1 _ (by simp [rdCells, RdS.go]) rfl rfl (by show s.at' + 1 ≤ _; omega), (Fr.of_below (· = rb) HB.out).setCell (p := ⟨rb, 1, none⟩) (.inl rfl) _⟩
set_option maxHeartbeats 4000000 in
theorem fail_any (u : World) (p : Value) :
    Calls Tryz.prog 52 #[p] u fun e u' => e = .panicked [{ v := .iface 145 (.agg #[]), recovered := false }] ∧ Below u.heap.size u u' := by
 go_enter Tryz.func52, Tryz.ntmps52
 go_wp2_with fail
 exact ⟨rfl, rfl, Below.refl _ _⟩
set_option maxHeartbeats 4000000 in
theorem expect_any (u : World) (rb : Nat) (v : RdV) (ts : List Tok) (s : RdS) (B : Nat) (h : RdAt u rb v ts s B) (c : UInt8) :
    Calls Tryz.prog 82 #[.pointer (some ⟨rb, 0, none⟩), .string ⟨#[c]⟩] u fun e u' => Fr (· = rb) u u' ∧
     (if isP ts s.at' c then e = .returned (.tuple #[]) ∧ RdAt u' rb v ts (s.go 1) B else e = .panicked [{ v := .iface 145 (.agg #[]), recovered := false }] ∧ RdAt u' rb v ts s B) := by
 have HA := Lib.hid h
 clear h
 cases hq : isP ts s.at' c with
 | true =>
  simp only [if_true]
  go_enter Tryz.func82, Tryz.ntmps82
  go_wp2_with fail
  refine (accept_any _ rb v ts s B HA.out c).mono ?_
  rintro e w1 ⟨rfl, h1, hF⟩
  rw [hq, if_pos rfl] at h1
  rw [hq]
  have H1 := Lib.hid h1
  have HF := Lib.hid hF
  clear h1 hF
  go_wp2_with fail
  exact bodyPost_end (v := .tuple #[]) (by simp [results, Tryz.results82, go_sem]) rfl ⟨HF.out, rfl, H1.out⟩
 | false =>
  simp only [Bool.false_eq_true, if_false]
  go_enter Tryz.func82, Tryz.ntmps82
  go_wp2_with fail
  refine (accept_any _ rb v ts s B HA.out c).mono ?_
  rintro e w1 ⟨rfl, h1, hF⟩
  rw [hq, if_neg (by simp)] at h1
  rw [hq]
  have H1 := Lib.hid h1
  have HF := Lib.hid hF
  clear h1 hF
  go_wp2_with fail
  refine (fail_any _ _).mono ?_
  rintro e w2 ⟨rfl, hb⟩
  exact ⟨rfl, HF.out.trans (.of_below _ hb), rfl, H1.out.later hb⟩
set_option maxHeartbeats 4000000 in
theorem want_any (u : World) (rb : Nat) (v : RdV) (ts : List Tok) (s : RdS) (B : Nat) (h : RdAt u rb v ts s B) (m : Int) :
    Calls Tryz.prog 61 #[.pointer (some ⟨rb, 0, none⟩), .int .i64 m] u fun e u' => e = .returned (.tuple #[]) ∧ RdAt u' rb v ts (s.want m) B ∧ u' = (u.setCell ⟨rb, 5, none⟩ (.int .i64 m)).setCell ⟨rb, 6, none⟩ (.bool false) := by
 have HA := Lib.hid h
 have c5 : u.cell? ⟨rb, 5, none⟩ = some (.int .i64 s.most) := h.blk.cell (i := 5) rfl
 have c6 : u.cell? ⟨rb, 6, none⟩ = some (.bool s.hv) := h.blk.cell (i := 6) rfl
 have cf := h.blk.free
 clear h
 go_enter Tryz.func61, Tryz.ntmps61
 go_wp2_with fail
 exact bodyPost_end (v := .tuple #[]) (by simp [results, Tryz.results61, go_sem]) rfl
  ⟨rfl, (HA.out.put (s' := { s with most := m }) 5 _ (by simp [rdCells]) rfl rfl HA.out.in').put (s' := s.want m) 6 _ (by simp [rdCells, RdS.want]) rfl rfl HA.out.in', rfl⟩
set_option maxHeartbeats 4000000 in
theorem done_any (u : World) (rb : Nat) (v : RdV) (ts : List Tok) (s : RdS) (B : Nat) (h : RdAt u rb v ts s B) (x : TV) (t : Tm) (pri : Int) :
    Calls Tryz.prog 53 #[.pointer (some ⟨rb, 0, none⟩), .agg #[.int .i64 x.k, .int .i64 x.n, .string ⟨x.s.toArray⟩, .slice x.A x.len x.cap], .int .i64 pri] u fun e u' => e = .returned (.tuple #[]) ∧ RdAt u' rb { v with x := x } ts (s.done t pri) B ∧ Fr (· = rb) u u' := by
 have HA := Lib.hid h
 have c7 : u.cell? ⟨rb, 7, none⟩ = some (.int .i64 v.x.k) := h.blk.cell (i := 7) rfl
 have c8 : u.cell? ⟨rb, 8, none⟩ = some (.int .i64 v.x.n) := h.blk.cell (i := 8) rfl
 have c9 : u.cell? ⟨rb, 9, none⟩ = some (.string ⟨v.x.s.toArray⟩) := h.blk.cell (i := 9) rfl
 have c10 : u.cell? ⟨rb, 10, none⟩ = some (.slice v.x.A v.x.len v.x.cap) := h.blk.cell (i := 10) rfl
 have c11 : u.cell? ⟨rb, 11, none⟩ = some (.int .i64 s.pri) := h.blk.cell (i := 11) rfl
 have c6 : u.cell? ⟨rb, 6, none⟩ = some (.bool s.hv) := h.blk.cell (i := 6) rfl
 have cf := h.blk.free
 have hlt := h.blk.lt
 clear h
 go_enter Tryz.func53, Tryz.ntmps53
 go_wp2_with fail
 have p1 := HA.out.put (v' := { v with x := { v.x with k := x.k } }) (s' := s) 7 (.int .i64 x.k) (by simp [rdCells]) rfl rfl HA.out.in'
 have p2 := p1.put (v' := { v with x := { v.x with k := x.k, n := x.n } }) (s' := s) 8 (.int .i64 x.n) (by simp [rdCells]) rfl rfl HA.out.in'
 have p3 := p2.put (v' := { v with x := { v.x with k := x.k, n := x.n, s := x.s } }) (s' := s) 9 (.string ⟨x.s.toArray⟩) (by simp [rdCells]) rfl rfl HA.out.in'
 have p4 := p3.put (v' := { v with x := x }) (s' := s) 10 (.slice x.A x.len x.cap) (by simp [rdCells]) rfl rfl HA.out.in'
 have p5 := p4.put (v' := { v with x := x }) (s' := { s with pri := pri }) 11 (.int .i64 pri) (by simp [rdCells]) rfl rfl HA.out.in'
 have p6 := p5.put (v' := { v with x := x }) (s' := s.done t pri) 6 (.bool true) (by simp [rdCells, RdS.done]) rfl rfl HA.out.in'
 have hF : Fr (· = rb) u ((((((u.setCell ⟨rb, 7, none⟩ (.int .i64 x.k)).setCell ⟨rb, 8, none⟩ (.int .i64 x.n)).setCell ⟨rb, 9, none⟩ (.string ⟨x.s.toArray⟩)).setCell ⟨rb, 10, none⟩ (.slice x.A x.len x.cap)).setCell ⟨rb, 11, none⟩ (.int .i64 pri)).setCell ⟨rb, 6, none⟩ (.bool true)) :=
  ((((((Fr.refl (· = rb) u).setCell (p := ⟨rb, 7, none⟩) (.inl rfl) _).setCell (p := ⟨rb, 8, none⟩) (.inl rfl) _).setCell (p := ⟨rb, 9, none⟩) (.inl rfl) _).setCell (p := ⟨rb, 10, none⟩) (.inl rfl) _).setCell (p := ⟨rb, 11, none⟩) (.inl rfl) _).setCell (p := ⟨rb, 6, none⟩) (.inl rfl) _
 exact bodyPost_end (v := .tuple #[]) (by simp [results, Tryz.results53, go_sem]) rfl
  ⟨rfl, p6.later ((Below.refl _ _).alloc (Nat.le_refl _) _), hF.alloc _⟩
end Go.Proofs.YtiffopheamnngaaGreatDoor
