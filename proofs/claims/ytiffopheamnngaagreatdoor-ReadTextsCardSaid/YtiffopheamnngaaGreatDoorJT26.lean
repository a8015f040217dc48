import Derived.Test.YtiffopheamnngaaGreatDoorJT13
import Derived.Test.YtiffopheamnngaaGreatDoorJT25
namespace Go.Proofs.YtiffopheamnngaaGreatDoor
open Go.RowKit Go.Maps
set_option maxRecDepth 100000
section
variable {E : RdE} {u u' : World} {v : RdV} {s : RdS} {fl : List FrV}
theorem RdInv.ops (h : RdInv E u v s fl) : OpsAt u E.rb v E.bt E.bm E.es :=
 ⟨h.ob, h.tab, h.kinds, by have := h.r.base; have := h.btr; have := h.bmr; have := h.kr; omega⟩
theorem RdInv.exl (h : RdInv E u v s fl) : ∀ k ∈ opE E fl, k < u.heap.size := fun k hk => by
 rcases List.mem_append.1 hk with hk | hk
 ·exact (h.open_ty hk).1.lt
 ·obtain ⟨p, hp, rfl⟩ := List.mem_map.1 hk
  exact (Array.getElem?_eq_some_iff.1 (h.fix p hp).1).1
theorem RdInv.later (h : RdInv E u v s fl) (hb : Below u.heap.size u u') : RdInv E u' v s fl where
 r := h.r.later hb
 row := h.row.later hb
 vb := h.vb
 ob := h.ob
 bv := h.bv
 mbr := h.mbr
 Bmb := h.Bmb
 rbb := h.rbb
 mbb := h.mbb
 vars := ⟨h.vars.map.below hb h.vars.map.lt, h.vars.ok⟩
 beg := h.beg.below hb h.beg.lt
 nm := h.nm.later hb
 tab := h.tab.later hb
 kinds := h.kinds.later hb
 btr := h.btr
 bmr := h.bmr
 kr := h.kr
 tie := h.tie.step (fun f hf k hk => hb.block k (h.tie.ty f hf k hk).1.lt) (SOf.later hb)
 x := h.x.step (SOf.later hb)
 fix := fun p hp => ⟨(hb.block p.1 (Array.getElem?_eq_some_iff.1 (h.fix p hp).1).1).trans (h.fix p hp).1, (h.fix p hp).2⟩
 nd := h.nd
 short := h.short
 num := h.num
 left := h.left
 ll := h.ll
 c0 := h.c0
 cn := h.cn
 nn := h.nn
theorem RdOut.back {w : World} {r : Except Nat RdS} {e : Ending} (h : RdOut E u u' r e) (hb : BelE E w u) : RdOut E w u' r e := ⟨hb.trans h.1, h.2⟩
theorem RdInv.sizeB (h : RdInv E u v s fl) : E.B ≤ u.heap.size := Nat.le_trans h.r.base (Nat.le_of_lt h.r.blk.lt)
theorem RdInv.belE (h : RdInv E u v s fl) (hb : Below u.heap.size u u') : BelE E u u' := ⟨hb.mono h.sizeB, fun p hp => hb.block p.1 (Array.getElem?_eq_some_iff.1 (h.fix p hp).1).1⟩
theorem RdOut.after {w : World} {r : Except Nat RdS} {e : Ending} (h : RdOut E u u' r e) (hi : RdInv E w v s fl) (hb : Below w.heap.size w u) : RdOut E w u' r e := h.back (hi.belE hb)
theorem RdInv.prim' (h : RdInv E u v s fl) (hv : s.hv = false) {r : Except Nat RdS} {e : Ending} {o : OpsF} (hF : Fr (fun k => k = E.rb ∨ v.wv.ownBlock = some k) u u') (ho : PrimOut u' E.rb v E.ts s E.B fl r e) (hr : r = primaryF o E.ts s) (hp : ∀ s', r = .ok s' → PlainOut s s') : RdOut E u u' r e :=
 h.prim hF ho fun s' hs => ⟨(hp s' hs).vars, (hp s' hs).names, (hp s' hs).cnt, by rw [left_new hv]; exact primary_less (hr.symm.trans hs), (hp s' hs).wait, (hp s' hs).t⟩
theorem RdInv.in_lt (_h : RdInv E u v s fl) (hk : (peekF E.ts s.at').kind ≠ 0) : s.at' < E.ts.length := peek_lt hk
theorem number_rd (h : RdInv E u v s fl) (hv : s.hv = false) (hk : (peekF E.ts s.at').kind = 3) :
    Calls Tryz.prog 27 #[.pointer (some ⟨E.rb, 0, none⟩), tokW (peekF E.ts s.at')] u fun e u' => RdOut E u u' (primaryF (opsOf E.es) E.ts s) e := by
 have hr : primaryF (opsOf E.es) E.ts s = if (peekF E.ts s.at').n < 0 then .error s.at' else .ok ((s.go 1).done (intT (peekF E.ts s.at').n) 0) := by unfold primaryF; dsimp only; rw [if_pos hk]
 rw [hr]
 refine (number_out u E.rb v E.ts s E.B h.r fl h.row _ (h.in_lt (by rw [hk]; decide))).mono ?_
 rintro e u' ⟨hF, ho⟩
 refine h.prim' hv hF ho hr.symm fun s' hs => ?_
 split at hs
 ·cases hs
 ·injection hs with hs
  subst hs
  exact plain_done s _ _ _ (Nat.zero_le _)
theorem punct_rd (h : RdInv E u v s fl) (hv : s.hv = false) (hk : (peekF E.ts s.at').kind = 6) :
    Calls Tryz.prog 30 #[.pointer (some ⟨E.rb, 0, none⟩), tokW (peekF E.ts s.at')] u fun e u' => RdOut E u u' (primaryF (opsOf E.es) E.ts s) e := by
 have hr : primaryF (opsOf E.es) E.ts s = punctF E.ts s (peekF E.ts s.at').s := by unfold primaryF; dsimp only; rw [if_neg (by omega), if_neg (by omega), if_neg (by omega), if_pos hk]
 rw [hr]
 refine (punct_any u E.rb v E.ts s E.B h.r fl h.row (by have := h.waits; omega) _ (h.in_lt (by rw [hk]; decide)) (peek_short h.short _)).mono ?_
 rintro e u' ⟨hF, ho⟩
 exact h.prim' hv hF ho hr.symm fun s' hs => punct_plain h.short hs
theorem peek_num {ts : List Tok} (hs : ∀ t ∈ ts, (-9223372036854775808 ≤ t.n ∧ t.n ≤ 9223372036854775807) ∧ okI t.kind) (i : Nat) : (-9223372036854775808 ≤ (peekF ts i).n ∧ (peekF ts i).n ≤ 9223372036854775807) ∧ okI (peekF ts i).kind := by
 unfold peekF
 rw [List.getD_eq_getElem?_getD]
 cases h : ts[i]? with
 | none => simp [noTok, okI]
 | some t => exact hs t (List.mem_of_getElem? h)
theorem atom_rd (h : RdInv E u v s fl) (hv : s.hv = false) (hk : (peekF E.ts s.at').kind = 1 ∨ (peekF E.ts s.at').kind = 2) :
    Calls Tryz.prog 31 #[.pointer (some ⟨E.rb, 0, none⟩), tokW (peekF E.ts s.at')] u fun e u' => RdOut E u u' (primaryF (opsOf E.es) E.ts s) e := by
 have hr : primaryF (opsOf E.es) E.ts s = atomF (opsOf E.es) E.ts s (peekF E.ts s.at') := by unfold primaryF; dsimp only; rw [if_neg (by omega), if_neg (by omega), if_neg (by omega), if_neg (by omega), if_pos hk]
 rw [hr]
 have hc : Calls Tryz.prog 31 #[.pointer (some ⟨E.rb, 0, none⟩), tokW (peekF E.ts s.at')] u fun e u' => Fr (RW E.rb v) u u' ∧ PrimOut u' E.rb v E.ts s E.B fl (atomF (opsOf E.es) E.ts s (peekF E.ts s.at')) e := by
  by_cases hn : (peekF E.ts s.at').kind = 1 ∧ (peekF E.ts s.at').s = [45] ∧ (peekF E.ts (s.at' + 1)).kind = 3 ∧ (peekF E.ts (s.at' + 1)).tight = true
  ·exact atom_neg u E.rb v E.ts s E.B h.r fl h.row _ E.es hn.1 hn.2.1 hn.2.2.1 hn.2.2.2 (peek_num h.num _).1.1 (peek_num h.num _).1.2
  ·exact atom_pos u E.rb v E.ts s E.B h.r fl h.row (by have := h.waits; omega) _ E.bt E.bm E.es h.ops (h.in_lt (by omega)) (peek_short h.short _) (peek_short h.short _) hn
 refine hc.mono ?_
 rintro e u' ⟨hF, ho⟩
 exact h.prim' hv hF ho hr.symm fun s' hs => atom_plain (peek_short h.short _) hs
theorem fr_nil (hF : Fr (· = E.rb) u u') : Fr (WSet E v []) u u' := hF.weak fun _ hk => .inl hk
theorem nil_sub {fl : List FrV} : ∀ k ∈ ([] : List Nat), k ∈ opL fl := fun _ hk => by cases hk
theorem codes_rd (h : RdInv E u v s fl) (hv : s.hv = false) (hk : (peekF E.ts s.at').kind = 5) :
    Calls Tryz.prog 29 #[.pointer (some ⟨E.rb, 0, none⟩), tokW (peekF E.ts s.at')] u fun e u' => RdOut E u u' (primaryF (opsOf E.es) E.ts s) e := by
 have hr : primaryF (opsOf E.es) E.ts s = .ok ((s.go 1).done (listT ((peekF E.ts s.at').s.map fun c => intT c.toNat) nilT) 0) := by unfold primaryF; dsimp only; rw [if_neg (by omega), if_neg (by omega), if_pos hk]
 have hless : leftF E.ts ((s.go 1).done (listT ((peekF E.ts s.at').s.map fun c => intT c.toNat) nilT) 0) < leftF E.ts s := by rw [left_new hv]; exact primary_less hr
 rw [hr]
 refine (codes_any u E.rb v E.ts s E.B h.r _ (h.in_lt (by rw [hk]; decide)) (peek_short h.short _) (opE E fl) h.exl).mono ?_
 rintro e u' ⟨rfl, hF, y', h1, h2⟩
 have hF2 : Fr (fun k => k = E.rb ∨ v.wv.ownBlock = some k) u u' := hF.weak fun _ hk => .inl hk
 exact ⟨h.below nil_sub (fr_nil hF), rfl, _, fl, h.step nil_sub (fr_nil hF) h1 (WRow.fr h.row hF) rfl rfl rfl (h.keepV hF2) (h.keepN hF2) (fun b hb => .inl hb) (h.keepT hF2 fun b hb => .inl hb) h2 h.nd hless (fun w hw => .inl ⟨w, hw, by omega⟩) (.inl rfl) (by show s.names.length ≤ _; omega)⟩
theorem mget_find? (l : List (List UInt8 × Int)) (k : List UInt8) : mget l k = (l.find? (fun y => decide (y.1 = k))).map (·.2) := rfl
theorem varF_some {s : RdS} {x : List UInt8} {n : Int} (h : mget s.vars x = some n) : varF s x = s.done (varT n) 0 := by
 rw [mget_find?] at h
 unfold varF
 cases hf : s.vars.find? (fun y => decide (y.1 = x)) with
 | none => rw [hf] at h; cases h
 | some y =>
  rw [hf] at h
  injection h with h
  subst h
  rfl
theorem varF_none {s : RdS} {x : List UInt8} (h : mget s.vars x = none) : varF s x = (if x = [95] then { s with cnt := s.cnt + 1 } else { s with cnt := s.cnt + 1, vars := s.vars ++ [(x, s.cnt)], names := s.names ++ [(x, s.cnt)] }).done (varT s.cnt) 0 := by
 rw [mget_find?] at h
 unfold varF
 cases hf : s.vars.find? (fun y => decide (y.1 = x)) with
 | none => rfl
 | some y => rw [hf] at h; cases h
theorem named_rd (h : RdInv E u v s fl) (hv : s.hv = false) (hk : (peekF E.ts s.at').kind = 4) :
    Calls Tryz.prog 28 #[.pointer (some ⟨E.rb, 0, none⟩), tokW (peekF E.ts s.at')] u fun e u' => RdOut E u u' (primaryF (opsOf E.es) E.ts s) e := by
 have hr : primaryF (opsOf E.es) E.ts s = .ok (varF (s.go 1) (peekF E.ts s.at').s) := by unfold primaryF; dsimp only; rw [if_neg (by omega), if_pos hk]
 have hat : s.at' < E.ts.length := h.in_lt (by rw [hk]; decide)
 have hok : okS (peekF E.ts s.at').s := peek_short h.short _
 cases hm : mget s.vars (peekF E.ts s.at').s with
 | some n =>
  have hr2 := hr
  rw [varF_some (show mget (s.go 1).vars _ = some n from hm)] at hr2
  rw [hr2]
  refine (named_known u E.rb v E.ts s E.B h.r _ hat E.mb h.vb h.vars h.mbr hok n hm).mono ?_
  rintro e u' ⟨rfl, h1, hF⟩
  have hF2 : Fr (fun k => k = E.rb ∨ v.wv.ownBlock = some k) u u' := hF.weak fun _ hk => .inl hk
  refine h.prim' hv hF2 ⟨rfl, _, h1, rfl, rfl, rfl, rfl, rfl, rfl, rfl, .inr ⟨rfl, rfl, WRow.fr h.row hF, 1, n, [], rfl, rfl⟩⟩ hr2.symm fun s' hs => ?_
  injection hs with hs
  subst hs
  exact plain_done s _ _ _ (Nat.zero_le _)
 | none =>
  have hc1 : s.cnt ≤ 1000000 := by have := h.cn; omega
  by_cases hx : (peekF E.ts s.at').s = [95]
  ·have hr2 := hr
   rw [varF_none (show mget (s.go 1).vars _ = none from hm), if_pos hx] at hr2
   have hless := primary_less hr2
   rw [← left_new hv] at hless
   rw [hr2]
   refine (named_blank u E.rb v E.ts s E.B h.r _ hat E.mb h.vb h.vars h.mbr hx hm h.c0 hc1).mono ?_
   rintro e u' ⟨rfl, h1, hF⟩
   have hF2 : Fr (fun k => k = E.rb ∨ v.wv.ownBlock = some k) u u' := hF.weak fun _ hk => .inl hk
   exact ⟨h.below nil_sub (fr_nil hF), rfl, _, fl, h.step nil_sub (fr_nil hF) h1 (WRow.fr h.row hF) rfl rfl rfl (h.keepV hF2) (h.keepN hF2) (fun b hb => .inl hb) (h.keepT hF2 fun b hb => .inl hb) (.leaf _ _ _ _ _ _ _ (Nat.zero_le _)) h.nd hless (fun w hw => .inl ⟨w, hw, by omega⟩) (.inr rfl) (by show s.names.length ≤ _; omega)⟩
  ·have hr2 := hr
   rw [varF_none (show mget (s.go 1).vars _ = none from hm), if_neg hx] at hr2
   have hless := primary_less hr2
   rw [← left_new hv] at hless
   rw [hr2]
   refine (named_new u E.rb v E.ts s E.B h.r _ hat E.mb h.vb h.vars h.mbr h.Bmb hok hx hm h.c0 hc1 h.nm (by have := h.nn; omega) (fun e => h.vars.map.ne (h.nm.ty e) rfl)).mono ?_
   rintro e u' ⟨rfl, nv', h1, h2, h3, hF⟩
   have hF2 : Fr (WSet E v []) u u' := hF.weak fun _ hk => hk.elim .inl fun e => e.elim (fun e => .inr (.inr (.inr (.inl e)))) fun e => .inr (.inr (.inl e))
   have hrow : WRow u' E.rb v.wv fl := Row.keep h.row fun k hk => hF.block k (h.row.lt k hk).2 (by
    rintro (e | e | e)
    ·have := (h.row.lt k hk).1; omega
    ·exact h.vars.map.ne (h.row.ty hk) e.symm
    ·exact (h.row.ty hk).ne (h.nm.ty e) (by decide) rfl)
   have htie : Ties u' E.rb (SOf u' (opE E fl)) fl.reverse s.wait := h.tie.step (fun f hf k hk => by
    obtain ⟨h4, h5⟩ := h.tie.ty f hf k hk
    refine hF.block k h4.lt ?_
    rintro (e | e | e)
    ·omega
    ·exact h.vars.map.ne h4 e.symm
    ·exact h4.ne (h.nm.ty e) (by decide) rfl) (h.keepS nil_sub hF2 fun b hb => .inl hb)
   exact ⟨h.below nil_sub hF2, rfl, _, fl, h.step nil_sub hF2 h1 hrow rfl rfl rfl h3 h2 (fun b hb => .inl hb) htie (.leaf _ _ _ _ _ _ _ (Nat.zero_le _)) h.nd hless (fun w hw => .inl ⟨w, hw, by omega⟩) (.inr rfl) (by show (s.names ++ _).length ≤ _; simp)⟩
end
end Go.Proofs.YtiffopheamnngaaGreatDoor
namespace Go.Proofs.YtiffopheamnngaaGreatDoor
open Go.RowKit Go.Maps
set_option maxRecDepth 100000
section
variable {E : RdE} {u u' u6 : World} {v : RdV} {s : RdS} {fl : List FrV}
def oneB (v : RdV) : Obj := .cells #[.int .i64 v.x.k, .int .i64 v.x.n, .string ⟨v.x.s.toArray⟩, .slice v.x.A v.x.len v.x.cap] 34
theorem RdInv.keepX (h : RdInv E u v s fl) (hF : Fr (fun k => k = E.rb ∨ v.wv.ownBlock = some k) u u') : TermS u' (SOf u' (opE E fl)) v.x s.t :=
 h.x.step (h.keepS nil_sub (fr_w hF) fun _ hb => .inl hb)
theorem one_newR (w : World) (v : RdV) : (w.alloc (oneB v)).heap[w.heap.size]? = some (.cells (([v.x]).flatMap encTV).toArray 34 (0, 0)) := heap_alloc_new w _
theorem one_term {w : World} {L : List Nat} {v : RdV} {t : Tm} (hx : TermS w (SOf w L) v.x t) (hL : ∀ k ∈ L, k < w.heap.size) (nm : List UInt8) (hn : nm.length ≤ maxLen) :
    TermS (w.alloc (oneB v)) (SOf (w.alloc (oneB v)) L) ⟨4, 0, nm, some ⟨w.heap.size, 0, none⟩, 1, 1⟩ (compT nm [t]) := by
 have h1 : TermsS (w.alloc (oneB v)) (SOf (w.alloc (oneB v)) L) ([] ++ [v.x]) ([] ++ [t]) := (TermsS.nil _ _).snoc (hx.step (SOf.later ((Below.refl _ _).alloc (Nat.le_refl _) _)))
 exact TermsS.block h1 (one_newR w v) ⟨⟨_, one_newR w v⟩, fun e => by have := hL _ e; omega⟩ nm hn 4 0 1
theorem RdInv.exl' (h : RdInv E u v s fl) (hb : u.heap.size ≤ u'.heap.size) : ∀ k ∈ opE E fl, k < u'.heap.size := fun k hk => Nat.lt_of_lt_of_le (h.exl k hk) hb
theorem RdInv.compOne (h : RdInv E u v s fl) (ty : TyB u6 72 E.rb) (hF : Fr (fun k => k = E.rb ∨ v.wv.ownBlock = some k) u u6) (hF2 : Fr (· = E.rb) (u6.alloc (oneB v)) u') (nm : List UInt8) (hn : nm.length ≤ maxLen) :
    TermS u' (SOf u' (opE E fl)) ⟨4, 0, nm, some ⟨u6.heap.size, 0, none⟩, 1, 1⟩ (compT nm [s.t]) ∧ Fr (fun k => k = E.rb ∨ v.wv.ownBlock = some k) u u' := by
 have h1 := one_term (h.keepX hF) (h.exl' hF.size) nm hn
 refine ⟨h1.step fun b hb => ?_, (hF.alloc _).trans (hF2.weak fun _ hk => .inl hk)⟩
 have hne : b ≠ E.rb := hb.1.ne (ty.keep (Below.heap_alloc _ _ _ ty.lt)) (by decide)
 have hk := hF2.block b hb.1.lt hne
 exact ⟨⟨hb.1.keep hk, hb.2⟩, hk⟩
theorem RdInv.infixStep (h : RdInv E u v s fl) (hvv : s.hv = true) (hF : Fr (· = E.rb) u u6) (nm : List UInt8) (hn : nm.length ≤ maxLen) {p m : Int} {wv' : Value} {o : OpsF}
    (r1 : RdAt u' E.rb { v with wv := wv' } E.ts ((s.go 1).await ⟨6, 0, nm, p, [s.t]⟩ m) E.B) (r2 : WRow u' E.rb wv' (fl ++ [⟨6, s.most, nm, p, some ⟨u6.heap.size, 0, none⟩, 1, 1⟩]))
    (r3 : Fr (fun k => k = E.rb ∨ v.wv.ownBlock = some k) (u6.alloc (oneB v)) u') (hop : operatorF o E.ts s = some ((s.go 1).await ⟨6, 0, nm, p, [s.t]⟩ m)) :
    BelE E u u' ∧ ∃ v' fl', RdInv E u' v' ((s.go 1).await ⟨6, 0, nm, p, [s.t]⟩ m) fl' := by
 have hF1 : Fr (fun k => k = E.rb ∨ v.wv.ownBlock = some k) u u6 := hF.weak fun _ hk => .inl hk
 have hF2 : Fr (fun k => k = E.rb ∨ v.wv.ownBlock = some k) u u' := (hF1.alloc _).trans r3
 have hB := h.r.blk.lt
 have hsz := hF.size
 have hne1 : u6.heap.size ≠ E.rb := by omega
 have hne2 : v.wv.ownBlock ≠ some u6.heap.size := fun e => by have := (h.row.lt _ e).2; omega
 have hblk : u'.heap[u6.heap.size]? = some (.cells (([v.x]).flatMap encTV).toArray 34 (0, 0)) := by
  rw [r3.block u6.heap.size (by simp) (fun e => e.elim hne1 hne2)]
  exact one_newR u6 v
 have hrow : Row u' (E.rb + 1) 34 4 encTV (.slice (some ⟨u6.heap.size, 0, none⟩) 1 1) [v.x] :=
  ⟨by simp [encTV_len], .inr ⟨u6.heap.size, 1, (([v.x]).flatMap encTV).toArray, rfl, by omega, hblk, Nat.le_refl _, by unfold maxLen; omega, rfl, rfl⟩⟩
 have hopl : opL (fl ++ [⟨6, s.most, nm, p, some ⟨u6.heap.size, 0, none⟩, 1, 1⟩]) = opL fl ++ [u6.heap.size] := by
  rw [opL_app]
  rfl
 have hl : ∀ b ∈ opL (fl ++ [⟨6, s.most, nm, p, some ⟨u6.heap.size, 0, none⟩, 1, 1⟩]), b ∈ opL fl ∨ u.heap.size ≤ b := fun b hb => by
  rw [hopl] at hb
  rcases List.mem_append.1 hb with hb | hb
  ·exact .inl hb
  ·rw [List.mem_singleton] at hb
   exact .inr (by omega)
 have hS := h.keepS nil_sub (fr_w hF2) hl
 refine ⟨h.below nil_sub (fr_w hF2), _, _, h.step nil_sub (fr_w hF2) r1 r2 rfl rfl rfl (h.keepV hF2) (h.keepN hF2) hl ?_ (h.x.step hS) ?_ (by rw [left_old hvv]; exact operator_less hop) ?_ (.inl rfl) (by show s.names.length ≤ _; omega)⟩
 ·rw [List.reverse_append]
  exact .cons ⟨rfl, rfl, rfl, rfl, hn, [v.x], hrow, (TermsS.nil _ _).snoc (h.x.step hS)⟩ (h.keepT hF2 hl)
 ·rw [hopl]
  refine List.nodup_append.2 ⟨h.nd, by simp, fun a ha b hb e => ?_⟩
  rw [List.mem_singleton] at hb
  have := (h.open_ty ha).1.lt
  omega
 ·intro w hw
  rcases List.mem_cons.1 hw with rfl | hw
  ·exact .inr (Nat.le_refl 1)
  ·exact .inl ⟨w, hw, by omega⟩
theorem RdInv.doneStep (h : RdInv E u v s fl) (hF : Fr (fun k => k = E.rb ∨ v.wv.ownBlock = some k) u u') {s' : RdS} {y : TV} (r1 : RdAt u' E.rb { v with x := y } E.ts s' E.B) (hrow : WRow u' E.rb v.wv fl)
    (hx : TermS u' (SOf u' (opE E fl)) y s'.t) (hless : leftF E.ts s' < leftF E.ts s) (hw : s'.wait = s.wait) (h1 : s'.vars = s.vars) (h2 : s'.names = s.names) (h3 : s'.cnt = s.cnt) : BelE E u u' ∧ ∃ v' fl', RdInv E u' v' s' fl' :=
 ⟨h.below nil_sub (fr_w hF), _, fl, h.step nil_sub (fr_w hF) r1 hrow rfl rfl rfl (by rw [h1]; exact h.keepV hF) (by rw [h2]; exact h.keepN hF) (fun b hb => .inl hb) (by rw [hw]; exact h.keepT hF fun b hb => .inl hb) hx h.nd hless (fun w hw2 => .inl ⟨w, by rw [← hw]; exact hw2, by omega⟩) (.inl h3) (by rw [h2]; omega)⟩
end
end Go.Proofs.YtiffopheamnngaaGreatDoor
namespace Go.Proofs.YtiffopheamnngaaGreatDoor
open Go.RowKit Go.Maps
set_option maxRecDepth 100000
section
variable {E : RdE} {u u' : World} {v : RdV} {s : RdS} {fl : List FrV}
def OpOut (E : RdE) (u u' : World) (v : RdV) (s : RdS) (fl : List FrV) (r : Option RdS) (e : Ending) : Prop :=
 BelE E u u' ∧ match r with
  | none => e = .returned (.bool false) ∧ RdInv E u' v s fl
  | some s' => e = .returned (.bool true) ∧ ∃ v' fl', RdInv E u' v' s' fl'
theorem tsv (x : TV) : tvV x = .agg #[.int .i64 x.k, .int .i64 x.n, .string ⟨x.s.toArray⟩, .slice x.A x.len x.cap] := rfl
theorem x5_later {u u' : World} {p0 p1 p2 p3 p4 : Addr} {x0 x1 x2 x3 x4 : Value} (h : u.cell? p0 = some x0 ∧ u.cell? p1 = some x1 ∧ u.cell? p2 = some x2 ∧ u.cell? p3 = some x3 ∧ u.cell? p4 = some x4) (hb : Below u.heap.size u u') :
    u'.cell? p0 = some x0 ∧ u'.cell? p1 = some x1 ∧ u'.cell? p2 = some x2 ∧ u'.cell? p3 = some x3 ∧ u'.cell? p4 = some x4 :=
 ⟨(hb.cell (World.block_lt_of_cell? u _ h.1)).trans h.1, (hb.cell (World.block_lt_of_cell? u _ h.2.1)).trans h.2.1, (hb.cell (World.block_lt_of_cell? u _ h.2.2.1)).trans h.2.2.1, (hb.cell (World.block_lt_of_cell? u _ h.2.2.2.1)).trans h.2.2.2.1, (hb.cell (World.block_lt_of_cell? u _ h.2.2.2.2)).trans h.2.2.2.2⟩
set_option maxHeartbeats 16000000 in
theorem operator_any (h : RdInv E u v s fl) (hvv : s.hv = true) :
    Calls Tryz.prog 63 #[.pointer (some ⟨E.rb, 0, none⟩)] u fun e u' => OpOut E u u' v s fl (operatorF (opsOf E.es) E.ts s) e := by
 obtain ⟨r, hr⟩ : ∃ r, r = operatorF (opsOf E.es) E.ts s := ⟨_, rfl⟩
 have hx : r = (let t := peekF E.ts s.at'
     if t.kind ≠ 1 ∧ t.kind ≠ 2 ∧ isP E.ts s.at' 44 = false then none
     else if 0 < ((opsOf E.es).inf t.s).1 ∧ ((opsOf E.es).inf t.s).1 ≤ s.most ∧ s.pri ≤ ((opsOf E.es).inf t.s).2.1 then some ((s.go 1).await ⟨6, 0, t.s, ((opsOf E.es).inf t.s).1, [s.t]⟩ ((opsOf E.es).inf t.s).2.2)
     else if 0 < ((opsOf E.es).post t.s).1 ∧ ((opsOf E.es).post t.s).1 ≤ s.most ∧ s.pri ≤ ((opsOf E.es).post t.s).2 then some ((s.go 1).done (compT t.s [s.t]) ((opsOf E.es).post t.s).1)
     else none) := hr
 simp only at hx
 have hkd := (peek_num h.num s.at').2
 have hsh := peek_short h.short s.at'
 have HI := Lib.hid h
 have hob := h.ob
 have hf := h.r.few
 have HOP := Lib.hid hr
 rw [← hr]
 clear h hr
 obtain ⟨p1, hp1⟩ : ∃ p, p = peekF E.ts s.at' := ⟨_, rfl⟩
 have HPE := Lib.hid hp1
 rw [← hp1] at hkd hsh hx
 have hlt1 : ∀ c, isP E.ts s.at' c = true ∨ p1.kind ≠ 0 → s.at' < E.ts.length := fun c hc => hc.elim isP_lt fun e => peek_lt (by rw [← hp1]; exact e)
 have HLT := Lib.hid hlt1
 clear hp1 hlt1
 obtain ⟨k, ln, n, st, op, ti⟩ := p1
 simp only at hkd hsh hx HLT
 obtain ⟨R, hR⟩ : ∃ R : Ending → World → Prop, R = fun e u' => OpOut E u u' v s fl r e := ⟨_, rfl⟩
 rw [← hR]
 have HRR := Lib.hid hR
 have HX := Lib.hid hx
 clear hR hx
 go_enter Tryz.func63, Tryz.ntmps63
 go_wp2_with fail
 refine (peek_any _ E.rb v E.ts s E.B HI.out.r 0 (by omega)).mono ?_
 rintro e w1 ⟨rfl, hb1⟩
 rw [show s.at' + 0 = s.at' from rfl, ← HPE.out]
 simp only [tokW]
 obtain ⟨W, hW⟩ : ∃ W, W = w1.alloc (.cells #[.int .i64 k, .int .i64 ln, .int .i64 n, .string ⟨st.toArray⟩, .bool op, .bool ti] 48) := ⟨_, rfl⟩
 have hbW : Below u.heap.size u W := by rw [hW]; exact hb1.alloc hb1.size _
 have HIW := Lib.hid (HI.out.later hbW)
 have HBW := Lib.hid hbW
 have hn : W.heap[w1.heap.size]? = some (.cells #[.int .i64 k, .int .i64 ln, .int .i64 n, .string ⟨st.toArray⟩, .bool op, .bool ti] 48 (0, 0)) := by rw [hW]; exact heap_alloc_new w1 _
 have HN := Lib.hid hn
 have hw1 : u.heap.size ≤ w1.heap.size := hb1.size
 have HNE : Hid (¬ (w1.heap.size = E.rb ∨ v.wv.ownBlock = some w1.heap.size)) := Lib.hid (by
  rintro (e | e)
  ·have := HI.out.r.blk.lt; omega
  ·have := (HI.out.row.lt _ e).2; omega)
 clear hb1 hbW hn hw1
 go_upto_region 2 with fail
 rw [← hW]
 clear hW
 by_cases hN : k ≠ 1 ∧ k ≠ 2 ∧ isP E.ts s.at' 44 = false
 ·rw [if_pos hN] at HX
  obtain ⟨q1, q2, q3⟩ := hN
  have b1 : (k != 1) = true := bne_iff_ne.2 q1
  have b2 : (k != 2) = true := bne_iff_ne.2 q2
  obtain ⟨n0, n1, n2, n3, n4, n5, nf⟩ := six_at HN.out
  have Q3 := Lib.hid q3
  clear q1 q2 q3
  go_wp2_with fail
  refine (is_any _ E.rb v E.ts s E.B HIW.out.r 0 (by omega) 44).mono ?_
  rintro e w2 ⟨rfl, hb2⟩
  rw [show s.at' + 0 = s.at' from rfl, Q3.out]
  have HB2 := Lib.hid hb2
  clear hb2
  go_wp2_with fail
  show R (.returned (.bool false)) _
  rw [HRR.out, HX.out]
  have hb3 := HBW.out.trans (HB2.out.mono HBW.out.size)
  exact ⟨HI.out.belE hb3, rfl, HI.out.later hb3⟩
 ·rw [if_neg hN] at HX
  have hat : s.at' < E.ts.length := by
   by_cases e1 : k = 0
   ·cases hq : isP E.ts s.at' 44 with
    | true => exact HLT.out 44 (.inl hq)
    | false => exact absurd ⟨by omega, by omega, hq⟩ hN
   ·exact HLT.out 0 (.inr e1)
  go_cut [23] (fun c wx => c = .bool false ∧ Hid (Below W.heap.size W wx))
  case first =>
   obtain ⟨n0, n1, n2, n3, n4, n5, nf⟩ := six_at HN.out
   by_cases e1 : k = 1
   ·have b1 : (k != 1) = false := by rw [e1]; rfl
    clear hN HX e1
    go_wp2_with fail
    go_meet
    exact ⟨rfl, Lib.hid (Below.refl _ _)⟩
   by_cases e2 : k = 2
   ·have b1 : (k != 1) = true := bne_iff_ne.2 e1
    have b2 : (k != 2) = false := by rw [e2]; rfl
    clear hN HX e1 e2
    go_wp2_with fail
    go_meet
    exact ⟨rfl, Lib.hid (Below.refl _ _)⟩
   have b1 : (k != 1) = true := bne_iff_ne.2 e1
   have b2 : (k != 2) = true := bne_iff_ne.2 e2
   have q3 : isP E.ts s.at' 44 = true := by
    cases hq : isP E.ts s.at' 44 with
    | true => rfl
    | false => exact absurd ⟨e1, e2, hq⟩ hN
   have Q3 := Lib.hid q3
   clear hN HX e1 e2 q3
   go_wp2_with fail
   refine (is_any _ E.rb v E.ts s E.B HIW.out.r 0 (by omega) 44).mono ?_
   rintro e w2 ⟨rfl, hb2⟩
   rw [show s.at' + 0 = s.at' from rfl, Q3.out]
   have HB2 := Lib.hid hb2
   clear hb2
   go_wp2_with fail
   go_meet
   exact ⟨rfl, HB2⟩
  case rest =>
   obtain ⟨rfl, hb2⟩ := hcut
   have hb3 := HBW.out.trans (hb2.out.mono HBW.out.size)
   have HIc := Lib.hid (HI.out.later hb3)
   have HBc := Lib.hid hb3
   have hnc := (hb2.out.block w1.heap.size (Array.getElem?_eq_some_iff.1 HN.out).1).trans HN.out
   have HNc := Lib.hid hnc
   have HS1 := Lib.hid (And.intro ((HIc.out.r.blk.cell (i := 2) rfl).trans (congrArg some hob)) (six_at hnc).2.2.2.1 : wc.cell? ⟨E.rb, 2, none⟩ = some (.pointer (some ⟨E.bt, 0, none⟩)) ∧ wc.cell? ⟨w1.heap.size, 3, none⟩ = some (.string ⟨st.toArray⟩))
   have HO1 := Lib.hid HIc.out.ops
   have HST : Hid (OkName st) := Lib.hid (by unfold OkName; exact Nat.le_of_succ_le (short_max hsh))
   obtain ⟨⟨I1, I2, I3⟩, hIn⟩ : ∃ I, I = tsides E.es 2 st := ⟨_, rfl⟩
   have HIN := Lib.hid hIn
   obtain ⟨P1, hP1⟩ : ∃ P, P = (tsides E.es 3 st).1 := ⟨_, rfl⟩
   obtain ⟨P2, hP2⟩ : ∃ P, P = (tsides E.es 3 st).2.1 := ⟨_, rfl⟩
   have HP := Lib.hid (And.intro hP1 hP2)
   rw [show (opsOf E.es).inf st = (I1, I2, I3) by rw [hIn]; rfl, show (opsOf E.es).post st = (P1, P2) by rw [hP1, hP2]; rfl] at HX
   simp only at HX
   have hwr : IntKind.i64.wrap ((s.at' : Int) + 1) = (s.at' : Int) + 1 := IntWalk.i64_in _ (by omega)
   clear hb2 hb3 hnc hIn hP1 hP2 hN
   go_upto_region 4 with fail
   go_region_held3 (fun u' => u'.cell? ⟨E.rb, 2, none⟩ = some (.pointer (some ⟨E.bt, 0, none⟩)) ∧ u'.cell? ⟨w1.heap.size, 3, none⟩ = some (.string ⟨st.toArray⟩))
    (first | (with_reducible exact HS1.out) | (with_reducible exact bg_drew HS1.out) | (with_reducible exact bg_later (bg_drew HS1.out) hb2) | (with_reducible exact bg_drew (bg_later (bg_drew HS1.out) hb2)))
    (first | (go_at_call 84; refine (infix_any _ E.bt E.bm E.es (HO1.out.later (Below.refl _ _).drew).tab (HO1.out.later (Below.refl _ _).drew).kinds st HST.out).mono ?_; rintro e w3 ⟨rfl, hb2⟩; rw [← HIN.out]))
   have HS2 := Lib.hid (bg_later (bg_drew HS1.out) hb2)
   have hb4 := below_call' (Below.refl _ _).drew hb2
   have HI3 := Lib.hid (HIc.out.later hb4)
   have HB3 := Lib.hid (HBc.out.trans (hb4.mono HBc.out.size))
   have HN3 := Lib.hid ((hb4.block w1.heap.size (Array.getElem?_eq_some_iff.1 HNc.out).1).trans HNc.out)
   clear hb2 hb4
   by_cases hC : 0 < I1 ∧ I1 ≤ s.most ∧ s.pri ≤ I2
   ·rw [if_pos hC] at HX
    obtain ⟨hC1, hC2, hC3⟩ := hC
    have c5 : w3.cell? ⟨E.rb, 5, none⟩ = some (.int .i64 s.most) := HI3.out.r.blk.cell (i := 5) rfl
    have c11 : w3.cell? ⟨E.rb, 11, none⟩ = some (.int .i64 s.pri) := HI3.out.r.blk.cell (i := 11) rfl
    have c1 : w3.cell? ⟨E.rb, 1, none⟩ = some (.int .i64 (s.at' : Int)) := HI3.out.r.blk.cell (i := 1) rfl
    have cf := HI3.out.r.blk.free
    obtain ⟨W6, hW6⟩ : ∃ W6, W6 = w3.setCell ⟨E.rb, 1, none⟩ (.int .i64 ((s.at' : Int) + 1)) := ⟨_, rfl⟩
    have hgo : RdAt W6 E.rb v E.ts (s.go 1) E.B := by rw [hW6]; exact HI3.out.r.put (v' := v) (s' := s.go 1) 1 _ (by simp [rdCells, RdS.go]) rfl rfl (by show s.at' + 1 ≤ _; omega)
    have hF : Fr (· = E.rb) u W6 := by rw [hW6]; exact (Fr.of_below (· = E.rb) HB3.out).setCell (p := ⟨E.rb, 1, none⟩) (.inl rfl) _
    have hne : w1.heap.size ≠ E.rb := fun e => by
     have h1 := HN3.out
     rw [e, HI3.out.r.blk] at h1
     injection h1 with h1
     injection h1 with _ h1
     exact absurd h1 (by decide)
    have hn6 : W6.heap[w1.heap.size]? = some (.cells #[.int .i64 k, .int .i64 ln, .int .i64 n, .string ⟨st.toArray⟩, .bool op, .bool ti] 48 (0, 0)) := by rw [hW6]; exact (Below.heap_setCell _ _ _ _ hne).trans HN3.out
    have HG := Lib.hid hgo
    have HF := Lib.hid hF
    have HRW := Lib.hid (WRow.fr HI.out.row hF)
    have hlen := HI.out.waits
    clear hgo hF hne
    go_upto_region 7 with fail
    rw [← hW6]
    clear hW6 c5 c11 c1 cf
    have hrl := HG.out.blk.lt
    have c7 : W6.cell? ⟨E.rb, 7, none⟩ = some (.int .i64 v.x.k) := HG.out.blk.cell (i := 7) rfl
    have c8 : W6.cell? ⟨E.rb, 8, none⟩ = some (.int .i64 v.x.n) := HG.out.blk.cell (i := 8) rfl
    have c9 : W6.cell? ⟨E.rb, 9, none⟩ = some (.string ⟨v.x.s.toArray⟩) := HG.out.blk.cell (i := 9) rfl
    have c10 : W6.cell? ⟨E.rb, 10, none⟩ = some (.slice v.x.A v.x.len v.x.cap) := HG.out.blk.cell (i := 10) rfl
    obtain ⟨n0, n1, n2, n3, n4, n5, nf⟩ := six_at hn6
    have hnl : w1.heap.size < W6.heap.size := World.block_lt_of_cell? W6 _ n0
    clear hn6
    have HS6 := Lib.hid (And.intro c7 (And.intro c8 (And.intro c9 (And.intro c10 n3))))
    go_region_held3 (fun u' => u'.cell? ⟨E.rb, 7, none⟩ = some (.int .i64 v.x.k) ∧ u'.cell? ⟨E.rb, 8, none⟩ = some (.int .i64 v.x.n) ∧ u'.cell? ⟨E.rb, 9, none⟩ = some (.string ⟨v.x.s.toArray⟩) ∧ u'.cell? ⟨E.rb, 10, none⟩ = some (.slice v.x.A v.x.len v.x.cap) ∧ u'.cell? ⟨w1.heap.size, 3, none⟩ = some (.string ⟨st.toArray⟩))
     (first | (with_reducible exact HS6.out) | (with_reducible exact x5_later HS6.out (Below.refl _ _).drew) | (with_reducible exact x5_later HS6.out ((Below.refl _ _).alloc (Nat.le_refl _) _)) | (with_reducible exact x5_later HS6.out (((Below.refl _ _).drew).alloc (Nat.le_refl _) _)) | (with_reducible exact x5_later HS6.out (((Below.refl _ _).alloc (Nat.le_refl _) _).drew)) | (exact ⟨R1.out.blk.cell (i := 7) rfl, R1.out.blk.cell (i := 8) rfl, R1.out.blk.cell (i := 9) rfl, R1.out.blk.cell (i := 10) rfl, (R3.out.cell (p := ⟨w1.heap.size, 3, none⟩) (by simp only [World.drew, World.size_alloc]; omega) (HNE.out)).trans (x5_later HS6.out (by repeat (first | exact Below.refl _ _ | refine Below.drew ?_ | refine Below.alloc ?_ (Nat.le_refl _) _))).2.2.2.2⟩))
     (first | (go_at_call 55; refine (await_any _ E.rb v E.ts (s.go 1) E.B (HG.out.later (by repeat (first | exact Below.refl _ _ | refine Below.drew ?_ | refine Below.alloc ?_ (Nat.le_refl _) _))) fl (HRW.out.later' (by repeat (first | exact Below.refl _ _ | refine Below.drew ?_ | refine Below.alloc ?_ (Nat.le_refl _) _))) (by omega) ⟨6, 0, st, I1, some ⟨W6.heap.size, 0, none⟩, 1, 1⟩ I3 ⟨6, 0, st, I1, [s.t]⟩).mono ?_; rintro e w7 ⟨rfl, wv', r1, r2, r3⟩; have R1 := Lib.hid r1; have R2 := Lib.hid r2; have R3 := Lib.hid r3; clear r1 r2 r3))
    all_goals
     go_wp2_with fail
     show R (.returned (.bool true)) _
     rw [HRR.out, HX.out]
     have hs := HI.out.infixStep hvv HF.out st HST.out R1.out R2.out ⟨R3.out.os, R3.out.tape, R3.out.output, R3.out.size, R3.out.block⟩ (HOP.out.symm.trans HX.out)
     exact ⟨hs.1, rfl, hs.2⟩
   ·rw [if_neg hC] at HX
    go_upto_region 5 with fail
    go_cut [52] (fun c wx => c = .bool false ∧ w3 = wx)
    case first =>
     have c5 : w3.cell? ⟨E.rb, 5, none⟩ = some (.int .i64 s.most) := HI3.out.r.blk.cell (i := 5) rfl
     have c11 : w3.cell? ⟨E.rb, 11, none⟩ = some (.int .i64 s.pri) := HI3.out.r.blk.cell (i := 11) rfl
     by_cases c1 : 0 < I1
     ·by_cases c2 : I1 ≤ s.most
      ·have c3 : ¬ s.pri ≤ I2 := fun e => hC ⟨c1, c2, e⟩
       clear hC
       go_wp2_with fail
       go_meet
       exact ⟨rfl, rfl⟩
      ·clear hC
       go_wp2_with fail
       go_meet
       exact ⟨rfl, rfl⟩
     ·clear hC
      go_wp2_with fail
      go_meet
      exact ⟨rfl, rfl⟩
    case rest =>
     obtain ⟨rfl, rfl⟩ := hcut
     have HO3 := Lib.hid HI3.out.ops
     clear hC
     go_upto_region 9 with fail
     go_region_held3 (fun u' => u'.cell? ⟨E.rb, 2, none⟩ = some (.pointer (some ⟨E.bt, 0, none⟩)) ∧ u'.cell? ⟨w1.heap.size, 3, none⟩ = some (.string ⟨st.toArray⟩))
      (first | (with_reducible exact HS2.out) | (with_reducible exact bg_drew HS2.out) | (with_reducible exact bg_later (bg_drew HS2.out) hb2) | (with_reducible exact bg_drew (bg_later (bg_drew HS2.out) hb2)))
      (first | (go_at_call 85; refine (postfix_any _ E.bt E.bm E.es (HO3.out.later (Below.refl _ _).drew).tab (HO3.out.later (Below.refl _ _).drew).kinds st HST.out).mono ?_; rintro e w4 ⟨rfl, hb2⟩; rw [← HP.out.1, ← HP.out.2]))
     have hb4 := below_call' (Below.refl _ _).drew hb2
     have HI4 := Lib.hid (HI3.out.later hb4)
     have HB4 := Lib.hid (HB3.out.trans (hb4.mono HB3.out.size))
     have HN4 := Lib.hid ((hb4.block w1.heap.size (Array.getElem?_eq_some_iff.1 HN3.out).1).trans HN3.out)
     clear hb2 hb4
     by_cases hC : 0 < P1 ∧ P1 ≤ s.most ∧ s.pri ≤ P2
     ·rw [if_pos hC] at HX
      obtain ⟨hC1, hC2, hC3⟩ := hC
      have c5 : w4.cell? ⟨E.rb, 5, none⟩ = some (.int .i64 s.most) := HI4.out.r.blk.cell (i := 5) rfl
      have c11 : w4.cell? ⟨E.rb, 11, none⟩ = some (.int .i64 s.pri) := HI4.out.r.blk.cell (i := 11) rfl
      have c1 : w4.cell? ⟨E.rb, 1, none⟩ = some (.int .i64 (s.at' : Int)) := HI4.out.r.blk.cell (i := 1) rfl
      have cf := HI4.out.r.blk.free
      obtain ⟨W6, hW6⟩ : ∃ W6, W6 = w4.setCell ⟨E.rb, 1, none⟩ (.int .i64 ((s.at' : Int) + 1)) := ⟨_, rfl⟩
      have hgo : RdAt W6 E.rb v E.ts (s.go 1) E.B := by rw [hW6]; exact HI4.out.r.put (v' := v) (s' := s.go 1) 1 _ (by simp [rdCells, RdS.go]) rfl rfl (by show s.at' + 1 ≤ _; omega)
      have hF : Fr (· = E.rb) u W6 := by rw [hW6]; exact (Fr.of_below (· = E.rb) HB4.out).setCell (p := ⟨E.rb, 1, none⟩) (.inl rfl) _
      have hne : w1.heap.size ≠ E.rb := fun e => by
       have h1 := HN4.out
       rw [e, HI4.out.r.blk] at h1
       injection h1 with h1
       injection h1 with _ h1
       exact absurd h1 (by decide)
      have hn6 : W6.heap[w1.heap.size]? = some (.cells #[.int .i64 k, .int .i64 ln, .int .i64 n, .string ⟨st.toArray⟩, .bool op, .bool ti] 48 (0, 0)) := by rw [hW6]; exact (Below.heap_setCell _ _ _ _ hne).trans HN4.out
      have HG := Lib.hid hgo
      have HF := Lib.hid hF
      clear hgo hF hne
      go_upto_region 12 with fail
      rw [← hW6]
      clear hW6 c5 c11 c1 cf
      have hrl := HG.out.blk.lt
      have c7 : W6.cell? ⟨E.rb, 7, none⟩ = some (.int .i64 v.x.k) := HG.out.blk.cell (i := 7) rfl
      have c8 : W6.cell? ⟨E.rb, 8, none⟩ = some (.int .i64 v.x.n) := HG.out.blk.cell (i := 8) rfl
      have c9 : W6.cell? ⟨E.rb, 9, none⟩ = some (.string ⟨v.x.s.toArray⟩) := HG.out.blk.cell (i := 9) rfl
      have c10 : W6.cell? ⟨E.rb, 10, none⟩ = some (.slice v.x.A v.x.len v.x.cap) := HG.out.blk.cell (i := 10) rfl
      obtain ⟨n0, n1, n2, n3, n4, n5, nf⟩ := six_at hn6
      have hnl : w1.heap.size < W6.heap.size := World.block_lt_of_cell? W6 _ n0
      clear hn6
      go_region_with (refine (done_any _ E.rb v E.ts (s.go 1) E.B (HG.out.later (by repeat (first | exact Below.refl _ _ | refine Below.drew ?_ | refine Below.alloc ?_ (Nat.le_refl _) _))) ⟨4, 0, st, some ⟨W6.heap.size, 0, none⟩, 1, 1⟩ (compT st [s.t]) P1).mono ?_; rintro e w7 ⟨rfl, r1, r3⟩; have R1 := Lib.hid r1; have R3 := Lib.hid r3; clear r1 r3)
      all_goals
       go_wp2_with fail
       show R (.returned (.bool true)) _
       rw [HRR.out, HX.out]
       have hs := HI.out.compOne ⟨_, HG.out.blk⟩ (HF.out.weak fun _ hk => .inl hk) ⟨R3.out.os, R3.out.tape, R3.out.output, R3.out.size, R3.out.block⟩ st HST.out
       have hF7 : Fr (· = E.rb) u w7 := ((HF.out.alloc _).drew).trans R3.out
       have hd := HI.out.doneStep hs.2 R1.out (WRow.fr HI.out.row hF7) hs.1 (by rw [left_old hvv]; exact operator_less (HOP.out.symm.trans HX.out)) rfl rfl rfl rfl
       exact ⟨hd.1, rfl, hd.2⟩
     ·rw [if_neg hC] at HX
      go_upto_region 10 with fail
      go_cut [99] (fun c wx => c = .bool false ∧ w4 = wx)
      case first =>
       have c5 : w4.cell? ⟨E.rb, 5, none⟩ = some (.int .i64 s.most) := HI4.out.r.blk.cell (i := 5) rfl
       have c11 : w4.cell? ⟨E.rb, 11, none⟩ = some (.int .i64 s.pri) := HI4.out.r.blk.cell (i := 11) rfl
       by_cases c1 : 0 < P1
       ·by_cases c2 : P1 ≤ s.most
        ·have c3 : ¬ s.pri ≤ P2 := fun e => hC ⟨c1, c2, e⟩
         clear hC
         go_wp2_with fail
         go_meet
         exact ⟨rfl, rfl⟩
        ·clear hC
         go_wp2_with fail
         go_meet
         exact ⟨rfl, rfl⟩
       ·clear hC
        go_wp2_with fail
        go_meet
        exact ⟨rfl, rfl⟩
      case rest =>
       obtain ⟨rfl, rfl⟩ := hcut
       clear hC
       go_wp2_with fail
       show R (.returned (.bool false)) _
       rw [HRR.out, HX.out]
       exact ⟨HI.out.belE HB4.out, rfl, HI4.out⟩
end
end Go.Proofs.YtiffopheamnngaaGreatDoor
