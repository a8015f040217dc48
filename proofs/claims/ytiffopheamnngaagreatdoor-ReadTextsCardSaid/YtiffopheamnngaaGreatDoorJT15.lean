import Derived.Test.YtiffopheamnngaaGreatDoorJT14
namespace Go.Proofs.YtiffopheamnngaaGreatDoor
open Go.RowKit Go.Maps
set_option maxRecDepth 100000
def RTermC (n : Nat) : Prop := ∀ (E : RqE) (u : World) (nv : Value) (q : QS) (most : Int), RqAt E u nv q false → E.ts.length - q.at' < n →
 Calls Tryz.prog 36 #[.pointer (some ⟨E.rb, 0, none⟩), .int .i64 most] u fun e u' => RqPost E u nv (termQ (opsQ E.es) E.ts n most q) e u'
def ArgsPost (E : RqE) (u : World) (nv : Value) (res : Except Nat (List Tm × QS)) (e : Ending) (u' : World) : Prop :=
 ∃ (v : Value) (xs : List TV) (l : List Tm) (nv' : Value) (q' : QS) (bad' : Bool), e = .returned v ∧ RqAt E u' nv' q' bad' ∧ RqF E u nv u' nv' ∧ Row u' u.heap.size 34 4 encTV v xs ∧ TermsS u' (NewX u.heap.size u' fun b => v.ownBlock = some b) xs l ∧ xs.length ≤ 20000 ∧ Says res bad' l q'
structure AInv (E : RqE) (u : World) (nv0 : Value) (T : QT) (R : Except Nat (List Tm × QS)) (n gk : Nat) (v : Value) (wr : World) (nv : Value) (q : QS) (xs : List TV) (l : List Tm) : Prop where
 at' : RqAt E wr nv q false
 fr : RqF E u nv0 wr nv
 row : Row wr u.heap.size 34 4 encTV v xs
 tms : TermsS wr (NewX u.heap.size wr fun b => v.ownBlock = some b) xs l
 res : argsQ E.ts T gk q l = R
 fuel : E.ts.length - q.at' < n
 gas : E.ts.length - q.at' < gk
 few : xs.length ≤ q.at'
theorem fresh_fourQ (w : World) (x : TV) (t : TypeId) : ∀ j u, (encTV x)[j]? = some u → (w.alloc (.cells #[.int .i64 x.k, .int .i64 x.n, .string ⟨x.s.toArray⟩, .slice x.A x.len x.cap] t)).cell? ⟨w.heap.size, j, none⟩ = some u := fun j u hu => by
 rw [World.cell?_alloc_at _ _ _ _ rfl]
 simpa [encTV] using hu
theorem tvQ_lit (x : TV) : tvV x = .agg #[.int .i64 x.k, .int .i64 x.n, .string ⟨x.s.toArray⟩, .slice x.A x.len x.cap] := rfl
theorem RqAt.grown {E : RqE} {u w' w9 : World} {nv : Value} {q : QS} {bad : Bool} {row : Option Nat} (h : RqAt E u nv q bad) (hb : Below u.heap.size u w') (hg : w'.grownBy w9 row) (hrow : ∀ k, row = some k → E.rb < k ∧ nv.ownBlock ≠ some k) : RqAt E w9 nv q bad :=
 ⟨h.toRqCo.grown hb hg fun k hk => (hrow k hk).1, (h.names.later hb).keep fun k hk => hg.block k (Nat.lt_of_lt_of_le (h.names.lt k hk).2 hb.size) fun e => (hrow k e.symm).2 hk⟩
theorem RqF.grown {E : RqE} {u w' w9 : World} {nv nv' : Value} {row : Option Nat} (h : RqF E u nv w' nv') (hg : w'.grownBy w9 row) (hrow : ∀ k, row = some k → u.heap.size ≤ k) : RqF E u nv w9 nv' := ⟨h.fr.grown hg fun g e => .inr (hrow g e), h.own⟩
theorem NewX.grown {s : Nat} {w' w9 : World} {X : Nat → Prop} {row : Option Nat} (hg : w'.grownBy w9 row) (hX : ∀ k, row = some k → X k) (b : Nat) (hb : NewX s w' X b) : NewX s w9 X b ∧ w9.heap[b]? = w'.heap[b]? := by
 have h4 := hg.block b hb.2.1.lt fun e => hb.2.2 (hX b e.symm)
 exact ⟨⟨hb.1, hb.2.1.keep h4, hb.2.2⟩, h4⟩
theorem argsQ_err {ts : List Tok} {T : QT} {gk : Nat} {q q1 : QS} {l l' : List Tm} {R : Except Nat (List Tm × QS)} {a : Tm × Int} (h : argsQ ts T gk q l = R) (hg : 0 < gk) (hs : Says (T 999 q) true a q1) : Says R true l' q1 := by
 obtain ⟨k, rfl⟩ : ∃ k, gk = k + 1 := ⟨gk - 1, by omega⟩
 unfold argsQ at h
 cases hx : T 999 q with
 | error b =>
  rw [hx] at h hs
  rw [← h]
  exact hs
 | ok r =>
  rw [hx] at hs
  exact absurd hs.1 (by decide)
theorem argsQ_ok {ts : List Tok} {T : QT} {gk : Nat} {q q1 : QS} {l : List Tm} {R : Except Nat (List Tm × QS)} {t : Tm} {p : Int} (h : argsQ ts T gk q l = R) (hg : 0 < gk) (hs : Says (T 999 q) false (t, p) q1) : T 999 q = .ok ((t, p), q1) ∧ (if isP ts q1.at' 44 then argsQ ts T (gk - 1) (q1.go 1) (l ++ [t]) else .ok (l ++ [t], q1)) = R := by
 obtain ⟨k, rfl⟩ : ∃ k, gk = k + 1 := ⟨gk - 1, by omega⟩
 unfold argsQ at h
 cases hx : T 999 q with
 | error b =>
  rw [hx] at hs
  exact absurd hs.1 (by decide)
 | ok r =>
  rw [hx] at h hs
  obtain ⟨-, rfl⟩ := hs
  exact ⟨rfl, h⟩
set_option maxHeartbeats 8000000 in
theorem args_any {n : Nat} (hT : RTermC n) (E : RqE) (u : World) (nv0 : Value) (q0 : QS) (h : RqAt E u nv0 q0 false) (hn : E.ts.length - q0.at' < n) :
    Calls Tryz.prog 96 #[.pointer (some ⟨E.rb, 0, none⟩)] u fun e u' => ArgsPost E u nv0 (argsQ E.ts (termQ (opsQ E.es) E.ts n) (E.ts.length + 1) q0 []) e u' := by
 obtain ⟨P, hP⟩ : ∃ P : Ending → World → Prop, P = fun e u' => ArgsPost E u nv0 (argsQ E.ts (termQ (opsQ E.es) E.ts n) (E.ts.length + 1) q0 []) e u' := ⟨_, rfl⟩
 rw [← hP]
 have HP := Lib.hid hP
 obtain ⟨R, hR⟩ : ∃ R, R = argsQ E.ts (termQ (opsQ E.es) E.ts n) (E.ts.length + 1) q0 [] := ⟨_, rfl⟩
 have HI0 : Hid (AInv E u nv0 (termQ (opsQ E.es) E.ts n) R n (E.ts.length + 1) (.slice none 0 0) u nv0 q0 [] []) := Lib.hid ⟨h, RqF.refl _ _ _, Row.nil _ _ _ _ _, TermsS.nil _ _, hR.symm, hn, by omega, Nat.zero_le _⟩
 have HR := Lib.hid hR
 have HT := Lib.hid hT
 obtain ⟨i0, z0, hi0, hz0, hs0, hby0, hzc0⟩ := term_info
 have hzs : z0.cells.size = 4 := by rw [hzc0]; rfl
 have HIN := Lib.hid (And.intro hi0 (And.intro hz0 (And.intro hs0 (And.intro hby0 hzs))))
 have HRB := Lib.hid h.lt
 clear hP hR h hn hT hi0 hz0 hs0 hby0 hzc0 hzs
 go_enter Tryz.func96, Tryz.ntmps96
 go_wp2_with fail
 go_loopg [3] (E.ts.length + 1) (fun gk v wr => ∃ (nv : Value) (q : QS) (xs : List TV) (l : List Tm), Hid (AInv E u nv0 (termQ (opsQ E.es) E.ts n) R n gk v wr nv q xs l))
 case atStart => exact ⟨_, _, _, _, HI0⟩
 case round =>
  obtain ⟨nv, q, xs, l, HI⟩ := hrel
  go_wp2_with fail
  refine (HT.out E wr nv q 999 HI.out.at' HI.out.fuel).mono ?_
  rintro e w1 ⟨x, t, p, nv1, q1, bad1, rfl, hA1, hF1, ht1, hs1⟩
  rw [tvQ_lit]
  obtain ⟨V, hV⟩ : ∃ V, V = w1.alloc (.cells #[.int .i64 x.k, .int .i64 x.n, .string ⟨x.s.toArray⟩, .slice x.A x.len x.cap] 34) := ⟨_, rfl⟩
  obtain ⟨bx, hbx⟩ : ∃ b, b = w1.heap.size := ⟨_, rfl⟩
  have hbV : Below w1.heap.size w1 V := by rw [hV]; exact (Below.refl _ _).alloc (Nat.le_refl _) _
  have hx0 : V.heap[bx]? = some (.cells #[.int .i64 x.k, .int .i64 x.n, .string ⟨x.s.toArray⟩, .slice x.A x.len x.cap] 34 (0, 0)) := by rw [hV, hbx]; exact heap_alloc_new _ _
  have hbig : u.heap.size < V.heap.size := by have := (HI.out.fr.trans hF1).size; rw [hV]; simp; omega
  have HAV := Lib.hid (hA1.later hbV)
  have HFV := Lib.hid (HI.out.fr.trans (hF1.below hbV))
  have HF1 := Lib.hid hF1
  have HT1 := Lib.hid ht1
  have HBV := Lib.hid hbV
  have HS1 := Lib.hid hs1
  obtain ⟨⟨-, -, -, -, -, c5⟩, -⟩ := HAV.out.cells
  obtain ⟨y0, y1, y2, y3, yf⟩ := four_at hx0
  clear hA1 hF1 ht1 hbV hs1 hx0
  go_upto_region 3 with fail
  rw [← hV, ← hbx]
  clear hV hbx
  cases bad1 with
  | true =>
   go_wp2_with fail
   show P (.returned (.slice none 0 0)) V
   rw [HP.out]
   exact ⟨.slice none 0 0, [], [], nv1, q1, true, rfl, HAV.out, HFV.out, Row.nil _ _ _ _ _, TermsS.nil _ _, by simp, by rw [← HR.out]; exact argsQ_err HI.out.res (by have := HI.out.gas; omega) HS1.out⟩
  | false =>
   obtain ⟨hok, hres⟩ := argsQ_ok HI.out.res (by have := HI.out.gas; omega) HS1.out
   have hlt : q.at' < q1.at' := term_fwd _ _ _ _ _ _ _ hok
   have hin := HAV.out.in'
   have hfew := HAV.out.few
   have hxs : xs.length ≤ 20000 := by have := HI.out.few; omega
   have HRES := Lib.hid hres
   have HLT := Lib.hid hlt
   have hsV := HBV.out.size
   have hsu : u.heap.size ≤ w1.heap.size := (HI.out.fr.trans HF1.out).size
   have hrow1 : Row V u.heap.size 34 4 encTV u3 xs := (HI.out.row.keep fun k hk => HF1.out.fr.block k (HI.out.row.lt k hk).2 fun e => by
    have hty := HI.out.row.tyq hk
    rcases e with e | e
    ·exact hty.ne HI.out.at'.ty (by decide) e
    ·exact hty.ne (HI.out.at'.names.tyq e) (by decide) rfl).later HBV.out
   have HROW := Lib.hid hrow1
   have htm1 : TermsS V (NewX u.heap.size V fun b => u3.ownBlock = some b) (xs ++ [x]) (l ++ [t]) := by
    refine ((HI.out.tms.go' (NewX.step HF1.out HI.out.at')).go' (NewX.below HBV.out)).snoc ((HT1.out.keep (fun b hb => ⟨Nat.le_trans HI.out.fr.size hb.1, hb.2.1, fun e => ?_⟩) fun _ _ => rfl).go' (NewX.below HBV.out))
    have := (HI.out.row.lt b e).2
    have := hb.1
    omega
   have HTM := Lib.hid htm1
   clear hok hres hlt hrow1 htm1 hin hfew
   go_wp2_with (at_builtin; refine wpList_row_lies rfl _ _ 32 rfl _ u.heap.size 34 i0 z0 4 56 encTV Tryz.underlying32 HIN.out.1 HIN.out.2.1 HIN.out.2.2.1 HIN.out.2.2.2.1 HIN.out.2.2.2.2 (by decide) encTV_len encTV_one _ xs x rfl (HROW.out.alloc _) _ 1 rfl (fun j v hv => ?_) (by unfold maxLen; omega) (by omega) (by simp; omega) ?_)
   ·exact fresh_fourQ V x 34 j v hv
   ·intro g' cap' w' hrow' hgrow hat
    have hal : Below V.heap.size V (V.alloc (.cells #[.int .i64 x.k, .int .i64 x.n, .string ⟨x.s.toArray⟩, .slice x.A x.len x.cap] 34)) := (Below.refl _ _).alloc (Nat.le_refl _) _
    have hA' : RqAt E w' nv1 q1 false := HAV.out.grown hal hgrow fun k hk => ⟨by have := (HROW.out.lt k hk).1; have := HRB.out; omega, fun e => ((HROW.out.tyq hk).ne (HAV.out.names.tyq e) (by decide)) rfl⟩
    have hF' : RqF E u nv0 w' nv1 := (HFV.out.below hal).grown hgrow fun k hk => (HROW.out.lt k hk).1
    have hT' : TermsS w' (NewX u.heap.size w' fun b => (Value.slice (some ⟨g', 0, none⟩) (xs.length + 1) cap').ownBlock = some b) (xs ++ [x]) (l ++ [t]) := by
     refine HTM.out.keep (fun b hb => ?_) fun b hb => ?_
     ·obtain ⟨h1, h2⟩ := NewX.below hal b hb
      obtain ⟨h3, h4⟩ := NewX.grown hgrow (fun k hk => hk) b h1
      refine ⟨h3.1, h3.2.1, fun e => ?_⟩
      have e : g' = b := Option.some.inj e
      rcases hat with h5 | h5
      ·exact hb.2.2 (by rw [h5, e])
      ·have := hb.2.1.lt
       have := hal.size
       omega
     ·obtain ⟨h1, h2⟩ := NewX.below hal b hb
      exact (NewX.grown hgrow (fun k hk => hk) b h1).2.trans h2
    have HA' := Lib.hid hA'
    have HF' := Lib.hid hF'
    have HT' := Lib.hid hT'
    have HROW' := Lib.hid hrow'
    clear hal hA' hF' hT' hrow' hgrow hat y0 y1 y2 y3 yf c5
    go_wp2_with fail
    refine (punctQ_any HA'.out 44).mono ?_
    rintro e w2 ⟨rfl, hb2⟩
    have HA2 := Lib.hid (HA'.out.later hb2)
    have HF2 := Lib.hid (HF'.out.below hb2)
    have HROW2 := Lib.hid (HROW'.out.later hb2)
    have HT2 := Lib.hid (HT'.out.go' (NewX.below hb2))
    clear hb2
    cases hq : isP E.ts q1.at' 44 with
    | false =>
     have hr := HRES.out
     rw [hq, if_neg (by decide)] at hr
     have HRR := Lib.hid hr
     clear hr
     go_wp2_with fail
     show P (.returned (.slice (some ⟨g', 0, none⟩) (xs.length + 1) cap')) w2
     rw [HP.out]
     exact ⟨_, xs ++ [x], l ++ [t], nv1, q1, false, rfl, HA2.out, HF2.out, HROW2.out, HT2.out, by rw [List.length_append, List.length_singleton]; have := HI.out.few; have := HLT.out; have := HA2.out.in'; have := HA2.out.few; omega, by rw [← HR.out, ← HRR.out]; exact ⟨rfl, rfl⟩⟩
    | true =>
     have hr := HRES.out
     rw [hq, if_pos rfl] at hr
     have hl := isP_lt hq
     have HRR := Lib.hid hr
     obtain ⟨⟨-, d1, -, -, -, -⟩, df⟩ := HA2.out.cells
     have hf2 := HA2.out.few
     have hwr : IntKind.i64.wrap ((q1.at' : Int) + 1) = (q1.at' : Int) + 1 := IntWalk.i64_in _ (by omega)
     have HNX : Hid (AInv E u nv0 (termQ (opsQ E.es) E.ts n) R n (gk - 1) (.slice (some ⟨g', 0, none⟩) (xs.length + 1) cap') (w2.setCell ⟨E.rb, 1, none⟩ (.int .i64 ((q1.at' : Int) + 1))) nv1 (q1.go 1) (xs ++ [x]) (l ++ [t])) := Lib.hid (by
      have h1 := HI.out.fuel
      have h2 := HI.out.gas
      have h3 := HLT.out
      refine ⟨HA2.out.step hl, HF2.out.set (.inl rfl) _, HROW2.out.away _ fun k hk => ?_, HT2.out.go' (NewX.set _ (.inr HRB.out)), hr, by simp only [QS.go]; omega, by simp only [QS.go]; omega, by rw [List.length_append, List.length_singleton]; have := HI.out.few; simp only [QS.go]; omega⟩
      have h4 := (HROW2.out.lt k hk).1
      have h5 := HRB.out
      show k ≠ E.rb
      omega)
     have hgk : gk - 1 < gk := by have := HI.out.gas; omega
     clear hr hf2
     go_wp2_with fail
     go_roundg (gk - 1)
     case measure => exact hgk
     case rel => exact ⟨_, _, _, _, HNX⟩
def clV (x : TV) (nv : Value) (line next : Int) : Value := .agg #[.int .i64 x.k, .int .i64 x.n, .string ⟨x.s.toArray⟩, .slice x.A x.len x.cap, nv, .int .i64 line, .int .i64 next]
def noV (line next : Int) : Value := .agg #[.int .i64 0, .int .i64 0, .string ⟨#[]⟩, .slice none 0 0, .slice none 0 0, .int .i64 line, .int .i64 next]
theorem seven_at {w1 : World} {b : Nat} {a0 a1 a2 a3 a4 a5 a6 : Value} {t : TypeId} (h : w1.heap[b]? = some (.cells #[a0, a1, a2, a3, a4, a5, a6] t (0, 0))) :
    w1.cell? ⟨b, 0, none⟩ = some a0 ∧ w1.cell? ⟨b, 1, none⟩ = some a1 ∧ w1.cell? ⟨b, 2, none⟩ = some a2 ∧ w1.cell? ⟨b, 3, none⟩ = some a3 ∧ w1.cell? ⟨b, 4, none⟩ = some a4 ∧ w1.cell? ⟨b, 5, none⟩ = some a5 ∧ w1.cell? ⟨b, 6, none⟩ = some a6 ∧ (∀ o, w1.frozen? ⟨b, o, none⟩ = false) :=
 ⟨by rw [cell_of_row w1 b 0 _ t (0, 0) h]; rfl, by rw [cell_of_row w1 b 1 _ t (0, 0) h]; rfl, by rw [cell_of_row w1 b 2 _ t (0, 0) h]; rfl, by rw [cell_of_row w1 b 3 _ t (0, 0) h]; rfl, by rw [cell_of_row w1 b 4 _ t (0, 0) h]; rfl, by rw [cell_of_row w1 b 5 _ t (0, 0) h]; rfl, by rw [cell_of_row w1 b 6 _ t (0, 0) h]; rfl, fun o => by simp [World.frozen?, h]⟩
theorem cl_below {w W : World} (h : Below w.heap.size w W) (b : Nat) (hb : w.heap.size ≤ b) (a0 a1 a2 a3 a4 a5 a6 : Value) :
    Below w.heap.size w (((((((W.setCell ⟨b, 0, none⟩ a0).setCell ⟨b, 1, none⟩ a1).setCell ⟨b, 2, none⟩ a2).setCell ⟨b, 3, none⟩ a3).setCell ⟨b, 4, none⟩ a4).setCell ⟨b, 5, none⟩ a5).setCell ⟨b, 6, none⟩ a6) :=
 ((((((h.setCell (p := ⟨b, 0, none⟩) hb _).setCell (p := ⟨b, 1, none⟩) hb _).setCell (p := ⟨b, 2, none⟩) hb _).setCell (p := ⟨b, 3, none⟩) hb _).setCell (p := ⟨b, 4, none⟩) hb _).setCell (p := ⟨b, 5, none⟩) hb _).setCell (p := ⟨b, 6, none⟩) hb _
theorem behind_at {ts : List Tok} {k : Nat} (h : k < ts.length) : behindF (ts.drop k) k = if ts[k].kind = 7 then k + 1 else if ts[k].kind = 0 then k else behindF (ts.drop (k + 1)) (k + 1) := by
 rw [List.drop_eq_getElem_cons h]
 rfl
theorem behind_end {ts : List Tok} {k : Nat} (h : k = ts.length) : behindF (ts.drop k) k = k := by
 rw [h, List.drop_length]
 rfl
set_option maxHeartbeats 8000000 in
theorem failed_any (w : World) (B : Nat) (hB : B ≤ w.heap.size) (A : Option Addr) (n c : Nat) (ts : List Tok) (h : ToksAt w B A n ts) (a : Nat) (hf : ts.length ≤ 20000) (ha : a ≤ 100000) :
    Calls Tryz.prog 33 #[.slice A n c, .int .i64 (a : Nat)] w fun e w' => e = .returned (noV (failedF ts a).line (failedF ts a).next) ∧ Below w.heap.size w w' := by
 have hln := h.len
 have HT := Lib.hid h
 clear h
 unfold noV
 by_cases hge : n ≤ a
 ·have hr : failedF ts a = ⟨noTm, [], 0, (ts.length : Int)⟩ := by unfold failedF; rw [if_pos (by omega)]
  rw [hr]
  have hc : (n : Int) ≤ (a : Int) := by omega
  simp only [hln]
  clear hr
  go_enter Tryz.func33, Tryz.ntmps33
  go_wp2_with fail
  refine bodyPost_ret (v := .agg #[.int .i64 0, .int .i64 0, .string ⟨#[]⟩, .slice none 0 0, .slice none 0 0, .int .i64 0, .int .i64 (n : Int)]) (by simp [results, Tryz.results33, go_sem]) rfl ⟨rfl, ?_⟩
  exact (Below.refl _ _).alloc (Nat.le_refl _) _
 ·have hlt : a < ts.length := by omega
  have hr : failedF ts a = ⟨noTm, [], (peekF ts a).line, (behindF (ts.drop a) a : Int)⟩ := by unfold failedF; rw [if_neg (by omega)]
  rw [hr]
  have hg := List.getElem?_eq_getElem hlt
  have hp : peekF ts a = ts[a] := by unfold peekF; rw [List.getD_eq_getElem?_getD, hg]; rfl
  rw [hp]
  obtain ⟨b, off, e1, e2, d0, d1, d2, d3, d4, d5⟩ := HT.out.at' a _ hg
  subst e1
  simp only
  generalize ts[a].line = L at d1 ⊢
  obtain ⟨X, hX⟩ : ∃ X, X = behindF (ts.drop a) a := ⟨_, rfl⟩
  rw [← hX]
  have HX := Lib.hid hX
  have hbl : b < w.heap.size := by omega
  have ha0 : (0 : Int) ≤ (a : Int) := by omega
  have ha1 : (a : Int) < (n : Int) := by omega
  have hc : ¬ ((n : Int) ≤ (a : Int)) := by omega
  clear hr hp hg hX hge d0 d2 d3 d4 d5
  go_enter Tryz.func33, Tryz.ntmps33
  go_wp2_with fail
  obtain ⟨W, hW⟩ : ∃ W, W = (w.alloc (.cells #[.int .i64 0, .int .i64 0, .string ⟨#[]⟩, .slice none 0 0, .slice none 0 0, .int .i64 0, .int .i64 0] 37)).alloc (.cells #[.int .i64 0, .int .i64 0, .string ⟨#[]⟩, .slice none 0 0, .slice none 0 0, .int .i64 L, .int .i64 (n : Int)] 37) := ⟨_, rfl⟩
  have hbW : Below w.heap.size w W := by rw [hW]; exact ((Below.refl _ _).alloc (Nat.le_refl _) _).alloc (by simp) _
  have hz0 : W.heap[w.heap.size]? = some (.cells #[.int .i64 0, .int .i64 0, .string ⟨#[]⟩, .slice none 0 0, .slice none 0 0, .int .i64 0, .int .i64 0] 37 (0, 0)) := by
   rw [hW, Below.heap_alloc _ _ _ (by simp)]
   exact heap_alloc_new w _
  have hz1 : W.heap[w.heap.size + 1]? = some (.cells #[.int .i64 0, .int .i64 0, .string ⟨#[]⟩, .slice none 0 0, .slice none 0 0, .int .i64 L, .int .i64 (n : Int)] 37 (0, 0)) := by
   rw [hW]
   have := heap_alloc_new (w.alloc (.cells #[.int .i64 0, .int .i64 0, .string ⟨#[]⟩, .slice none 0 0, .slice none 0 0, .int .i64 0, .int .i64 0] 37)) (.cells #[.int .i64 0, .int .i64 0, .string ⟨#[]⟩, .slice none 0 0, .slice none 0 0, .int .i64 L, .int .i64 (n : Int)] 37)
   rw [show (w.alloc (.cells #[.int .i64 0, .int .i64 0, .string ⟨#[]⟩, .slice none 0 0, .slice none 0 0, .int .i64 0, .int .i64 0] 37)).heap.size = w.heap.size + 1 by simp] at this
   exact this
  have HBW := Lib.hid hbW
  obtain ⟨z0, z1, z2, z3, z4, z5, z6, zf⟩ := seven_at hz0
  obtain ⟨y0, y1, y2, y3, y4, y5, y6, yf⟩ := seven_at hz1
  have hul := (Array.getElem?_eq_some_iff.1 hz1).1
  clear hbW hz0 hz1 d1
  change Code.wp _ _ _ _ ((w.alloc _).alloc _)
  rw [← hW]
  clear hW
  go_loopw [6] (fun i wr => ∃ k, a ≤ k ∧ k ≤ n ∧ i = .int .i64 (k : Nat) ∧ W = wr ∧ Hid (X = behindF (ts.drop k) k)) (fun i _ => n - (intOf i).toNat)
  case atStart => exact ⟨a, Nat.le_refl _, by omega, rfl, rfl, HX⟩
  case round =>
   obtain ⟨k, hk1, hk2, rfl, rfl, HK⟩ := hrel
   by_cases hkn : k = n
   ·have HX9 : X = n := HK.out.trans ((behind_end (by omega)).trans hkn)
    subst hkn
    clear HK
    go_wp2_with fail
    refine bodyPost_ret (v := .agg #[.int .i64 0, .int .i64 0, .string ⟨#[]⟩, .slice none 0 0, .slice none 0 0, .int .i64 L, .int .i64 (k : Int)]) (by simp [results, Tryz.results33, go_sem, z0, z1, z2, z3, z4, z5, z6]) rfl ⟨by rw [HX9], cl_below HBW.out w.heap.size (Nat.le_refl _) _ _ _ _ _ _ _⟩
   ·have hkl : k < ts.length := by omega
    have hkb := behind_at hkl
    obtain ⟨b9, off9, e1, e2', d0, -, -, -, -, -⟩ := HT.out.at' k _ (List.getElem?_eq_getElem hkl)
    injection e1 with e1
    injection e1 with e1 e3
    subst e1 e3
    generalize ts[k] = t at hkb d0
    have q0 : W.cell? ⟨b, off + k * 6, none⟩ = some (.int .i64 t.kind) := (HBW.out.cell (p := ⟨b, off + k * 6, none⟩) hbl).trans d0
    have hk0 : (0 : Int) ≤ (k : Int) := by omega
    have hkn' : (k : Int) < (n : Int) := by omega
    have hwk : IntKind.i64.wrap ((k : Int) + 1) = (k : Int) + 1 := IntWalk.i64_in _ (by omega)
    have hW0 : w.heap.size ≠ w.heap.size + 1 := by omega
    clear d0
    by_cases h7 : t.kind = 7
    ·rw [if_pos h7] at hkb
     have HX9 : X = k + 1 := HK.out.trans hkb
     rw [h7] at q0
     clear hkb HK hkn
     go_wp2_with fail
     refine bodyPost_ret (v := .agg #[.int .i64 0, .int .i64 0, .string ⟨#[]⟩, .slice none 0 0, .slice none 0 0, .int .i64 L, .int .i64 ((k : Int) + 1)]) (by simp [results, Tryz.results33, go_sem, z0, z1, z2, z3, z4, z5, z6]) rfl ⟨rfl, cl_below (HBW.out.setCell (p := ⟨w.heap.size + 1, 6, none⟩) (Nat.le_succ _) _) w.heap.size (Nat.le_refl _) _ _ _ _ _ _ _⟩
    ·by_cases h0 : t.kind = 0
     ·rw [if_neg h7, if_pos h0] at hkb
      have HX9 : X = k := HK.out.trans hkb
      rw [h0] at q0
      clear hkb HK hkn
      go_wp2_with fail
      refine bodyPost_ret (v := .agg #[.int .i64 0, .int .i64 0, .string ⟨#[]⟩, .slice none 0 0, .slice none 0 0, .int .i64 L, .int .i64 (k : Int)]) (by simp [results, Tryz.results33, go_sem, z0, z1, z2, z3, z4, z5, z6]) rfl ⟨rfl, cl_below (HBW.out.setCell (p := ⟨w.heap.size + 1, 6, none⟩) (Nat.le_succ _) _) w.heap.size (Nat.le_refl _) _ _ _ _ _ _ _⟩
     ·rw [if_neg h7, if_neg h0] at hkb
      have HK9 := Lib.hid (HK.out.trans hkb)
      have b7 : (t.kind == 7) = false := beq_eq_false_iff_ne.2 h7
      have b0 : (t.kind == 0) = false := beq_eq_false_iff_ne.2 h0
      clear hkb HK h7 h0
      go_wp2_with fail
      go_roundw
      case rel => exact ⟨k + 1, by omega, by omega, rfl, trivial, HK9⟩
      case measure =>
       simp only [intOf]
       omega
theorem ret_seven {R : Ending → World → Prop} {a : Act} {W : World} {b : Nat} {k n L N er : Int} {s : ByteArray} {A A' : Option Addr} {m m' c c' : Nat} (h6 : a.tmps[6]? = some (.pointer (some ⟨b, 0, none⟩))) (h7 : a.tmps[7]? = some (.int .i64 er)) (hd : a.defers = [])
    (hb : W.heap[b]? = some (.cells #[.int .i64 k, .int .i64 n, .string s, .slice A m c, .slice A' m' c', .int .i64 L, .int .i64 N] 42 (0, 0)))
    (hR : R (.returned (.tuple #[.agg #[.int .i64 k, .int .i64 n, .string s, .slice A m c, .slice A' m' c', .int .i64 L, .int .i64 N], .int .i64 er])) W) : bodyPost Tryz.prog Tryz.f9 R .ret a W := by
 obtain ⟨f0, f1, f2, f3, f4, f5, f6, -⟩ := seven_at hb
 refine bodyPost_ret ?_ hd hR
 simp [results, Tryz.results9, go_sem, h6, h7, f0, f1, f2, f3, f4, f5, f6]
end Go.Proofs.YtiffopheamnngaaGreatDoor
