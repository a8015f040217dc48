import Derived.Test.YtiffopheamnngaaGreatDoorJT09
namespace Go.Proofs.YtiffopheamnngaaGreatDoor
open Go.RowKit
set_option maxRecDepth 100000
def frOf (w : WaitF) : FrV := ⟨w.use, w.most, w.name, w.pri, none, 0, 0⟩
def PrimOut (u' : World) (rb : Nat) (v : RdV) (ts : List Tok) (s : RdS) (B : Nat) (l : List FrV) (r : Except Nat RdS) (e : Ending) : Prop :=
 match r with
 | .error a => e = gaveUp ∧ ∃ s', s'.at' = a ∧ RdAt u' rb v ts s' B
 | .ok s' => e = .returned (.tuple #[]) ∧ ∃ v', RdAt u' rb v' ts s' B ∧ v'.c = v.c ∧ v'.ob = v.ob ∧ v'.bv = v.bv ∧ v'.vb = v.vb ∧ v'.nv = v.nv ∧ v'.A = v.A ∧ v'.n = v.n ∧
     ((v'.x = v.x ∧ s'.t = s.t ∧ ∃ w, s'.wait = w :: s.wait ∧ w.l = [] ∧ WRow u' rb v'.wv (l ++ [frOf w])) ∨
       (v'.wv = v.wv ∧ s'.wait = s.wait ∧ WRow u' rb v'.wv l ∧ ∃ k n y, v'.x = ⟨k, n, y, none, 0, 0⟩ ∧ s'.t = .mk k n y []))
set_option maxHeartbeats 8000000 in
theorem punct_paren (u : World) (rb : Nat) (v : RdV) (ts : List Tok) (s : RdS) (B : Nat) (h : RdAt u rb v ts s B) (l : List FrV) (hrow : WRow u rb v.wv l) (hl : l.length ≤ 100000) (t : Tok) (hts : t.s = [40]) (hat : s.at' < ts.length) :
    Calls Tryz.prog 30 #[.pointer (some ⟨rb, 0, none⟩), tokW t] u fun e u' => Fr (fun k => k = rb ∨ v.wv.ownBlock = some k) u u' ∧ PrimOut u' rb v ts s B l (punctF ts s t.s) e := by
 have HA := Lib.hid h
 have hf := h.few
 have hlt := h.blk.lt
 have HR := Lib.hid hrow
 have c1 : u.cell? ⟨rb, 1, none⟩ = some (.int .i64 (s.at' : Int)) := h.blk.cell (i := 1) rfl
 have cf := h.blk.free
 have hwr : IntKind.i64.wrap ((s.at' : Int) + 1) = (s.at' : Int) + 1 := IntWalk.i64_in _ (by omega)
 clear h hrow
 have hp : punctF ts s t.s = .ok ((s.go 1).await ⟨0, 0, [], 0, []⟩ 1200) := by unfold punctF; rw [if_pos hts]
 rw [hp]
 clear hp
 unfold tokW
 rw [hts]
 obtain ⟨R, hR⟩ : ∃ R : Ending → World → Prop, R = fun e u' => Fr (fun k => k = rb ∨ v.wv.ownBlock = some k) u u' ∧ PrimOut u' rb v ts s B l (.ok ((s.go 1).await ⟨0, 0, [], 0, []⟩ 1200)) e := ⟨_, rfl⟩
 rw [← hR]
 have HRR := Lib.hid hR
 clear hR
 have hgo : RdAt ((u.setCell ⟨rb, 1, none⟩ (.int .i64 ((s.at' : Int) + 1))).alloc (.cells #[.int .i64 t.kind, .int .i64 t.line, .int .i64 t.n, .string ⟨#[40]⟩, .bool t.opn, .bool t.tight] 48)) rb v ts (s.go 1) B := (HA.out.put (v' := v) (s' := s.go 1) 1 (.int .i64 ((s.at' : Int) + 1)) (by simp [rdCells, RdS.go]) rfl rfl (by show s.at' + 1 ≤ _; omega)).later ((Below.refl _ _).alloc (Nat.le_refl _) _)
 have HG := Lib.hid hgo
 have hF : Fr (· = rb) u ((u.setCell ⟨rb, 1, none⟩ (.int .i64 ((s.at' : Int) + 1))).alloc (.cells #[.int .i64 t.kind, .int .i64 t.line, .int .i64 t.n, .string ⟨#[40]⟩, .bool t.opn, .bool t.tight] 48)) := ((Fr.refl (· = rb) u).setCell (p := ⟨rb, 1, none⟩) (.inl rfl) _).alloc _
 have HF := Lib.hid hF
 have HRW := Lib.hid (WRow.fr HR.out hF)
 clear hgo hF
 go_enter Tryz.func30, Tryz.ntmps30
 go_wp2_with fail
 refine (await_any _ rb v ts _ B HG.out l HRW.out hl ⟨0, 0, [], 0, none, 0, 0⟩ 1200 ⟨0, 0, [], 0, []⟩).mono ?_
 rintro e w2 ⟨rfl, wv', r1, r2, r3⟩
 have R1 := Lib.hid r1
 have R2 := Lib.hid r2
 have R3 := Lib.hid r3
 clear r1 r2 r3
 go_wp2_with fail
 refine bodyPost_end (v := .tuple #[]) (by simp [results, Tryz.results30, go_sem]) rfl ?_
 rw [HRR.out]
 exact ⟨(HF.out.weak fun k hk => .inl hk).trans R3.out, rfl, { v with wv := wv' }, R1.out, rfl, rfl, rfl, rfl, rfl, rfl, rfl, .inl ⟨rfl, rfl, _, rfl, rfl, R2.out⟩⟩
set_option maxHeartbeats 8000000 in
theorem punct_list (u : World) (rb : Nat) (v : RdV) (ts : List Tok) (s : RdS) (B : Nat) (h : RdAt u rb v ts s B) (l : List FrV) (hrow : WRow u rb v.wv l) (hl : l.length ≤ 100000) (t : Tok) (hts : t.s = [91]) (hat : s.at' < ts.length) (hq : isP ts (s.at' + 1) 93 = false) :
    Calls Tryz.prog 30 #[.pointer (some ⟨rb, 0, none⟩), tokW t] u fun e u' => Fr (fun k => k = rb ∨ v.wv.ownBlock = some k) u u' ∧ PrimOut u' rb v ts s B l (punctF ts s t.s) e := by
 have HA := Lib.hid h
 have hf := h.few
 have hlt := h.blk.lt
 have HR := Lib.hid hrow
 have c1 : u.cell? ⟨rb, 1, none⟩ = some (.int .i64 (s.at' : Int)) := h.blk.cell (i := 1) rfl
 have cf := h.blk.free
 have hwr : IntKind.i64.wrap ((s.at' : Int) + 1) = (s.at' : Int) + 1 := IntWalk.i64_in _ (by omega)
 clear h hrow
 have hp : punctF ts s t.s = .ok ((s.go 1).await ⟨3, 0, [], 0, []⟩ 999) := by unfold punctF; rw [if_neg (by rw [hts]; decide), if_pos hts, hq]; rfl
 rw [hp]
 clear hp
 unfold tokW
 rw [hts]
 obtain ⟨R, hR⟩ : ∃ R : Ending → World → Prop, R = fun e u' => Fr (fun k => k = rb ∨ v.wv.ownBlock = some k) u u' ∧ PrimOut u' rb v ts s B l (.ok ((s.go 1).await ⟨3, 0, [], 0, []⟩ 999)) e := ⟨_, rfl⟩
 rw [← hR]
 have HRR := Lib.hid hR
 clear hR
 go_enter Tryz.func30, Tryz.ntmps30
 go_wp2_with fail
 have ha : Below u.heap.size u (u.alloc (.cells #[.int .i64 t.kind, .int .i64 t.line, .int .i64 t.n, .string ⟨#[91]⟩, .bool t.opn, .bool t.tight] 48)) := (Below.refl _ _).alloc (Nat.le_refl _) _
 refine (pair_no _ rb v ts s B (HA.out.later ha) 93 hq).mono ?_
 rintro e w1 ⟨hb, rfl⟩
 have hb0 : Below u.heap.size u w1 := ha.trans (hb.mono (by simp))
 have HA1 := Lib.hid (HA.out.later hb0)
 clear ha hb c1 cf
 have c1 : w1.cell? ⟨rb, 1, none⟩ = some (.int .i64 (s.at' : Int)) := HA1.out.blk.cell (i := 1) rfl
 have cf := HA1.out.blk.free
 have hgo : RdAt (w1.setCell ⟨rb, 1, none⟩ (.int .i64 ((s.at' : Int) + 1))) rb v ts (s.go 1) B := HA1.out.put (v' := v) (s' := s.go 1) 1 (.int .i64 ((s.at' : Int) + 1)) (by simp [rdCells, RdS.go]) rfl rfl (by show s.at' + 1 ≤ _; omega)
 have HG := Lib.hid hgo
 have hF : Fr (· = rb) u (w1.setCell ⟨rb, 1, none⟩ (.int .i64 ((s.at' : Int) + 1))) := (Fr.of_below (· = rb) hb0).setCell (p := ⟨rb, 1, none⟩) (.inl rfl) _
 have HF := Lib.hid hF
 have HRW := Lib.hid (WRow.fr HR.out hF)
 clear hgo hF hb0
 go_wp2_with fail
 refine (await_any _ rb v ts _ B HG.out l HRW.out hl ⟨3, 0, [], 0, none, 0, 0⟩ 999 ⟨3, 0, [], 0, []⟩).mono ?_
 rintro e w2 ⟨rfl, wv', r1, r2, r3⟩
 have R1 := Lib.hid r1
 have R2 := Lib.hid r2
 have R3 := Lib.hid r3
 clear r1 r2 r3
 go_wp2_with fail
 refine bodyPost_end (v := .tuple #[]) (by simp [results, Tryz.results30, go_sem]) rfl ?_
 rw [HRR.out]
 exact ⟨(HF.out.weak fun k hk => .inl hk).trans R3.out, rfl, { v with wv := wv' }, R1.out, rfl, rfl, rfl, rfl, rfl, rfl, rfl, .inl ⟨rfl, rfl, _, rfl, rfl, R2.out⟩⟩
set_option maxHeartbeats 8000000 in
theorem punct_brace (u : World) (rb : Nat) (v : RdV) (ts : List Tok) (s : RdS) (B : Nat) (h : RdAt u rb v ts s B) (l : List FrV) (hrow : WRow u rb v.wv l) (hl : l.length ≤ 100000) (t : Tok) (hts : t.s = [123]) (hat : s.at' < ts.length) (hq : isP ts (s.at' + 1) 125 = false) :
    Calls Tryz.prog 30 #[.pointer (some ⟨rb, 0, none⟩), tokW t] u fun e u' => Fr (fun k => k = rb ∨ v.wv.ownBlock = some k) u u' ∧ PrimOut u' rb v ts s B l (punctF ts s t.s) e := by
 have HA := Lib.hid h
 have hf := h.few
 have hlt := h.blk.lt
 have HR := Lib.hid hrow
 have c1 : u.cell? ⟨rb, 1, none⟩ = some (.int .i64 (s.at' : Int)) := h.blk.cell (i := 1) rfl
 have cf := h.blk.free
 have hwr : IntKind.i64.wrap ((s.at' : Int) + 1) = (s.at' : Int) + 1 := IntWalk.i64_in _ (by omega)
 clear h hrow
 have hp : punctF ts s t.s = .ok ((s.go 1).await ⟨1, 0, [], 0, []⟩ 1200) := by unfold punctF; rw [if_neg (by rw [hts]; decide), if_neg (by rw [hts]; decide), if_pos hts, hq]; rfl
 rw [hp]
 clear hp
 unfold tokW
 rw [hts]
 obtain ⟨R, hR⟩ : ∃ R : Ending → World → Prop, R = fun e u' => Fr (fun k => k = rb ∨ v.wv.ownBlock = some k) u u' ∧ PrimOut u' rb v ts s B l (.ok ((s.go 1).await ⟨1, 0, [], 0, []⟩ 1200)) e := ⟨_, rfl⟩
 rw [← hR]
 have HRR := Lib.hid hR
 clear hR
 go_enter Tryz.func30, Tryz.ntmps30
 go_wp2_with fail
 have ha : Below u.heap.size u (u.alloc (.cells #[.int .i64 t.kind, .int .i64 t.line, .int .i64 t.n, .string ⟨#[123]⟩, .bool t.opn, .bool t.tight] 48)) := (Below.refl _ _).alloc (Nat.le_refl _) _
 refine (pair_no _ rb v ts s B (HA.out.later ha) 125 hq).mono ?_
 rintro e w1 ⟨hb, rfl⟩
 have hb0 : Below u.heap.size u w1 := ha.trans (hb.mono (by simp))
 have HA1 := Lib.hid (HA.out.later hb0)
 clear ha hb c1 cf
 have c1 : w1.cell? ⟨rb, 1, none⟩ = some (.int .i64 (s.at' : Int)) := HA1.out.blk.cell (i := 1) rfl
 have cf := HA1.out.blk.free
 have hgo : RdAt (w1.setCell ⟨rb, 1, none⟩ (.int .i64 ((s.at' : Int) + 1))) rb v ts (s.go 1) B := HA1.out.put (v' := v) (s' := s.go 1) 1 (.int .i64 ((s.at' : Int) + 1)) (by simp [rdCells, RdS.go]) rfl rfl (by show s.at' + 1 ≤ _; omega)
 have HG := Lib.hid hgo
 have hF : Fr (· = rb) u (w1.setCell ⟨rb, 1, none⟩ (.int .i64 ((s.at' : Int) + 1))) := (Fr.of_below (· = rb) hb0).setCell (p := ⟨rb, 1, none⟩) (.inl rfl) _
 have HF := Lib.hid hF
 have HRW := Lib.hid (WRow.fr HR.out hF)
 clear hgo hF hb0
 go_wp2_with fail
 refine (await_any _ rb v ts _ B HG.out l HRW.out hl ⟨1, 0, [], 0, none, 0, 0⟩ 1200 ⟨1, 0, [], 0, []⟩).mono ?_
 rintro e w2 ⟨rfl, wv', r1, r2, r3⟩
 have R1 := Lib.hid r1
 have R2 := Lib.hid r2
 have R3 := Lib.hid r3
 clear r1 r2 r3
 go_wp2_with fail
 refine bodyPost_end (v := .tuple #[]) (by simp [results, Tryz.results30, go_sem]) rfl ?_
 rw [HRR.out]
 exact ⟨(HF.out.weak fun k hk => .inl hk).trans R3.out, rfl, { v with wv := wv' }, R1.out, rfl, rfl, rfl, rfl, rfl, rfl, rfl, .inl ⟨rfl, rfl, _, rfl, rfl, R2.out⟩⟩
set_option maxHeartbeats 8000000 in
theorem punct_list2 (u : World) (rb : Nat) (v : RdV) (ts : List Tok) (s : RdS) (B : Nat) (h : RdAt u rb v ts s B) (l : List FrV) (hrow : WRow u rb v.wv l) (hl : l.length ≤ 100000) (t : Tok) (hts : t.s = [91]) (hat : s.at' < ts.length) (hq : isP ts (s.at' + 1) 93 = true) (hln : (peekF ts s.at').s.length ≤ 1000000) :
    Calls Tryz.prog 30 #[.pointer (some ⟨rb, 0, none⟩), tokW t] u fun e u' => Fr (fun k => k = rb ∨ v.wv.ownBlock = some k) u u' ∧ PrimOut u' rb v ts s B l (punctF ts s t.s) e := by
 have HA := Lib.hid h
 have hf := h.few
 have hlt := h.blk.lt
 have HR := Lib.hid hrow
 have c1 : u.cell? ⟨rb, 1, none⟩ = some (.int .i64 (s.at' : Int)) := h.blk.cell (i := 1) rfl
 have cf := h.blk.free
 have hwr : IntKind.i64.wrap ((s.at' : Int) + 1) = (s.at' : Int) + 1 := IntWalk.i64_in _ (by omega)
 clear h hrow
 have hp : punctF ts s t.s = (pairF ts s 93) := by unfold punctF; rw [if_neg (by rw [hts]; decide), if_pos hts, hq]; rfl
 rw [hp]
 clear hp
 unfold tokW
 rw [hts]
 obtain ⟨R, hR⟩ : ∃ R : Ending → World → Prop, R = fun e u' => Fr (fun k => k = rb ∨ v.wv.ownBlock = some k) u u' ∧ PrimOut u' rb v ts s B l ((pairF ts s 93)) e := ⟨_, rfl⟩
 rw [← hR]
 have HRR := Lib.hid hR
 clear hR
 have hpf : pairF ts s 93 = if (peekF ts (s.at' + 1)).opn then argsF ts (s.go 2) ((peekF ts s.at').s ++ [93]) else .ok ((s.go 2).done (atomT ((peekF ts s.at').s ++ [93])) 0) := rfl
 go_enter Tryz.func30, Tryz.ntmps30
 go_wp2_with fail
 have ha : Below u.heap.size u (u.alloc (.cells #[.int .i64 t.kind, .int .i64 t.line, .int .i64 t.n, .string ⟨#[91]⟩, .bool t.opn, .bool t.tight] 48)) := (Below.refl _ _).alloc (Nat.le_refl _) _
 refine (pair_yes _ rb v ts s B (HA.out.later ha) l (WRow.fr HR.out (.of_below _ ha)) hl 93 hq hln).mono ?_
 rintro e w1 ⟨hF, h1⟩
 have HF := Lib.hid ((Fr.of_below (fun k => k = rb ∨ v.wv.ownBlock = some k) ha).trans hF)
 have HF0 := Lib.hid hF
 clear ha hF
 cases ho : (peekF ts (s.at' + 1)).opn with
 | true =>
  rw [ho] at h1 hpf
  simp only [if_true] at h1 hpf
  cases hp4 : isP ts (s.at' + 2) 40 with
  | true =>
   rw [hp4, if_pos rfl] at h1
   have hr : pairF ts s 93 = .ok (((s.go 2).go 1).await ⟨2, 0, (peekF ts s.at').s ++ [93], 0, []⟩ 999) := by
    rw [hpf]; unfold argsF RdS.expect; rw [show (s.go 2).at' = s.at' + 2 from rfl, hp4]; rfl
   obtain ⟨rfl, wv', h1, h2⟩ := h1
   have H1 := Lib.hid h1
   have H2 := Lib.hid h2
   clear h1 h2 hpf
   go_wp2_with fail
   refine bodyPost_end (v := .tuple #[]) (by simp [results, Tryz.results30, go_sem]) rfl ?_
   rw [HRR.out]
   refine ⟨HF.out, ?_⟩
   rw [hr]
   exact ⟨rfl, { v with wv := wv' }, H1.out, rfl, rfl, rfl, rfl, rfl, rfl, rfl, .inl ⟨rfl, rfl, _, rfl, rfl, H2.out⟩⟩
  | false =>
   rw [hp4, if_neg (by simp)] at h1
   have hr : pairF ts s 93 = .error (s.at' + 2) := by
    rw [hpf]; unfold argsF RdS.expect; rw [show (s.go 2).at' = s.at' + 2 from rfl, hp4]; rfl
   obtain ⟨rfl, h1⟩ := h1
   refine ⟨rfl, ?_⟩
   rw [HRR.out]
   refine ⟨HF.out, ?_⟩
   rw [hr]
   exact ⟨rfl, s.go 2, rfl, h1⟩
 | false =>
  rw [ho] at h1 hpf
  simp only [Bool.false_eq_true, if_false] at h1 hpf
  obtain ⟨rfl, h1, h2⟩ := h1
  have H1 := Lib.hid h1
  have HP := Lib.hid hpf
  have H2 := Lib.hid h2
  clear h2
  clear h1 hpf
  go_wp2_with fail
  refine bodyPost_end (v := .tuple #[]) (by simp [results, Tryz.results30, go_sem]) rfl ?_
  rw [HRR.out]
  refine ⟨HF.out, ?_⟩
  rw [HP.out]
  exact ⟨rfl, _, H1.out, rfl, rfl, rfl, rfl, rfl, rfl, rfl, .inr ⟨rfl, rfl, H2.out, 3, 0, _, rfl, rfl⟩⟩
set_option maxHeartbeats 8000000 in
theorem punct_brace2 (u : World) (rb : Nat) (v : RdV) (ts : List Tok) (s : RdS) (B : Nat) (h : RdAt u rb v ts s B) (l : List FrV) (hrow : WRow u rb v.wv l) (hl : l.length ≤ 100000) (t : Tok) (hts : t.s = [123]) (hat : s.at' < ts.length) (hq : isP ts (s.at' + 1) 125 = true) (hln : (peekF ts s.at').s.length ≤ 1000000) :
    Calls Tryz.prog 30 #[.pointer (some ⟨rb, 0, none⟩), tokW t] u fun e u' => Fr (fun k => k = rb ∨ v.wv.ownBlock = some k) u u' ∧ PrimOut u' rb v ts s B l (punctF ts s t.s) e := by
 have HA := Lib.hid h
 have hf := h.few
 have hlt := h.blk.lt
 have HR := Lib.hid hrow
 have c1 : u.cell? ⟨rb, 1, none⟩ = some (.int .i64 (s.at' : Int)) := h.blk.cell (i := 1) rfl
 have cf := h.blk.free
 have hwr : IntKind.i64.wrap ((s.at' : Int) + 1) = (s.at' : Int) + 1 := IntWalk.i64_in _ (by omega)
 clear h hrow
 have hp : punctF ts s t.s = (pairF ts s 125) := by unfold punctF; rw [if_neg (by rw [hts]; decide), if_neg (by rw [hts]; decide), if_pos hts, hq]; rfl
 rw [hp]
 clear hp
 unfold tokW
 rw [hts]
 obtain ⟨R, hR⟩ : ∃ R : Ending → World → Prop, R = fun e u' => Fr (fun k => k = rb ∨ v.wv.ownBlock = some k) u u' ∧ PrimOut u' rb v ts s B l ((pairF ts s 125)) e := ⟨_, rfl⟩
 rw [← hR]
 have HRR := Lib.hid hR
 clear hR
 have hpf : pairF ts s 125 = if (peekF ts (s.at' + 1)).opn then argsF ts (s.go 2) ((peekF ts s.at').s ++ [125]) else .ok ((s.go 2).done (atomT ((peekF ts s.at').s ++ [125])) 0) := rfl
 go_enter Tryz.func30, Tryz.ntmps30
 go_wp2_with fail
 have ha : Below u.heap.size u (u.alloc (.cells #[.int .i64 t.kind, .int .i64 t.line, .int .i64 t.n, .string ⟨#[123]⟩, .bool t.opn, .bool t.tight] 48)) := (Below.refl _ _).alloc (Nat.le_refl _) _
 refine (pair_yes _ rb v ts s B (HA.out.later ha) l (WRow.fr HR.out (.of_below _ ha)) hl 125 hq hln).mono ?_
 rintro e w1 ⟨hF, h1⟩
 have HF := Lib.hid ((Fr.of_below (fun k => k = rb ∨ v.wv.ownBlock = some k) ha).trans hF)
 have HF0 := Lib.hid hF
 clear ha hF
 cases ho : (peekF ts (s.at' + 1)).opn with
 | true =>
  rw [ho] at h1 hpf
  simp only [if_true] at h1 hpf
  cases hp4 : isP ts (s.at' + 2) 40 with
  | true =>
   rw [hp4, if_pos rfl] at h1
   have hr : pairF ts s 125 = .ok (((s.go 2).go 1).await ⟨2, 0, (peekF ts s.at').s ++ [125], 0, []⟩ 999) := by
    rw [hpf]; unfold argsF RdS.expect; rw [show (s.go 2).at' = s.at' + 2 from rfl, hp4]; rfl
   obtain ⟨rfl, wv', h1, h2⟩ := h1
   have H1 := Lib.hid h1
   have H2 := Lib.hid h2
   clear h1 h2 hpf
   go_wp2_with fail
   refine bodyPost_end (v := .tuple #[]) (by simp [results, Tryz.results30, go_sem]) rfl ?_
   rw [HRR.out]
   refine ⟨HF.out, ?_⟩
   rw [hr]
   exact ⟨rfl, { v with wv := wv' }, H1.out, rfl, rfl, rfl, rfl, rfl, rfl, rfl, .inl ⟨rfl, rfl, _, rfl, rfl, H2.out⟩⟩
  | false =>
   rw [hp4, if_neg (by simp)] at h1
   have hr : pairF ts s 125 = .error (s.at' + 2) := by
    rw [hpf]; unfold argsF RdS.expect; rw [show (s.go 2).at' = s.at' + 2 from rfl, hp4]; rfl
   obtain ⟨rfl, h1⟩ := h1
   refine ⟨rfl, ?_⟩
   rw [HRR.out]
   refine ⟨HF.out, ?_⟩
   rw [hr]
   exact ⟨rfl, s.go 2, rfl, h1⟩
 | false =>
  rw [ho] at h1 hpf
  simp only [Bool.false_eq_true, if_false] at h1 hpf
  obtain ⟨rfl, h1, h2⟩ := h1
  have H1 := Lib.hid h1
  have HP := Lib.hid hpf
  have H2 := Lib.hid h2
  clear h2
  clear h1 hpf
  go_wp2_with fail
  refine bodyPost_end (v := .tuple #[]) (by simp [results, Tryz.results30, go_sem]) rfl ?_
  rw [HRR.out]
  refine ⟨HF.out, ?_⟩
  rw [HP.out]
  exact ⟨rfl, _, H1.out, rfl, rfl, rfl, rfl, rfl, rfl, rfl, .inr ⟨rfl, rfl, H2.out, 3, 0, _, rfl, rfl⟩⟩
set_option maxHeartbeats 8000000 in
theorem punct_bad (u : World) (rb : Nat) (v : RdV) (ts : List Tok) (s : RdS) (B : Nat) (h : RdAt u rb v ts s B) (l : List FrV) (t : Tok) (h40 : t.s ≠ [40]) (h91 : t.s ≠ [91]) (h123 : t.s ≠ [123]) :
    Calls Tryz.prog 30 #[.pointer (some ⟨rb, 0, none⟩), tokW t] u fun e u' => Fr (fun k => k = rb ∨ v.wv.ownBlock = some k) u u' ∧ PrimOut u' rb v ts s B l (punctF ts s t.s) e := by
 have HA := Lib.hid h
 clear h
 have hp : punctF ts s t.s = .error s.at' := by unfold punctF; rw [if_neg h40, if_neg h91, if_neg h123]
 rw [hp]
 clear hp
 unfold tokW
 have b40 : (t.s == [40]) = false := beq_eq_false_iff_ne.2 h40
 have b91 : (t.s == [91]) = false := beq_eq_false_iff_ne.2 h91
 have b123 : (t.s == [123]) = false := beq_eq_false_iff_ne.2 h123
 obtain ⟨R, hR⟩ : ∃ R : Ending → World → Prop, R = fun e u' => Fr (fun k => k = rb ∨ v.wv.ownBlock = some k) u u' ∧ PrimOut u' rb v ts s B l (.error s.at') e := ⟨_, rfl⟩
 rw [← hR]
 have HRR := Lib.hid hR
 clear hR
 go_enter Tryz.func30, Tryz.ntmps30
 go_wp2_with fail
 refine (fail_any _ _).mono ?_
 rintro e w1 ⟨rfl, hb⟩
 have hb0 : Below u.heap.size u w1 := ((Below.refl _ _).alloc (Nat.le_refl _) _).trans (hb.mono (by simp))
 refine ⟨rfl, ?_⟩
 rw [HRR.out]
 exact ⟨.of_below _ hb0, rfl, s, rfl, HA.out.later hb0⟩
theorem punct_any (u : World) (rb : Nat) (v : RdV) (ts : List Tok) (s : RdS) (B : Nat) (h : RdAt u rb v ts s B) (l : List FrV) (hrow : WRow u rb v.wv l) (hl : l.length ≤ 100000) (t : Tok) (hat : s.at' < ts.length) (hln : (peekF ts s.at').s.length ≤ 1000000) :
    Calls Tryz.prog 30 #[.pointer (some ⟨rb, 0, none⟩), tokW t] u fun e u' => Fr (fun k => k = rb ∨ v.wv.ownBlock = some k) u u' ∧ PrimOut u' rb v ts s B l (punctF ts s t.s) e := by
 by_cases h40 : t.s = [40]
 ·exact punct_paren u rb v ts s B h l hrow hl t h40 hat
 by_cases h91 : t.s = [91]
 ·cases hq : isP ts (s.at' + 1) 93 with
  | true => exact punct_list2 u rb v ts s B h l hrow hl t h91 hat hq hln
  | false => exact punct_list u rb v ts s B h l hrow hl t h91 hat hq
 by_cases h123 : t.s = [123]
 ·cases hq : isP ts (s.at' + 1) 125 with
  | true => exact punct_brace2 u rb v ts s B h l hrow hl t h123 hat hq hln
  | false => exact punct_brace u rb v ts s B h l hrow hl t h123 hat hq
 exact punct_bad u rb v ts s B h l t h40 h91 h123
open Go.RowKit Go.Maps
def ekS (s : List UInt8) : Value := .string ⟨s.toArray⟩
def evI (n : Int) : Value := .int .i64 n
def okS (s : List UInt8) : Prop := s.length ≤ 1000000
theorem strKE : KE Tryz.prog 9 ekS okS :=
 ⟨string_keyed Tryz.underlying9, fun k hk => ⟨_, Go.WideMaps.keyOf_string_mk Tryz.underlying9 (by
     unfold okS at hk
     show k.toArray.size ≤ maxLen
     unfold maxLen
     simp
     omega)⟩,
  fun a b h => by
   simp only [ekS, Value.string.injEq, ByteArray.mk.injEq] at h
   simpa using h⟩
structure VarsAt (u : World) (b : Nat) (l : List (List UInt8 × Int)) : Prop where
 map : MapAt u b ekS evI l
 ok : ∀ x ∈ l, okS x.1
theorem vars_look {u : World} {b : Nat} {l : List (List UInt8 × Int)} (h : VarsAt u b l) (k : List UInt8) (hk : okS k) :
    (Instr.lookup 68 (.map (some b)) (.string ⟨k.toArray⟩) true).run Tryz.prog u = .ok (.tuple #[.int .i64 ((mget l k).getD 0), .bool (mget l k).isSome]) u := by
 have := h.map.lookup (t := 68) strKE Tryz.underlying68 (z := .int .i64 0) (fun u => by kernel_rfl) h.ok (k := k) hk true
 simp only [if_true] at this
 rw [show ((mget l k).map evI).getD (.int .i64 0) = .int .i64 ((mget l k).getD 0) by cases mget l k <;> rfl] at this
 exact this
theorem vars_put {u : World} {b : Nat} {l : List (List UInt8 × Int)} (h : VarsAt u b l) (k : List UInt8) (hk : okS k) (n : Int) (hn : mget l k = none) :
    ∃ w', (Instr.mapUpdate 68 (.map (some b)) (.string ⟨k.toArray⟩) (.int .i64 n)).run Tryz.prog u = .ok () w' ∧ VarsAt w' b (l ++ [(k, n)]) ∧ u.grownBy w' (some b) ∧ w'.heap.size = u.heap.size := by
 obtain ⟨w', h1, h2, h3, h4⟩ := MapAt.update (P := Tryz.prog) (t := 68) strKE Tryz.underlying68 h.map h.ok (k := k) hk n
 have hp : mput l k n = l ++ [(k, n)] := by simp [mput, hn]
 rw [hp] at h2
 refine ⟨w', h1, ⟨h2, fun x hx => ?_⟩, h3, h4⟩
 rcases List.mem_append.1 hx with hx | hx
 ·exact h.ok x hx
 ·simp only [List.mem_singleton] at hx
  subst hx
  exact hk
set_option maxHeartbeats 8000000 in
theorem named_known (u : World) (rb : Nat) (v : RdV) (ts : List Tok) (s : RdS) (B : Nat) (h : RdAt u rb v ts s B) (t : Tok) (hat : s.at' < ts.length) (mb : Nat) (hvb : v.vb = .map (some mb)) (hv : VarsAt u mb s.vars) (hmb : mb ≠ rb) (hok : okS t.s) (n : Int) (hn : mget s.vars t.s = some n) :
    Calls Tryz.prog 28 #[.pointer (some ⟨rb, 0, none⟩), tokW t] u fun e u' => e = .returned (.tuple #[]) ∧ RdAt u' rb { v with x := ⟨1, n, [], none, 0, 0⟩ } ts ((s.go 1).done (varT n) 0) B ∧ Fr (· = rb) u u' := by
 have HA := Lib.hid h
 have hf := h.few
 have hlt := h.blk.lt
 have c1 : u.cell? ⟨rb, 1, none⟩ = some (.int .i64 (s.at' : Int)) := h.blk.cell (i := 1) rfl
 have cf := h.blk.free
 have hwr : IntKind.i64.wrap ((s.at' : Int) + 1) = (s.at' : Int) + 1 := IntWalk.i64_in _ (by omega)
 obtain ⟨W, hW⟩ : ∃ W, W = (u.setCell ⟨rb, 1, none⟩ (.int .i64 ((s.at' : Int) + 1))).alloc (.cells #[.int .i64 t.kind, .int .i64 t.line, .int .i64 t.n, .string ⟨t.s.toArray⟩, .bool t.opn, .bool t.tight] 48) := ⟨_, rfl⟩
 have hgo : RdAt W rb v ts (s.go 1) B := by
  rw [hW]
  exact (h.put (v' := v) (s' := s.go 1) 1 _ (by simp [rdCells, RdS.go]) rfl rfl (by show s.at' + 1 ≤ _; omega)).later ((Below.refl _ _).alloc (Nat.le_refl _) _)
 have HG := Lib.hid hgo
 have HF : Hid (Fr (· = rb) u W) := by
  rw [hW]
  exact Lib.hid (((Fr.refl (· = rb) u).setCell (p := ⟨rb, 1, none⟩) (.inl rfl) _).alloc _)
 have hnew : W.heap[u.heap.size]? = some (.cells #[.int .i64 t.kind, .int .i64 t.line, .int .i64 t.n, .string ⟨t.s.toArray⟩, .bool t.opn, .bool t.tight] 48 (0, 0)) := by
  rw [hW]
  have := heap_alloc_new (u.setCell ⟨rb, 1, none⟩ (.int .i64 ((s.at' : Int) + 1))) (.cells #[.int .i64 t.kind, .int .i64 t.line, .int .i64 t.n, .string ⟨t.s.toArray⟩, .bool t.opn, .bool t.tight] 48)
  simpa using this
 obtain ⟨n0, n1, n2, n3, n4, n5, nf⟩ := six_at hnew
 have hlk := vars_look (u := W.drew) (b := mb) (l := s.vars) ⟨(hv.map.keep (w' := W) (HF.out.block mb hv.map.lt hmb)).drew, hv.ok⟩ t.s hok
 rw [hn] at hlk
 simp only [Option.getD_some, Option.isSome_some] at hlk
 have d9 : W.cell? ⟨rb, 12, none⟩ = some (.map (some mb)) := (HG.out.blk.cell (i := 12) rfl).trans (congrArg some hvb)
 clear h hgo hnew hv
 unfold tokW
 go_enter Tryz.func28, Tryz.ntmps28
 go_wp2_with fail
 rw [← hW]
 clear hW
 go_region
 go_wp2_with fail
 refine (done_any _ rb v ts _ B (HG.out.later (Below.refl _ _).drew) ⟨1, n, [], none, 0, 0⟩ (varT n) 0).mono ?_
 rintro e w1 ⟨rfl, r1, r2⟩
 have R1 := Lib.hid r1
 have R2 := Lib.hid (HF.out.drew.trans r2)
 clear r1 r2
 go_wp2_with fail
 exact bodyPost_end (v := .tuple #[]) (by simp [results, Tryz.results28, go_sem]) rfl ⟨rfl, R1.out, R2.out⟩
set_option maxHeartbeats 8000000 in
theorem named_blank (u : World) (rb : Nat) (v : RdV) (ts : List Tok) (s : RdS) (B : Nat) (h : RdAt u rb v ts s B) (t : Tok) (hat : s.at' < ts.length) (mb : Nat) (hvb : v.vb = .map (some mb)) (hv : VarsAt u mb s.vars) (hmb : mb ≠ rb) (hts : t.s = [95]) (hn : mget s.vars t.s = none) (hc0 : 0 ≤ s.cnt) (hc1 : s.cnt ≤ 1000000) :
    Calls Tryz.prog 28 #[.pointer (some ⟨rb, 0, none⟩), tokW t] u fun e u' => e = .returned (.tuple #[]) ∧ RdAt u' rb { v with x := ⟨1, s.cnt, [], none, 0, 0⟩ } ts (({ s.go 1 with cnt := s.cnt + 1 } : RdS).done (varT s.cnt) 0) B ∧ Fr (· = rb) u u' := by
 have hok : okS t.s := by unfold okS; rw [hts]; simp
 have hwc : IntKind.i64.wrap (s.cnt + 1) = s.cnt + 1 := IntWalk.i64_in _ (by omega)
 have HA := Lib.hid h
 have hf := h.few
 have hlt := h.blk.lt
 have c1 : u.cell? ⟨rb, 1, none⟩ = some (.int .i64 (s.at' : Int)) := h.blk.cell (i := 1) rfl
 have cf := h.blk.free
 have hwr : IntKind.i64.wrap ((s.at' : Int) + 1) = (s.at' : Int) + 1 := IntWalk.i64_in _ (by omega)
 obtain ⟨W, hW⟩ : ∃ W, W = (u.setCell ⟨rb, 1, none⟩ (.int .i64 ((s.at' : Int) + 1))).alloc (.cells #[.int .i64 t.kind, .int .i64 t.line, .int .i64 t.n, .string ⟨t.s.toArray⟩, .bool t.opn, .bool t.tight] 48) := ⟨_, rfl⟩
 have hgo : RdAt W rb v ts (s.go 1) B := by
  rw [hW]
  exact (h.put (v' := v) (s' := s.go 1) 1 _ (by simp [rdCells, RdS.go]) rfl rfl (by show s.at' + 1 ≤ _; omega)).later ((Below.refl _ _).alloc (Nat.le_refl _) _)
 have HG := Lib.hid hgo
 have HF : Hid (Fr (· = rb) u W) := by
  rw [hW]
  exact Lib.hid (((Fr.refl (· = rb) u).setCell (p := ⟨rb, 1, none⟩) (.inl rfl) _).alloc _)
 have hnew : W.heap[u.heap.size]? = some (.cells #[.int .i64 t.kind, .int .i64 t.line, .int .i64 t.n, .string ⟨t.s.toArray⟩, .bool t.opn, .bool t.tight] 48 (0, 0)) := by
  rw [hW]
  have := heap_alloc_new (u.setCell ⟨rb, 1, none⟩ (.int .i64 ((s.at' : Int) + 1))) (.cells #[.int .i64 t.kind, .int .i64 t.line, .int .i64 t.n, .string ⟨t.s.toArray⟩, .bool t.opn, .bool t.tight] 48)
  simpa using this
 obtain ⟨n0, n1, n2, n3, n4, n5, nf⟩ := six_at hnew
 have hlk := vars_look (u := W.drew) (b := mb) (l := s.vars) ⟨(hv.map.keep (w' := W) (HF.out.block mb hv.map.lt hmb)).drew, hv.ok⟩ t.s hok
 rw [hn] at hlk
 simp only [Option.getD_none, Option.isSome_none] at hlk
 have d14 : W.cell? ⟨rb, 14, none⟩ = some (.int .i64 s.cnt) := HG.out.blk.cell (i := 14) rfl
 have df := HG.out.blk.free
 have d9 : W.cell? ⟨rb, 12, none⟩ = some (.map (some mb)) := (HG.out.blk.cell (i := 12) rfl).trans (congrArg some hvb)
 have n3' := n3
 rw [hts] at hlk n3
 clear h hgo hnew hv n3'
 unfold tokW
 rw [hts] at hW
 rw [hts]
 go_enter Tryz.func28, Tryz.ntmps28
 go_wp2_with fail
 rw [← hW]
 clear hW
 go_region
 go_wp2_with fail
 have h2 : RdAt (W.setCell ⟨rb, 14, none⟩ (.int .i64 (s.cnt + 1))).drew rb v ts { s.go 1 with cnt := s.cnt + 1 } B := (HG.out.put (v' := v) (s' := { s.go 1 with cnt := s.cnt + 1 }) 14 (.int .i64 (s.cnt + 1)) (by simp [rdCells, RdS.go]) rfl rfl HG.out.in').later (Below.refl _ _).drew
 refine (done_any _ rb v ts _ B h2 ⟨1, s.cnt, [], none, 0, 0⟩ (varT s.cnt) 0).mono ?_
 rintro e w1 ⟨rfl, r1, r2⟩
 have R1 := Lib.hid r1
 have R2 := Lib.hid ((HF.out.setCell (p := ⟨rb, 14, none⟩) (.inl rfl) (.int .i64 (s.cnt + 1))).drew.trans r2)
 clear r1 r2 h2
 go_wp2_with fail
 exact bodyPost_end (v := .tuple #[]) (by simp [results, Tryz.results28, go_sem]) rfl ⟨rfl, R1.out, R2.out⟩
end Go.Proofs.YtiffopheamnngaaGreatDoor
