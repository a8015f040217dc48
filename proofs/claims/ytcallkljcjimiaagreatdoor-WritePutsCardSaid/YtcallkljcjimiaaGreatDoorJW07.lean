import Derived.Test.YtcallkljcjimiaaGreatDoorJW06
import Derived.Maps.Keyed
import Derived.StringKeys
namespace Go.Proofs.YtcallkljcjimiaaGreatDoor
open Go.RowKit
set_option maxRecDepth 100000
theorem tok_s (a b c : Int) (d : ByteArray) (e f : Bool) (w : World) : (Instr.field 107 (.agg #[.int .i64 a, .int .i64 b, .int .i64 c, .string d, .bool e, .bool f]) 3).run Tryz.prog w = .ok (.string d) w := by kernel_rfl
theorem tok_opn (a b c : Int) (d : ByteArray) (e f : Bool) (w : World) : (Instr.field 107 (.agg #[.int .i64 a, .int .i64 b, .int .i64 c, .string d, .bool e, .bool f]) 4).run Tryz.prog w = .ok (.bool e) w := by kernel_rfl
theorem cat1 (a : List UInt8) (c : UInt8) : (⟨a.toArray⟩ ++ ⟨#[c]⟩ : ByteArray) = ⟨(a ++ [c]).toArray⟩ := by
 apply ByteArray.ext
 simp [ByteArray.data_append]
set_option maxHeartbeats 8000000 in
theorem pair_no (u : World) (rb : Nat) (v : RdV) (ts : List Tok) (s : RdS) (B : Nat) (h : RdAt u rb v ts s B) (c : UInt8) (hq : isP ts (s.at' + 1) c = false) :
    Calls Tryz.prog 93 #[.pointer (some ⟨rb, 0, none⟩), .string ⟨#[c]⟩] u fun e u' => Below u.heap.size u u' ∧ e = .returned (.bool false) := by
 go_enter Tryz.func93, Tryz.ntmps93
 go_wp2_with fail
 refine (is_any _ rb v ts s B h 1 (by omega) c).mono ?_
 rintro e w1 ⟨rfl, hb⟩
 rw [hq]
 go_wp2_with fail
 exact bodyPost_ret (v := .bool false) (by simp [results, Tryz.results93, go_sem]) rfl ⟨hb, rfl⟩
set_option maxHeartbeats 8000000 in
theorem pair_yes (u : World) (rb : Nat) (v : RdV) (ts : List Tok) (s : RdS) (B : Nat) (h : RdAt u rb v ts s B) (l : List FrV) (hrow : WRow u rb v.wv l) (hl : l.length ≤ 100000) (c : UInt8) (hq : isP ts (s.at' + 1) c = true) (hln : (peekF ts s.at').s.length ≤ 1000000) :
    Calls Tryz.prog 93 #[.pointer (some ⟨rb, 0, none⟩), .string ⟨#[c]⟩] u fun e u' => Fr (fun k => k = rb ∨ v.wv.ownBlock = some k) u u' ∧
     (if (peekF ts (s.at' + 1)).opn then
       (if isP ts (s.at' + 2) 40 then e = .returned (.bool true) ∧ ∃ wv', RdAt u' rb { v with wv := wv' } ts (((s.go 2).go 1).await ⟨2, 0, (peekF ts s.at').s ++ [c], 0, []⟩ 999) B ∧ WRow u' rb wv' (l ++ [⟨2, s.most, (peekF ts s.at').s ++ [c], 0, none, 0, 0⟩])
       else e = gaveUp ∧ RdAt u' rb v ts (s.go 2) B)
     else e = .returned (.bool true) ∧ RdAt u' rb { v with x := ⟨3, 0, (peekF ts s.at').s ++ [c], none, 0, 0⟩ } ts ((s.go 2).done (atomT ((peekF ts s.at').s ++ [c])) 0) B ∧ WRow u' rb v.wv l) := by
 have HA := Lib.hid h
 have HR := Lib.hid hrow
 have hf := h.few
 have hl2 := isP_lt hq
 have hwr : IntKind.i64.wrap ((s.at' : Int) + 2) = (s.at' : Int) + 2 := IntWalk.i64_in _ (by omega)
 clear h hrow
 obtain ⟨R, hR⟩ : ∃ R : Ending → World → Prop, R = fun e u' => Fr (fun k => k = rb ∨ v.wv.ownBlock = some k) u u' ∧
     (if (peekF ts (s.at' + 1)).opn then
       (if isP ts (s.at' + 2) 40 then e = .returned (.bool true) ∧ ∃ wv', RdAt u' rb { v with wv := wv' } ts (((s.go 2).go 1).await ⟨2, 0, (peekF ts s.at').s ++ [c], 0, []⟩ 999) B ∧ WRow u' rb wv' (l ++ [⟨2, s.most, (peekF ts s.at').s ++ [c], 0, none, 0, 0⟩])
       else e = gaveUp ∧ RdAt u' rb v ts (s.go 2) B)
     else e = .returned (.bool true) ∧ RdAt u' rb { v with x := ⟨3, 0, (peekF ts s.at').s ++ [c], none, 0, 0⟩ } ts ((s.go 2).done (atomT ((peekF ts s.at').s ++ [c])) 0) B ∧ WRow u' rb v.wv l) := ⟨_, rfl⟩
 rw [← hR]
 have HRR := Lib.hid hR
 clear hR
 go_enter Tryz.func93, Tryz.ntmps93
 go_wp2_with fail
 refine (is_any _ rb v ts s B HA.out 1 (by omega) c).mono ?_
 rintro e w1 ⟨rfl, hb1⟩
 rw [hq]
 have HB1 := Lib.hid hb1
 have HA1 := Lib.hid (HA.out.later hb1)
 clear hb1
 go_wp2_with fail
 refine (peek_any _ rb v ts s B HA1.out 0 (by omega)).mono ?_
 rintro e w2 ⟨rfl, hb2⟩
 have HB2 := Lib.hid (below_call' HB1.out hb2)
 have HA2 := Lib.hid (HA1.out.later hb2)
 clear hb2
 have e0 : s.at' + 0 = s.at' := rfl
 rw [e0]
 clear e0
 generalize hx : peekF ts s.at' = x at *
 simp only [tokW]
 have hS := tok_s x.kind x.line x.n ⟨x.s.toArray⟩ x.opn x.tight w2
 go_wp2_with fail
 rw [cat1]
 clear hS hln
 generalize x.s ++ [c] = nm at *
 refine (peek_any _ rb v ts s B HA2.out 1 (by omega)).mono ?_
 rintro e w3 ⟨rfl, hb3⟩
 have HB3 := Lib.hid (below_call' HB2.out hb3)
 have HA3 := Lib.hid (HA2.out.later hb3)
 clear hb3 HB1 HB2 HA1 HA2
 generalize hy : peekF ts (s.at' + 1) = y at *
 simp only [tokW]
 have hO := tok_opn y.kind y.line y.n ⟨y.s.toArray⟩ y.opn y.tight w3
 have c1 : w3.cell? ⟨rb, 1, none⟩ = some (.int .i64 (s.at' : Int)) := HA3.out.blk.cell (i := 1) rfl
 have cf := HA3.out.blk.free
 have hgo : RdAt (w3.setCell ⟨rb, 1, none⟩ (.int .i64 ((s.at' : Int) + 2))) rb v ts (s.go 2) B := HA3.out.put (v' := v) (s' := s.go 2) 1 _ (by simp [rdCells, RdS.go]) rfl rfl (by show s.at' + 2 ≤ _; omega)
 have HG := Lib.hid hgo
 have hF : Fr (· = rb) u (w3.setCell ⟨rb, 1, none⟩ (.int .i64 ((s.at' : Int) + 2))) := (Fr.of_below (· = rb) HB3.out).setCell (p := ⟨rb, 1, none⟩) (.inl rfl) _
 have HF := Lib.hid hF
 have HRW := Lib.hid (WRow.fr HR.out hF)
 clear hgo hF
 cases hyo : y.opn with
 | true =>
  rw [hyo] at hO HRR
  go_wp2_with fail
  have ea : (s.go 2).at' = s.at' + 2 := rfl
  refine (arguments_any _ rb v ts _ B HG.out l HRW.out hl nm).mono ?_
  rintro e w4 ⟨hF4, h4⟩
  rw [ea] at h4
  have HF4 := Lib.hid (((HF.out.weak fun k hk => .inl hk).trans hF4 : Fr (fun k => k = rb ∨ v.wv.ownBlock = some k) u w4))
  clear hF4
  cases hp : isP ts (s.at' + 2) 40 with
  | true =>
   rw [hp, if_pos rfl] at h4
   obtain ⟨rfl, h4⟩ := h4
   have H4 := Lib.hid h4
   clear h4
   go_wp2_with fail
   show R (.returned (.bool true)) _
   rw [HRR.out]
   refine ⟨HF4.out, ?_⟩
   simp only [if_true, hp]
   exact ⟨trivial, H4.out⟩
  | false =>
   rw [hp, if_neg (by simp)] at h4
   obtain ⟨rfl, h4⟩ := h4
   refine ⟨rfl, ?_⟩
   rw [HRR.out]
   refine ⟨HF4.out, ?_⟩
   simp only [if_true, hp, Bool.false_eq_true, if_false]
   exact ⟨rfl, h4⟩
 | false =>
  rw [hyo] at hO HRR
  go_wp2_with fail
  refine (done_any _ rb v ts _ B HG.out ⟨3, 0, nm, none, 0, 0⟩ (atomT nm) 0).mono ?_
  rintro e w4 ⟨rfl, r1, r2⟩
  have R1 := Lib.hid r1
  have R2 := Lib.hid (HF.out.trans r2)
  have R3 := Lib.hid (WRow.fr HRW.out r2)
  clear r1 r2
  go_wp2_with fail
  show R (.returned (.bool true)) _
  rw [HRR.out]
  refine ⟨R2.out.weak fun k hk => .inl hk, ?_⟩
  simp only [Bool.false_eq_true, if_false]
  exact ⟨trivial, R1.out, R3.out⟩
def frOf (w : WaitF) : FrV := ⟨w.use, w.most, w.name, w.pri, none, 0, 0⟩
def PrimOut (u' : World) (rb : Nat) (v : RdV) (ts : List Tok) (s : RdS) (B : Nat) (l : List FrV) (r : Except Nat RdS) (e : Ending) : Prop :=
 match r with
 | .error a => e = gaveUp ∧ ∃ s', s'.at' = a ∧ RdAt u' rb v ts s' B
 | .ok s' => e = .returned (.tuple #[]) ∧ ∃ v', RdAt u' rb v' ts s' B ∧ v'.c = v.c ∧ v'.ob = v.ob ∧ v'.bv = v.bv ∧ v'.vb = v.vb ∧ v'.nv = v.nv ∧ v'.A = v.A ∧ v'.n = v.n ∧
     ((v'.x = v.x ∧ s'.t = s.t ∧ ∃ w, s'.wait = w :: s.wait ∧ w.l = [] ∧ WRow u' rb v'.wv (l ++ [frOf w])) ∨
       (v'.wv = v.wv ∧ s'.wait = s.wait ∧ WRow u' rb v'.wv l ∧ ∃ k n y, v'.x = ⟨k, n, y, none, 0, 0⟩ ∧ s'.t = .mk k n y []))
set_option maxHeartbeats 8000000 in
theorem punct_paren (u : World) (rb : Nat) (v : RdV) (ts : List Tok) (s : RdS) (B : Nat) (h : RdAt u rb v ts s B) (l : List FrV) (hrow : WRow u rb v.wv l) (hl : l.length ≤ 100000) (t : Tok) (hts : t.s = [40]) (hat : s.at' < ts.length) :
    Calls Tryz.prog 52 #[.pointer (some ⟨rb, 0, none⟩), tokW t] u fun e u' => Fr (fun k => k = rb ∨ v.wv.ownBlock = some k) u u' ∧ PrimOut u' rb v ts s B l (punctF ts s t.s) e := by
 have HA := Lib.hid h
 have hf := h.few
 have hlt := h.blk.lt
 have HR := Lib.hid hrow
 have c1 : u.cell? ⟨rb, 1, none⟩ = some (.int .i64 (s.at' : Int)) := h.blk.cell (i := 1) rfl
 have cf := h.blk.free
 have hwr : IntKind.i64.wrap ((s.at' : Int) + 1) = (s.at' : Int) + 1 := IntWalk.i64_in _ (by omega)
 clear h hrow
 have hp : punctF ts s t.s = .ok ((s.go 1).await ⟨0, 0, [], 0, []⟩ 1200) := by unfold punctF; rw [if_pos hts]
 rw [hp]
 clear hp
 unfold tokW
 rw [hts]
 obtain ⟨R, hR⟩ : ∃ R : Ending → World → Prop, R = fun e u' => Fr (fun k => k = rb ∨ v.wv.ownBlock = some k) u u' ∧ PrimOut u' rb v ts s B l (.ok ((s.go 1).await ⟨0, 0, [], 0, []⟩ 1200)) e := ⟨_, rfl⟩
 rw [← hR]
 have HRR := Lib.hid hR
 clear hR
 have hgo : RdAt ((u.setCell ⟨rb, 1, none⟩ (.int .i64 ((s.at' : Int) + 1))).alloc (.cells #[.int .i64 t.kind, .int .i64 t.line, .int .i64 t.n, .string ⟨#[40]⟩, .bool t.opn, .bool t.tight] 107)) rb v ts (s.go 1) B := (HA.out.put (v' := v) (s' := s.go 1) 1 (.int .i64 ((s.at' : Int) + 1)) (by simp [rdCells, RdS.go]) rfl rfl (by show s.at' + 1 ≤ _; omega)).later ((Below.refl _ _).alloc (Nat.le_refl _) _)
 have HG := Lib.hid hgo
 have hF : Fr (· = rb) u ((u.setCell ⟨rb, 1, none⟩ (.int .i64 ((s.at' : Int) + 1))).alloc (.cells #[.int .i64 t.kind, .int .i64 t.line, .int .i64 t.n, .string ⟨#[40]⟩, .bool t.opn, .bool t.tight] 107)) := ((Fr.refl (· = rb) u).setCell (p := ⟨rb, 1, none⟩) (.inl rfl) _).alloc _
 have HF := Lib.hid hF
 have HRW := Lib.hid (WRow.fr HR.out hF)
 clear hgo hF
 go_enter Tryz.func52, Tryz.ntmps52
 go_wp2_with fail
 refine (await_any _ rb v ts _ B HG.out l HRW.out hl ⟨0, 0, [], 0, none, 0, 0⟩ 1200 ⟨0, 0, [], 0, []⟩).mono ?_
 rintro e w2 ⟨rfl, wv', r1, r2, r3⟩
 have R1 := Lib.hid r1
 have R2 := Lib.hid r2
 have R3 := Lib.hid r3
 clear r1 r2 r3
 go_wp2_with fail
 refine bodyPost_end (v := .tuple #[]) (by simp [results, Tryz.results52, go_sem]) rfl ?_
 rw [HRR.out]
 exact ⟨(HF.out.weak fun k hk => .inl hk).trans R3.out, rfl, { v with wv := wv' }, R1.out, rfl, rfl, rfl, rfl, rfl, rfl, rfl, .inl ⟨rfl, rfl, _, rfl, rfl, R2.out⟩⟩
set_option maxHeartbeats 8000000 in
theorem punct_list (u : World) (rb : Nat) (v : RdV) (ts : List Tok) (s : RdS) (B : Nat) (h : RdAt u rb v ts s B) (l : List FrV) (hrow : WRow u rb v.wv l) (hl : l.length ≤ 100000) (t : Tok) (hts : t.s = [91]) (hat : s.at' < ts.length) (hq : isP ts (s.at' + 1) 93 = false) :
    Calls Tryz.prog 52 #[.pointer (some ⟨rb, 0, none⟩), tokW t] u fun e u' => Fr (fun k => k = rb ∨ v.wv.ownBlock = some k) u u' ∧ PrimOut u' rb v ts s B l (punctF ts s t.s) e := by
 have HA := Lib.hid h
 have hf := h.few
 have hlt := h.blk.lt
 have HR := Lib.hid hrow
 have c1 : u.cell? ⟨rb, 1, none⟩ = some (.int .i64 (s.at' : Int)) := h.blk.cell (i := 1) rfl
 have cf := h.blk.free
 have hwr : IntKind.i64.wrap ((s.at' : Int) + 1) = (s.at' : Int) + 1 := IntWalk.i64_in _ (by omega)
 clear h hrow
 have hp : punctF ts s t.s = .ok ((s.go 1).await ⟨3, 0, [], 0, []⟩ 999) := by unfold punctF; rw [if_neg (by rw [hts]; decide), if_pos hts, hq]; rfl
 rw [hp]
 clear hp
 unfold tokW
 rw [hts]
 obtain ⟨R, hR⟩ : ∃ R : Ending → World → Prop, R = fun e u' => Fr (fun k => k = rb ∨ v.wv.ownBlock = some k) u u' ∧ PrimOut u' rb v ts s B l (.ok ((s.go 1).await ⟨3, 0, [], 0, []⟩ 999)) e := ⟨_, rfl⟩
 rw [← hR]
 have HRR := Lib.hid hR
 clear hR
 go_enter Tryz.func52, Tryz.ntmps52
 go_wp2_with fail
 have ha : Below u.heap.size u (u.alloc (.cells #[.int .i64 t.kind, .int .i64 t.line, .int .i64 t.n, .string ⟨#[91]⟩, .bool t.opn, .bool t.tight] 107)) := (Below.refl _ _).alloc (Nat.le_refl _) _
 refine (pair_no _ rb v ts s B (HA.out.later ha) 93 hq).mono ?_
 rintro e w1 ⟨hb, rfl⟩
 have hb0 : Below u.heap.size u w1 := ha.trans (hb.mono (by simp))
 have HA1 := Lib.hid (HA.out.later hb0)
 clear ha hb c1 cf
 have c1 : w1.cell? ⟨rb, 1, none⟩ = some (.int .i64 (s.at' : Int)) := HA1.out.blk.cell (i := 1) rfl
 have cf := HA1.out.blk.free
 have hgo : RdAt (w1.setCell ⟨rb, 1, none⟩ (.int .i64 ((s.at' : Int) + 1))) rb v ts (s.go 1) B := HA1.out.put (v' := v) (s' := s.go 1) 1 (.int .i64 ((s.at' : Int) + 1)) (by simp [rdCells, RdS.go]) rfl rfl (by show s.at' + 1 ≤ _; omega)
 have HG := Lib.hid hgo
 have hF : Fr (· = rb) u (w1.setCell ⟨rb, 1, none⟩ (.int .i64 ((s.at' : Int) + 1))) := (Fr.of_below (· = rb) hb0).setCell (p := ⟨rb, 1, none⟩) (.inl rfl) _
 have HF := Lib.hid hF
 have HRW := Lib.hid (WRow.fr HR.out hF)
 clear hgo hF hb0
 go_wp2_with fail
 refine (await_any _ rb v ts _ B HG.out l HRW.out hl ⟨3, 0, [], 0, none, 0, 0⟩ 999 ⟨3, 0, [], 0, []⟩).mono ?_
 rintro e w2 ⟨rfl, wv', r1, r2, r3⟩
 have R1 := Lib.hid r1
 have R2 := Lib.hid r2
 have R3 := Lib.hid r3
 clear r1 r2 r3
 go_wp2_with fail
 refine bodyPost_end (v := .tuple #[]) (by simp [results, Tryz.results52, go_sem]) rfl ?_
 rw [HRR.out]
 exact ⟨(HF.out.weak fun k hk => .inl hk).trans R3.out, rfl, { v with wv := wv' }, R1.out, rfl, rfl, rfl, rfl, rfl, rfl, rfl, .inl ⟨rfl, rfl, _, rfl, rfl, R2.out⟩⟩
set_option maxHeartbeats 8000000 in
theorem punct_brace (u : World) (rb : Nat) (v : RdV) (ts : List Tok) (s : RdS) (B : Nat) (h : RdAt u rb v ts s B) (l : List FrV) (hrow : WRow u rb v.wv l) (hl : l.length ≤ 100000) (t : Tok) (hts : t.s = [123]) (hat : s.at' < ts.length) (hq : isP ts (s.at' + 1) 125 = false) :
    Calls Tryz.prog 52 #[.pointer (some ⟨rb, 0, none⟩), tokW t] u fun e u' => Fr (fun k => k = rb ∨ v.wv.ownBlock = some k) u u' ∧ PrimOut u' rb v ts s B l (punctF ts s t.s) e := by
 have HA := Lib.hid h
 have hf := h.few
 have hlt := h.blk.lt
 have HR := Lib.hid hrow
 have c1 : u.cell? ⟨rb, 1, none⟩ = some (.int .i64 (s.at' : Int)) := h.blk.cell (i := 1) rfl
 have cf := h.blk.free
 have hwr : IntKind.i64.wrap ((s.at' : Int) + 1) = (s.at' : Int) + 1 := IntWalk.i64_in _ (by omega)
 clear h hrow
 have hp : punctF ts s t.s = .ok ((s.go 1).await ⟨1, 0, [], 0, []⟩ 1200) := by unfold punctF; rw [if_neg (by rw [hts]; decide), if_neg (by rw [hts]; decide), if_pos hts, hq]; rfl
 rw [hp]
 clear hp
 unfold tokW
 rw [hts]
 obtain ⟨R, hR⟩ : ∃ R : Ending → World → Prop, R = fun e u' => Fr (fun k => k = rb ∨ v.wv.ownBlock = some k) u u' ∧ PrimOut u' rb v ts s B l (.ok ((s.go 1).await ⟨1, 0, [], 0, []⟩ 1200)) e := ⟨_, rfl⟩
 rw [← hR]
 have HRR := Lib.hid hR
 clear hR
 go_enter Tryz.func52, Tryz.ntmps52
 go_wp2_with fail
 have ha : Below u.heap.size u (u.alloc (.cells #[.int .i64 t.kind, .int .i64 t.line, .int .i64 t.n, .string ⟨#[123]⟩, .bool t.opn, .bool t.tight] 107)) := (Below.refl _ _).alloc (Nat.le_refl _) _
 refine (pair_no _ rb v ts s B (HA.out.later ha) 125 hq).mono ?_
 rintro e w1 ⟨hb, rfl⟩
 have hb0 : Below u.heap.size u w1 := ha.trans (hb.mono (by simp))
 have HA1 := Lib.hid (HA.out.later hb0)
 clear ha hb c1 cf
 have c1 : w1.cell? ⟨rb, 1, none⟩ = some (.int .i64 (s.at' : Int)) := HA1.out.blk.cell (i := 1) rfl
 have cf := HA1.out.blk.free
 have hgo : RdAt (w1.setCell ⟨rb, 1, none⟩ (.int .i64 ((s.at' : Int) + 1))) rb v ts (s.go 1) B := HA1.out.put (v' := v) (s' := s.go 1) 1 (.int .i64 ((s.at' : Int) + 1)) (by simp [rdCells, RdS.go]) rfl rfl (by show s.at' + 1 ≤ _; omega)
 have HG := Lib.hid hgo
 have hF : Fr (· = rb) u (w1.setCell ⟨rb, 1, none⟩ (.int .i64 ((s.at' : Int) + 1))) := (Fr.of_below (· = rb) hb0).setCell (p := ⟨rb, 1, none⟩) (.inl rfl) _
 have HF := Lib.hid hF
 have HRW := Lib.hid (WRow.fr HR.out hF)
 clear hgo hF hb0
 go_wp2_with fail
 refine (await_any _ rb v ts _ B HG.out l HRW.out hl ⟨1, 0, [], 0, none, 0, 0⟩ 1200 ⟨1, 0, [], 0, []⟩).mono ?_
 rintro e w2 ⟨rfl, wv', r1, r2, r3⟩
 have R1 := Lib.hid r1
 have R2 := Lib.hid r2
 have R3 := Lib.hid r3
 clear r1 r2 r3
 go_wp2_with fail
 refine bodyPost_end (v := .tuple #[]) (by simp [results, Tryz.results52, go_sem]) rfl ?_
 rw [HRR.out]
 exact ⟨(HF.out.weak fun k hk => .inl hk).trans R3.out, rfl, { v with wv := wv' }, R1.out, rfl, rfl, rfl, rfl, rfl, rfl, rfl, .inl ⟨rfl, rfl, _, rfl, rfl, R2.out⟩⟩
set_option maxHeartbeats 8000000 in
theorem punct_list2 (u : World) (rb : Nat) (v : RdV) (ts : List Tok) (s : RdS) (B : Nat) (h : RdAt u rb v ts s B) (l : List FrV) (hrow : WRow u rb v.wv l) (hl : l.length ≤ 100000) (t : Tok) (hts : t.s = [91]) (hat : s.at' < ts.length) (hq : isP ts (s.at' + 1) 93 = true) (hln : (peekF ts s.at').s.length ≤ 1000000) :
    Calls Tryz.prog 52 #[.pointer (some ⟨rb, 0, none⟩), tokW t] u fun e u' => Fr (fun k => k = rb ∨ v.wv.ownBlock = some k) u u' ∧ PrimOut u' rb v ts s B l (punctF ts s t.s) e := by
 have HA := Lib.hid h
 have hf := h.few
 have hlt := h.blk.lt
 have HR := Lib.hid hrow
 have c1 : u.cell? ⟨rb, 1, none⟩ = some (.int .i64 (s.at' : Int)) := h.blk.cell (i := 1) rfl
 have cf := h.blk.free
 have hwr : IntKind.i64.wrap ((s.at' : Int) + 1) = (s.at' : Int) + 1 := IntWalk.i64_in _ (by omega)
 clear h hrow
 have hp : punctF ts s t.s = (pairF ts s 93) := by unfold punctF; rw [if_neg (by rw [hts]; decide), if_pos hts, hq]; rfl
 rw [hp]
 clear hp
 unfold tokW
 rw [hts]
 obtain ⟨R, hR⟩ : ∃ R : Ending → World → Prop, R = fun e u' => Fr (fun k => k = rb ∨ v.wv.ownBlock = some k) u u' ∧ PrimOut u' rb v ts s B l ((pairF ts s 93)) e := ⟨_, rfl⟩
 rw [← hR]
 have HRR := Lib.hid hR
 clear hR
 have hpf : pairF ts s 93 = if (peekF ts (s.at' + 1)).opn then argsF ts (s.go 2) ((peekF ts s.at').s ++ [93]) else .ok ((s.go 2).done (atomT ((peekF ts s.at').s ++ [93])) 0) := rfl
 go_enter Tryz.func52, Tryz.ntmps52
 go_wp2_with fail
 have ha : Below u.heap.size u (u.alloc (.cells #[.int .i64 t.kind, .int .i64 t.line, .int .i64 t.n, .string ⟨#[91]⟩, .bool t.opn, .bool t.tight] 107)) := (Below.refl _ _).alloc (Nat.le_refl _) _
 refine (pair_yes _ rb v ts s B (HA.out.later ha) l (WRow.fr HR.out (.of_below _ ha)) hl 93 hq hln).mono ?_
 rintro e w1 ⟨hF, h1⟩
 have HF := Lib.hid ((Fr.of_below (fun k => k = rb ∨ v.wv.ownBlock = some k) ha).trans hF)
 have HF0 := Lib.hid hF
 clear ha hF
 cases ho : (peekF ts (s.at' + 1)).opn with
 | true =>
  rw [ho] at h1 hpf
  simp only [if_true] at h1 hpf
  cases hp4 : isP ts (s.at' + 2) 40 with
  | true =>
   rw [hp4, if_pos rfl] at h1
   have hr : pairF ts s 93 = .ok (((s.go 2).go 1).await ⟨2, 0, (peekF ts s.at').s ++ [93], 0, []⟩ 999) := by
    rw [hpf]; unfold argsF RdS.expect; rw [show (s.go 2).at' = s.at' + 2 from rfl, hp4]; rfl
   obtain ⟨rfl, wv', h1, h2⟩ := h1
   have H1 := Lib.hid h1
   have H2 := Lib.hid h2
   clear h1 h2 hpf
   go_wp2_with fail
   refine bodyPost_end (v := .tuple #[]) (by simp [results, Tryz.results52, go_sem]) rfl ?_
   rw [HRR.out]
   refine ⟨HF.out, ?_⟩
   rw [hr]
   exact ⟨rfl, { v with wv := wv' }, H1.out, rfl, rfl, rfl, rfl, rfl, rfl, rfl, .inl ⟨rfl, rfl, _, rfl, rfl, H2.out⟩⟩
  | false =>
   rw [hp4, if_neg (by simp)] at h1
   have hr : pairF ts s 93 = .error (s.at' + 2) := by
    rw [hpf]; unfold argsF RdS.expect; rw [show (s.go 2).at' = s.at' + 2 from rfl, hp4]; rfl
   obtain ⟨rfl, h1⟩ := h1
   refine ⟨rfl, ?_⟩
   rw [HRR.out]
   refine ⟨HF.out, ?_⟩
   rw [hr]
   exact ⟨rfl, s.go 2, rfl, h1⟩
 | false =>
  rw [ho] at h1 hpf
  simp only [Bool.false_eq_true, if_false] at h1 hpf
  obtain ⟨rfl, h1, h2⟩ := h1
  have H1 := Lib.hid h1
  have HP := Lib.hid hpf
  have H2 := Lib.hid h2
  clear h2
  clear h1 hpf
  go_wp2_with fail
  refine bodyPost_end (v := .tuple #[]) (by simp [results, Tryz.results52, go_sem]) rfl ?_
  rw [HRR.out]
  refine ⟨HF.out, ?_⟩
  rw [HP.out]
  exact ⟨rfl, _, H1.out, rfl, rfl, rfl, rfl, rfl, rfl, rfl, .inr ⟨rfl, rfl, H2.out, 3, 0, _, rfl, rfl⟩⟩
set_option maxHeartbeats 8000000 in
theorem punct_brace2 (u : World) (rb : Nat) (v : RdV) (ts : List Tok) (s : RdS) (B : Nat) (h : RdAt u rb v ts s B) (l : List FrV) (hrow : WRow u rb v.wv l) (hl : l.length ≤ 100000) (t : Tok) (hts : t.s = [123]) (hat : s.at' < ts.length) (hq : isP ts (s.at' + 1) 125 = true) (hln : (peekF ts s.at').s.length ≤ 1000000) :
    Calls Tryz.prog 52 #[.pointer (some ⟨rb, 0, none⟩), tokW t] u fun e u' => Fr (fun k => k = rb ∨ v.wv.ownBlock = some k) u u' ∧ PrimOut u' rb v ts s B l (punctF ts s t.s) e := by
 have HA := Lib.hid h
 have hf := h.few
 have hlt := h.blk.lt
 have HR := Lib.hid hrow
 have c1 : u.cell? ⟨rb, 1, none⟩ = some (.int .i64 (s.at' : Int)) := h.blk.cell (i := 1) rfl
 have cf := h.blk.free
 have hwr : IntKind.i64.wrap ((s.at' : Int) + 1) = (s.at' : Int) + 1 := IntWalk.i64_in _ (by omega)
 clear h hrow
 have hp : punctF ts s t.s = (pairF ts s 125) := by unfold punctF; rw [if_neg (by rw [hts]; decide), if_neg (by rw [hts]; decide), if_pos hts, hq]; rfl
 rw [hp]
 clear hp
 unfold tokW
 rw [hts]
 obtain ⟨R, hR⟩ : ∃ R : Ending → World → Prop, R = fun e u' => Fr (fun k => k = rb ∨ v.wv.ownBlock = some k) u u' ∧ PrimOut u' rb v ts s B l ((pairF ts s 125)) e := ⟨_, rfl⟩
 rw [← hR]
 have HRR := Lib.hid hR
 clear hR
 have hpf : pairF ts s 125 = if (peekF ts (s.at' + 1)).opn then argsF ts (s.go 2) ((peekF ts s.at').s ++ [125]) else .ok ((s.go 2).done (atomT ((peekF ts s.at').s ++ [125])) 0) := rfl
 go_enter Tryz.func52, Tryz.ntmps52
 go_wp2_with fail
 have ha : Below u.heap.size u (u.alloc (.cells #[.int .i64 t.kind, .int .i64 t.line, .int .i64 t.n, .string ⟨#[123]⟩, .bool t.opn, .bool t.tight] 107)) := (Below.refl _ _).alloc (Nat.le_refl _) _
 refine (pair_yes _ rb v ts s B (HA.out.later ha) l (WRow.fr HR.out (.of_below _ ha)) hl 125 hq hln).mono ?_
 rintro e w1 ⟨hF, h1⟩
 have HF := Lib.hid ((Fr.of_below (fun k => k = rb ∨ v.wv.ownBlock = some k) ha).trans hF)
 have HF0 := Lib.hid hF
 clear ha hF
 cases ho : (peekF ts (s.at' + 1)).opn with
 | true =>
  rw [ho] at h1 hpf
  simp only [if_true] at h1 hpf
  cases hp4 : isP ts (s.at' + 2) 40 with
  | true =>
   rw [hp4, if_pos rfl] at h1
   have hr : pairF ts s 125 = .ok (((s.go 2).go 1).await ⟨2, 0, (peekF ts s.at').s ++ [125], 0, []⟩ 999) := by
    rw [hpf]; unfold argsF RdS.expect; rw [show (s.go 2).at' = s.at' + 2 from rfl, hp4]; rfl
   obtain ⟨rfl, wv', h1, h2⟩ := h1
   have H1 := Lib.hid h1
   have H2 := Lib.hid h2
   clear h1 h2 hpf
   go_wp2_with fail
   refine bodyPost_end (v := .tuple #[]) (by simp [results, Tryz.results52, go_sem]) rfl ?_
   rw [HRR.out]
   refine ⟨HF.out, ?_⟩
   rw [hr]
   exact ⟨rfl, { v with wv := wv' }, H1.out, rfl, rfl, rfl, rfl, rfl, rfl, rfl, .inl ⟨rfl, rfl, _, rfl, rfl, H2.out⟩⟩
  | false =>
   rw [hp4, if_neg (by simp)] at h1
   have hr : pairF ts s 125 = .error (s.at' + 2) := by
    rw [hpf]; unfold argsF RdS.expect; rw [show (s.go 2).at' = s.at' + 2 from rfl, hp4]; rfl
   obtain ⟨rfl, h1⟩ := h1
   refine ⟨rfl, ?_⟩
   rw [HRR.out]
   refine ⟨HF.out, ?_⟩
   rw [hr]
   exact ⟨rfl, s.go 2, rfl, h1⟩
 | false =>
  rw [ho] at h1 hpf
  simp only [Bool.false_eq_true, if_false] at h1 hpf
  obtain ⟨rfl, h1, h2⟩ := h1
  have H1 := Lib.hid h1
  have HP := Lib.hid hpf
  have H2 := Lib.hid h2
  clear h2
  clear h1 hpf
  go_wp2_with fail
  refine bodyPost_end (v := .tuple #[]) (by simp [results, Tryz.results52, go_sem]) rfl ?_
  rw [HRR.out]
  refine ⟨HF.out, ?_⟩
  rw [HP.out]
  exact ⟨rfl, _, H1.out, rfl, rfl, rfl, rfl, rfl, rfl, rfl, .inr ⟨rfl, rfl, H2.out, 3, 0, _, rfl, rfl⟩⟩
set_option maxHeartbeats 8000000 in
theorem punct_bad (u : World) (rb : Nat) (v : RdV) (ts : List Tok) (s : RdS) (B : Nat) (h : RdAt u rb v ts s B) (l : List FrV) (t : Tok) (h40 : t.s ≠ [40]) (h91 : t.s ≠ [91]) (h123 : t.s ≠ [123]) :
    Calls Tryz.prog 52 #[.pointer (some ⟨rb, 0, none⟩), tokW t] u fun e u' => Fr (fun k => k = rb ∨ v.wv.ownBlock = some k) u u' ∧ PrimOut u' rb v ts s B l (punctF ts s t.s) e := by
 have HA := Lib.hid h
 clear h
 have hp : punctF ts s t.s = .error s.at' := by unfold punctF; rw [if_neg h40, if_neg h91, if_neg h123]
 rw [hp]
 clear hp
 unfold tokW
 have b40 : (t.s == [40]) = false := beq_eq_false_iff_ne.2 h40
 have b91 : (t.s == [91]) = false := beq_eq_false_iff_ne.2 h91
 have b123 : (t.s == [123]) = false := beq_eq_false_iff_ne.2 h123
 obtain ⟨R, hR⟩ : ∃ R : Ending → World → Prop, R = fun e u' => Fr (fun k => k = rb ∨ v.wv.ownBlock = some k) u u' ∧ PrimOut u' rb v ts s B l (.error s.at') e := ⟨_, rfl⟩
 rw [← hR]
 have HRR := Lib.hid hR
 clear hR
 go_enter Tryz.func52, Tryz.ntmps52
 go_wp2_with fail
 refine (fail_any _ _).mono ?_
 rintro e w1 ⟨rfl, hb⟩
 have hb0 : Below u.heap.size u w1 := ((Below.refl _ _).alloc (Nat.le_refl _) _).trans (hb.mono (by simp))
 refine ⟨rfl, ?_⟩
 rw [HRR.out]
 exact ⟨.of_below _ hb0, rfl, s, rfl, HA.out.later hb0⟩
theorem punct_any (u : World) (rb : Nat) (v : RdV) (ts : List Tok) (s : RdS) (B : Nat) (h : RdAt u rb v ts s B) (l : List FrV) (hrow : WRow u rb v.wv l) (hl : l.length ≤ 100000) (t : Tok) (hat : s.at' < ts.length) (hln : (peekF ts s.at').s.length ≤ 1000000) :
    Calls Tryz.prog 52 #[.pointer (some ⟨rb, 0, none⟩), tokW t] u fun e u' => Fr (fun k => k = rb ∨ v.wv.ownBlock = some k) u u' ∧ PrimOut u' rb v ts s B l (punctF ts s t.s) e := by
 by_cases h40 : t.s = [40]
 ·exact punct_paren u rb v ts s B h l hrow hl t h40 hat
 by_cases h91 : t.s = [91]
 ·cases hq : isP ts (s.at' + 1) 93 with
  | true => exact punct_list2 u rb v ts s B h l hrow hl t h91 hat hq hln
  | false => exact punct_list u rb v ts s B h l hrow hl t h91 hat hq
 by_cases h123 : t.s = [123]
 ·cases hq : isP ts (s.at' + 1) 125 with
  | true => exact punct_brace2 u rb v ts s B h l hrow hl t h123 hat hq hln
  | false => exact punct_brace u rb v ts s B h l hrow hl t h123 hat hq
 exact punct_bad u rb v ts s B h l t h40 h91 h123
open Go.RowKit Go.Maps
def ekS (s : List UInt8) : Value := .string ⟨s.toArray⟩
def evI (n : Int) : Value := .int .i64 n
def okS (s : List UInt8) : Prop := s.length ≤ 1000000
theorem strKE : KE Tryz.prog 9 ekS okS :=
 ⟨string_keyed Tryz.underlying9, fun k hk => ⟨_, Go.WideMaps.keyOf_string_mk Tryz.underlying9 (by
     unfold okS at hk
     show k.toArray.size ≤ maxLen
     unfold maxLen
     simp
     omega)⟩,
  fun a b h => by
   simp only [ekS, Value.string.injEq, ByteArray.mk.injEq] at h
   simpa using h⟩
structure VarsAt (u : World) (b : Nat) (l : List (List UInt8 × Int)) : Prop where
 map : MapAt u b ekS evI l
 ok : ∀ x ∈ l, okS x.1
theorem vars_look {u : World} {b : Nat} {l : List (List UInt8 × Int)} (h : VarsAt u b l) (k : List UInt8) (hk : okS k) :
    (Instr.lookup 112 (.map (some b)) (.string ⟨k.toArray⟩) true).run Tryz.prog u = .ok (.tuple #[.int .i64 ((mget l k).getD 0), .bool (mget l k).isSome]) u := by
 have := h.map.lookup (t := 112) strKE Tryz.underlying112 (z := .int .i64 0) (fun u => by kernel_rfl) h.ok (k := k) hk true
 simp only [if_true] at this
 rw [show ((mget l k).map evI).getD (.int .i64 0) = .int .i64 ((mget l k).getD 0) by cases mget l k <;> rfl] at this
 exact this
theorem vars_put {u : World} {b : Nat} {l : List (List UInt8 × Int)} (h : VarsAt u b l) (k : List UInt8) (hk : okS k) (n : Int) (hn : mget l k = none) :
    ∃ w', (Instr.mapUpdate 112 (.map (some b)) (.string ⟨k.toArray⟩) (.int .i64 n)).run Tryz.prog u = .ok () w' ∧ VarsAt w' b (l ++ [(k, n)]) ∧ u.grownBy w' (some b) ∧ w'.heap.size = u.heap.size := by
 obtain ⟨w', h1, h2, h3, h4⟩ := MapAt.update (P := Tryz.prog) (t := 112) strKE Tryz.underlying112 h.map h.ok (k := k) hk n
 have hp : mput l k n = l ++ [(k, n)] := by simp [mput, hn]
 rw [hp] at h2
 refine ⟨w', h1, ⟨h2, fun x hx => ?_⟩, h3, h4⟩
 rcases List.mem_append.1 hx with hx | hx
 ·exact h.ok x hx
 ·simp only [List.mem_singleton] at hx
  subst hx
  exact hk
end Go.Proofs.YtcallkljcjimiaaGreatDoor
