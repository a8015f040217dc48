import Derived.Test.YtmgidfndifhcoaaDoorJReadBrackets05
/-
  arguments, number. Conditions: as before; the number's token is the one that comes.
-/
namespace Go.Proofs.YtmgidfndifhcoaaDoor
open Go.RowKit
set_option maxRecDepth 100000

def gaveUp : Ending := .panicked [{ v := .iface 146 (.agg #[]), recovered := false }]
theorem WRow.fr {u u' : World} {rb : Nat} {wv : Value} {l : List FrV} (h : WRow u rb wv l) (hF : Fr (· = rb) u u') : WRow u' rb wv l :=
  Row.keep h fun k hk => hF.block k (h.lt k hk).2 fun e => h.ne (by rw [hk, e])

set_option maxHeartbeats 8000000 in
theorem arguments_any (u : World) (rb : Nat) (v : RdV) (ts : List Tok) (s : RdS) (B : Nat) (h : RdAt u rb v ts s B) (l : List FrV) (hrow : WRow u rb v.wv l) (hl : l.length ≤ 100000) (name : List UInt8) :
    Calls Tryd.prog 60 #[.pointer (some ⟨rb, 0, none⟩), .string ⟨name.toArray⟩] u fun e u' => Fr (fun k => k = rb ∨ v.wv.ownBlock = some k) u u' ∧
      (if isP ts s.at' 40 then e = .returned (.tuple #[]) ∧ ∃ wv', RdAt u' rb { v with wv := wv' } ts ((s.go 1).await ⟨2, 0, name, 0, []⟩ 999) B ∧ WRow u' rb wv' (l ++ [⟨2, s.most, name, 0, none, 0, 0⟩])
      else e = gaveUp ∧ RdAt u' rb v ts s B) := by
  have HA := Lib.hid h
  have HR := Lib.hid hrow
  clear h hrow
  cases hq : isP ts s.at' 40 with
  | true =>
    simp only [if_true]
    go_enter Tryd.func60, Tryd.ntmps60
    go_wp2_with fail
    refine (expect_any _ rb v ts s B HA.out 40).mono ?_
    rintro e w1 ⟨hF, h1⟩
    rw [hq, if_pos rfl] at h1
    obtain ⟨rfl, h1⟩ := h1
    have H1 := Lib.hid h1
    have HF := Lib.hid hF
    have HR1 := Lib.hid (WRow.fr HR.out hF)
    clear h1 hF
    go_wp2_with fail
    refine (await_any _ rb v ts _ B H1.out l HR1.out hl ⟨2, 0, name, 0, none, 0, 0⟩ 999 ⟨2, 0, name, 0, []⟩).mono ?_
    rintro e w2 ⟨rfl, wv', r1, r2, r3⟩
    have R1 := Lib.hid r1
    have R2 := Lib.hid r2
    have R3 := Lib.hid r3
    clear r1 r2 r3
    go_wp2_with fail
    exact bodyPost_end (v := .tuple #[]) (by simp [results, Tryd.results60, go_sem]) rfl
      ⟨(HF.out.weak fun k hk => .inl hk).trans R3.out, rfl, wv', R1.out, R2.out⟩
  | false =>
    simp only [Bool.false_eq_true, if_false]
    go_enter Tryd.func60, Tryd.ntmps60
    go_wp2_with fail
    refine (expect_any _ rb v ts s B HA.out 40).mono ?_
    rintro e w1 ⟨hF, h1⟩
    rw [hq, if_neg (by simp)] at h1
    obtain ⟨rfl, h1⟩ := h1
    exact ⟨rfl, hF.weak fun k hk => .inl hk, rfl, h1⟩

set_option maxHeartbeats 8000000 in
theorem number_any (u : World) (rb : Nat) (v : RdV) (ts : List Tok) (s : RdS) (B : Nat) (h : RdAt u rb v ts s B) (t : Tok) (hat : s.at' < ts.length) :
    Calls Tryd.prog 31 #[.pointer (some ⟨rb, 0, none⟩), tokW t] u fun e u' => Fr (· = rb) u u' ∧
      (if t.n < 0 then e = gaveUp ∧ RdAt u' rb v ts s B else e = .returned (.tuple #[]) ∧ RdAt u' rb { v with x := ⟨2, t.n, [], none, 0, 0⟩ } ts ((s.go 1).done (intT t.n) 0) B) := by
  have HA := Lib.hid h
  have c1 : u.cell? ⟨rb, 1, none⟩ = some (.int .i64 (s.at' : Int)) := h.blk.cell (i := 1) rfl
  have cf := h.blk.free
  have hf := h.few
  have hlt := h.blk.lt
  have hwr : IntKind.i64.wrap ((s.at' : Int) + 1) = (s.at' : Int) + 1 := IntWalk.i64_in _ (by omega)
  clear h
  unfold tokW
  by_cases hn : t.n < 0
  · simp only [hn, if_true]
    go_enter Tryd.func31, Tryd.ntmps31
    go_wp2_with fail
    refine (fail_any _ _).mono ?_
    rintro e w1 ⟨rfl, hb⟩
    have hb0 : Below u.heap.size u w1 := ((Below.refl _ _).alloc (Nat.le_refl _) _).trans (hb.mono (by simp))
    exact ⟨rfl, .of_below _ hb0, rfl, HA.out.later hb0⟩
  · simp only [hn, if_false]
    go_enter Tryd.func31, Tryd.ntmps31
    go_wp2_with fail
    have h1 := HA.out.put (v' := v) (s' := s.go 1) 1 (.int .i64 ((s.at' : Int) + 1)) (by simp [rdCells, RdS.go]) rfl rfl (by show s.at' + 1 ≤ _; omega)
    have h2 := h1.later ((Below.refl _ _).alloc (Nat.le_refl _) (.cells #[.int .i64 t.kind, .int .i64 t.line, .int .i64 t.n, .string ⟨t.s.toArray⟩, .bool t.opn, .bool t.tight] 44))
    have hF := ((Fr.refl (· = rb) u).setCell (p := ⟨rb, 1, none⟩) (.inl rfl) (.int .i64 ((s.at' : Int) + 1))).alloc (.cells #[.int .i64 t.kind, .int .i64 t.line, .int .i64 t.n, .string ⟨t.s.toArray⟩, .bool t.opn, .bool t.tight] 44)
    refine (done_any _ rb v ts _ B h2 ⟨2, t.n, [], none, 0, 0⟩ (intT t.n) 0).mono ?_
    rintro e w1 ⟨rfl, r1, r2⟩
    have R1 := Lib.hid r1
    have R2 := Lib.hid (hF.trans r2)
    clear r1 r2 hF h1 h2
    go_wp2_with fail
    exact bodyPost_end (v := .tuple #[]) (by simp [results, Tryd.results31, go_sem]) rfl ⟨R2.out, rfl, R1.out⟩
end Go.Proofs.YtmgidfndifhcoaaDoor
/-
  pair: two brackets with nothing between. Conditions: as before; the tokens' names are not too long.
-/
namespace Go.Proofs.YtmgidfndifhcoaaDoor
open Go.RowKit
set_option maxRecDepth 100000

theorem tok_s (a b c : Int) (d : ByteArray) (e f : Bool) (w : World) : (Instr.field 44 (.agg #[.int .i64 a, .int .i64 b, .int .i64 c, .string d, .bool e, .bool f]) 3).run Tryd.prog w = .ok (.string d) w := by kernel_rfl
theorem tok_opn (a b c : Int) (d : ByteArray) (e f : Bool) (w : World) : (Instr.field 44 (.agg #[.int .i64 a, .int .i64 b, .int .i64 c, .string d, .bool e, .bool f]) 4).run Tryd.prog w = .ok (.bool e) w := by kernel_rfl
theorem cat1 (a : List UInt8) (c : UInt8) : (⟨a.toArray⟩ ++ ⟨#[c]⟩ : ByteArray) = ⟨(a ++ [c]).toArray⟩ := by
  apply ByteArray.ext
  simp [ByteArray.data_append]

set_option maxHeartbeats 8000000 in
theorem pair_no (u : World) (rb : Nat) (v : RdV) (ts : List Tok) (s : RdS) (B : Nat) (h : RdAt u rb v ts s B) (c : UInt8) (hq : isP ts (s.at' + 1) c = false) :
    Calls Tryd.prog 58 #[.pointer (some ⟨rb, 0, none⟩), .string ⟨#[c]⟩] u fun e u' => Below u.heap.size u u' ∧ e = .returned (.bool false) := by
  go_enter Tryd.func58, Tryd.ntmps58
  go_wp2_with fail
  refine (is_any _ rb v ts s B h 1 (by omega) c).mono ?_
  rintro e w1 ⟨rfl, hb⟩
  rw [hq]
  go_wp2_with fail
  exact bodyPost_ret (v := .bool false) (by simp [results, Tryd.results58, go_sem]) rfl ⟨hb, rfl⟩

set_option maxHeartbeats 8000000 in
theorem pair_yes (u : World) (rb : Nat) (v : RdV) (ts : List Tok) (s : RdS) (B : Nat) (h : RdAt u rb v ts s B) (l : List FrV) (hrow : WRow u rb v.wv l) (hl : l.length ≤ 100000) (c : UInt8) (hq : isP ts (s.at' + 1) c = true) (hln : (peekF ts s.at').s.length ≤ 1000000) :
    Calls Tryd.prog 58 #[.pointer (some ⟨rb, 0, none⟩), .string ⟨#[c]⟩] u fun e u' => Fr (fun k => k = rb ∨ v.wv.ownBlock = some k) u u' ∧
      (if (peekF ts (s.at' + 1)).opn then
        (if isP ts (s.at' + 2) 40 then e = .returned (.bool true) ∧ ∃ wv', RdAt u' rb { v with wv := wv' } ts (((s.go 2).go 1).await ⟨2, 0, (peekF ts s.at').s ++ [c], 0, []⟩ 999) B ∧ WRow u' rb wv' (l ++ [⟨2, s.most, (peekF ts s.at').s ++ [c], 0, none, 0, 0⟩])
        else e = gaveUp ∧ RdAt u' rb v ts (s.go 2) B)
      else e = .returned (.bool true) ∧ RdAt u' rb { v with x := ⟨3, 0, (peekF ts s.at').s ++ [c], none, 0, 0⟩ } ts ((s.go 2).done (atomT ((peekF ts s.at').s ++ [c])) 0) B ∧ WRow u' rb v.wv l) := by
  have HA := Lib.hid h
  have HR := Lib.hid hrow
  have hf := h.few
  have hl2 := isP_lt hq
  have hwr : IntKind.i64.wrap ((s.at' : Int) + 2) = (s.at' : Int) + 2 := IntWalk.i64_in _ (by omega)
  clear h hrow
  obtain ⟨R, hR⟩ : ∃ R : Ending → World → Prop, R = fun e u' => Fr (fun k => k = rb ∨ v.wv.ownBlock = some k) u u' ∧
      (if (peekF ts (s.at' + 1)).opn then
        (if isP ts (s.at' + 2) 40 then e = .returned (.bool true) ∧ ∃ wv', RdAt u' rb { v with wv := wv' } ts (((s.go 2).go 1).await ⟨2, 0, (peekF ts s.at').s ++ [c], 0, []⟩ 999) B ∧ WRow u' rb wv' (l ++ [⟨2, s.most, (peekF ts s.at').s ++ [c], 0, none, 0, 0⟩])
        else e = gaveUp ∧ RdAt u' rb v ts (s.go 2) B)
      else e = .returned (.bool true) ∧ RdAt u' rb { v with x := ⟨3, 0, (peekF ts s.at').s ++ [c], none, 0, 0⟩ } ts ((s.go 2).done (atomT ((peekF ts s.at').s ++ [c])) 0) B ∧ WRow u' rb v.wv l) := ⟨_, rfl⟩
  rw [← hR]
  have HRR := Lib.hid hR
  clear hR
  go_enter Tryd.func58, Tryd.ntmps58
  go_wp2_with fail
  refine (is_any _ rb v ts s B HA.out 1 (by omega) c).mono ?_
  rintro e w1 ⟨rfl, hb1⟩
  rw [hq]
  have HB1 := Lib.hid hb1
  have HA1 := Lib.hid (HA.out.later hb1)
  clear hb1
  go_wp2_with fail
  refine (peek_any _ rb v ts s B HA1.out 0 (by omega)).mono ?_
  rintro e w2 ⟨rfl, hb2⟩
  have HB2 := Lib.hid (below_call' HB1.out hb2)
  have HA2 := Lib.hid (HA1.out.later hb2)
  clear hb2
  have e0 : s.at' + 0 = s.at' := rfl
  rw [e0]
  clear e0
  generalize hx : peekF ts s.at' = x at *
  simp only [tokW]
  have hS := tok_s x.kind x.line x.n ⟨x.s.toArray⟩ x.opn x.tight w2
  go_wp2_with fail
  rw [cat1]
  clear hS hln
  generalize x.s ++ [c] = nm at *
  refine (peek_any _ rb v ts s B HA2.out 1 (by omega)).mono ?_
  rintro e w3 ⟨rfl, hb3⟩
  have HB3 := Lib.hid (below_call' HB2.out hb3)
  have HA3 := Lib.hid (HA2.out.later hb3)
  clear hb3 HB1 HB2 HA1 HA2
  generalize hy : peekF ts (s.at' + 1) = y at *
  simp only [tokW]
  have hO := tok_opn y.kind y.line y.n ⟨y.s.toArray⟩ y.opn y.tight w3
  have c1 : w3.cell? ⟨rb, 1, none⟩ = some (.int .i64 (s.at' : Int)) := HA3.out.blk.cell (i := 1) rfl
  have cf := HA3.out.blk.free
  have hgo : RdAt (w3.setCell ⟨rb, 1, none⟩ (.int .i64 ((s.at' : Int) + 2))) rb v ts (s.go 2) B := HA3.out.put (v' := v) (s' := s.go 2) 1 _ (by simp [rdCells, RdS.go]) rfl rfl (by show s.at' + 2 ≤ _; omega)
  have HG := Lib.hid hgo
  have hF : Fr (· = rb) u (w3.setCell ⟨rb, 1, none⟩ (.int .i64 ((s.at' : Int) + 2))) := (Fr.of_below (· = rb) HB3.out).setCell (p := ⟨rb, 1, none⟩) (.inl rfl) _
  have HF := Lib.hid hF
  have HRW := Lib.hid (WRow.fr HR.out hF)
  clear hgo hF
  cases hyo : y.opn with
  | true =>
    rw [hyo] at hO HRR
    go_wp2_with fail
    have ea : (s.go 2).at' = s.at' + 2 := rfl
    refine (arguments_any _ rb v ts _ B HG.out l HRW.out hl nm).mono ?_
    rintro e w4 ⟨hF4, h4⟩
    rw [ea] at h4
    have HF4 := Lib.hid (((HF.out.weak fun k hk => .inl hk).trans hF4 : Fr (fun k => k = rb ∨ v.wv.ownBlock = some k) u w4))
    clear hF4
    cases hp : isP ts (s.at' + 2) 40 with
    | true =>
      rw [hp, if_pos rfl] at h4
      obtain ⟨rfl, h4⟩ := h4
      have H4 := Lib.hid h4
      clear h4
      go_wp2_with fail
      show R (.returned (.bool true)) _
      rw [HRR.out]
      refine ⟨HF4.out, ?_⟩
      simp only [if_true, hp]
      exact ⟨trivial, H4.out⟩
    | false =>
      rw [hp, if_neg (by simp)] at h4
      obtain ⟨rfl, h4⟩ := h4
      refine ⟨rfl, ?_⟩
      rw [HRR.out]
      refine ⟨HF4.out, ?_⟩
      simp only [if_true, hp, Bool.false_eq_true, if_false]
      exact ⟨rfl, h4⟩
  | false =>
    rw [hyo] at hO HRR
    go_wp2_with fail
    refine (done_any _ rb v ts _ B HG.out ⟨3, 0, nm, none, 0, 0⟩ (atomT nm) 0).mono ?_
    rintro e w4 ⟨rfl, r1, r2⟩
    have R1 := Lib.hid r1
    have R2 := Lib.hid (HF.out.trans r2)
    have R3 := Lib.hid (WRow.fr HRW.out r2)
    clear r1 r2
    go_wp2_with fail
    show R (.returned (.bool true)) _
    rw [HRR.out]
    refine ⟨R2.out.weak fun k hk => .inl hk, ?_⟩
    simp only [Bool.false_eq_true, if_false]
    exact ⟨trivial, R1.out, R3.out⟩
end Go.Proofs.YtmgidfndifhcoaaDoor
/-
  punct: what begins with a mark. Conditions: as before; the token is the one that comes.
-/
namespace Go.Proofs.YtmgidfndifhcoaaDoor
open Go.RowKit
set_option maxRecDepth 100000

def frOf (w : WaitF) : FrV := ⟨w.use, w.most, w.name, w.pri, none, 0, 0⟩
/-- What a method that begins a term leaves: it gave up, or a frame more waits, or there is a term without arguments. -/
def PrimOut (u' : World) (rb : Nat) (v : RdV) (ts : List Tok) (s : RdS) (B : Nat) (l : List FrV) (r : Except Nat RdS) (e : Ending) : Prop :=
  match r with
  | .error a => e = gaveUp ∧ ∃ s', s'.at' = a ∧ RdAt u' rb v ts s' B
  | .ok s' => e = .returned (.tuple #[]) ∧ ∃ v', RdAt u' rb v' ts s' B ∧ v'.c = v.c ∧ v'.ob = v.ob ∧ v'.bv = v.bv ∧ v'.vb = v.vb ∧ v'.nv = v.nv ∧ v'.A = v.A ∧ v'.n = v.n ∧
      ((v'.x = v.x ∧ s'.t = s.t ∧ ∃ w, s'.wait = w :: s.wait ∧ w.l = [] ∧ WRow u' rb v'.wv (l ++ [frOf w])) ∨
        (v'.wv = v.wv ∧ s'.wait = s.wait ∧ WRow u' rb v'.wv l ∧ ∃ k n y, v'.x = ⟨k, n, y, none, 0, 0⟩ ∧ s'.t = .mk k n y []))

set_option maxHeartbeats 8000000 in
theorem punct_paren (u : World) (rb : Nat) (v : RdV) (ts : List Tok) (s : RdS) (B : Nat) (h : RdAt u rb v ts s B) (l : List FrV) (hrow : WRow u rb v.wv l) (hl : l.length ≤ 100000) (t : Tok) (hts : t.s = [40]) (hat : s.at' < ts.length) :
    Calls Tryd.prog 34 #[.pointer (some ⟨rb, 0, none⟩), tokW t] u fun e u' => Fr (fun k => k = rb ∨ v.wv.ownBlock = some k) u u' ∧ PrimOut u' rb v ts s B l (punctF ts s t.s) e := by
  have HA := Lib.hid h
  have hf := h.few
  have hlt := h.blk.lt
  have HR := Lib.hid hrow
  have c1 : u.cell? ⟨rb, 1, none⟩ = some (.int .i64 (s.at' : Int)) := h.blk.cell (i := 1) rfl
  have cf := h.blk.free
  have hwr : IntKind.i64.wrap ((s.at' : Int) + 1) = (s.at' : Int) + 1 := IntWalk.i64_in _ (by omega)
  clear h hrow
  have hp : punctF ts s t.s = .ok ((s.go 1).await ⟨0, 0, [], 0, []⟩ 1200) := by unfold punctF; rw [if_pos hts]
  rw [hp]
  clear hp
  unfold tokW
  rw [hts]
  obtain ⟨R, hR⟩ : ∃ R : Ending → World → Prop, R = fun e u' => Fr (fun k => k = rb ∨ v.wv.ownBlock = some k) u u' ∧ PrimOut u' rb v ts s B l (.ok ((s.go 1).await ⟨0, 0, [], 0, []⟩ 1200)) e := ⟨_, rfl⟩
  rw [← hR]
  have HRR := Lib.hid hR
  clear hR
  have hgo : RdAt ((u.setCell ⟨rb, 1, none⟩ (.int .i64 ((s.at' : Int) + 1))).alloc (.cells #[.int .i64 t.kind, .int .i64 t.line, .int .i64 t.n, .string ⟨#[40]⟩, .bool t.opn, .bool t.tight] 44)) rb v ts (s.go 1) B := (HA.out.put (v' := v) (s' := s.go 1) 1 (.int .i64 ((s.at' : Int) + 1)) (by simp [rdCells, RdS.go]) rfl rfl (by show s.at' + 1 ≤ _; omega)).later ((Below.refl _ _).alloc (Nat.le_refl _) _)
  have HG := Lib.hid hgo
  have hF : Fr (· = rb) u ((u.setCell ⟨rb, 1, none⟩ (.int .i64 ((s.at' : Int) + 1))).alloc (.cells #[.int .i64 t.kind, .int .i64 t.line, .int .i64 t.n, .string ⟨#[40]⟩, .bool t.opn, .bool t.tight] 44)) := ((Fr.refl (· = rb) u).setCell (p := ⟨rb, 1, none⟩) (.inl rfl) _).alloc _
  have HF := Lib.hid hF
  have HRW := Lib.hid (WRow.fr HR.out hF)
  clear hgo hF
  go_enter Tryd.func34, Tryd.ntmps34
  go_wp2_with fail
  refine (await_any _ rb v ts _ B HG.out l HRW.out hl ⟨0, 0, [], 0, none, 0, 0⟩ 1200 ⟨0, 0, [], 0, []⟩).mono ?_
  rintro e w2 ⟨rfl, wv', r1, r2, r3⟩
  have R1 := Lib.hid r1
  have R2 := Lib.hid r2
  have R3 := Lib.hid r3
  clear r1 r2 r3
  go_wp2_with fail
  refine bodyPost_end (v := .tuple #[]) (by simp [results, Tryd.results34, go_sem]) rfl ?_
  rw [HRR.out]
  exact ⟨(HF.out.weak fun k hk => .inl hk).trans R3.out, rfl, { v with wv := wv' }, R1.out, rfl, rfl, rfl, rfl, rfl, rfl, rfl, .inl ⟨rfl, rfl, _, rfl, rfl, R2.out⟩⟩

set_option maxHeartbeats 8000000 in
theorem punct_list (u : World) (rb : Nat) (v : RdV) (ts : List Tok) (s : RdS) (B : Nat) (h : RdAt u rb v ts s B) (l : List FrV) (hrow : WRow u rb v.wv l) (hl : l.length ≤ 100000) (t : Tok) (hts : t.s = [91]) (hat : s.at' < ts.length) (hq : isP ts (s.at' + 1) 93 = false) :
    Calls Tryd.prog 34 #[.pointer (some ⟨rb, 0, none⟩), tokW t] u fun e u' => Fr (fun k => k = rb ∨ v.wv.ownBlock = some k) u u' ∧ PrimOut u' rb v ts s B l (punctF ts s t.s) e := by
  have HA := Lib.hid h
  have hf := h.few
  have hlt := h.blk.lt
  have HR := Lib.hid hrow
  have c1 : u.cell? ⟨rb, 1, none⟩ = some (.int .i64 (s.at' : Int)) := h.blk.cell (i := 1) rfl
  have cf := h.blk.free
  have hwr : IntKind.i64.wrap ((s.at' : Int) + 1) = (s.at' : Int) + 1 := IntWalk.i64_in _ (by omega)
  clear h hrow
  have hp : punctF ts s t.s = .ok ((s.go 1).await ⟨3, 0, [], 0, []⟩ 999) := by unfold punctF; rw [if_neg (by rw [hts]; decide), if_pos hts, hq]; rfl
  rw [hp]
  clear hp
  unfold tokW
  rw [hts]
  obtain ⟨R, hR⟩ : ∃ R : Ending → World → Prop, R = fun e u' => Fr (fun k => k = rb ∨ v.wv.ownBlock = some k) u u' ∧ PrimOut u' rb v ts s B l (.ok ((s.go 1).await ⟨3, 0, [], 0, []⟩ 999)) e := ⟨_, rfl⟩
  rw [← hR]
  have HRR := Lib.hid hR
  clear hR
  go_enter Tryd.func34, Tryd.ntmps34
  go_wp2_with fail
  have ha : Below u.heap.size u (u.alloc (.cells #[.int .i64 t.kind, .int .i64 t.line, .int .i64 t.n, .string ⟨#[91]⟩, .bool t.opn, .bool t.tight] 44)) := (Below.refl _ _).alloc (Nat.le_refl _) _
  refine (pair_no _ rb v ts s B (HA.out.later ha) 93 hq).mono ?_
  rintro e w1 ⟨hb, rfl⟩
  have hb0 : Below u.heap.size u w1 := ha.trans (hb.mono (by simp))
  have HA1 := Lib.hid (HA.out.later hb0)
  clear ha hb c1 cf
  have c1 : w1.cell? ⟨rb, 1, none⟩ = some (.int .i64 (s.at' : Int)) := HA1.out.blk.cell (i := 1) rfl
  have cf := HA1.out.blk.free
  have hgo : RdAt (w1.setCell ⟨rb, 1, none⟩ (.int .i64 ((s.at' : Int) + 1))) rb v ts (s.go 1) B := HA1.out.put (v' := v) (s' := s.go 1) 1 (.int .i64 ((s.at' : Int) + 1)) (by simp [rdCells, RdS.go]) rfl rfl (by show s.at' + 1 ≤ _; omega)
  have HG := Lib.hid hgo
  have hF : Fr (· = rb) u (w1.setCell ⟨rb, 1, none⟩ (.int .i64 ((s.at' : Int) + 1))) := (Fr.of_below (· = rb) hb0).setCell (p := ⟨rb, 1, none⟩) (.inl rfl) _
  have HF := Lib.hid hF
  have HRW := Lib.hid (WRow.fr HR.out hF)
  clear hgo hF hb0
  go_wp2_with fail
  refine (await_any _ rb v ts _ B HG.out l HRW.out hl ⟨3, 0, [], 0, none, 0, 0⟩ 999 ⟨3, 0, [], 0, []⟩).mono ?_
  rintro e w2 ⟨rfl, wv', r1, r2, r3⟩
  have R1 := Lib.hid r1
  have R2 := Lib.hid r2
  have R3 := Lib.hid r3
  clear r1 r2 r3
  go_wp2_with fail
  refine bodyPost_end (v := .tuple #[]) (by simp [results, Tryd.results34, go_sem]) rfl ?_
  rw [HRR.out]
  exact ⟨(HF.out.weak fun k hk => .inl hk).trans R3.out, rfl, { v with wv := wv' }, R1.out, rfl, rfl, rfl, rfl, rfl, rfl, rfl, .inl ⟨rfl, rfl, _, rfl, rfl, R2.out⟩⟩

set_option maxHeartbeats 8000000 in
theorem punct_brace (u : World) (rb : Nat) (v : RdV) (ts : List Tok) (s : RdS) (B : Nat) (h : RdAt u rb v ts s B) (l : List FrV) (hrow : WRow u rb v.wv l) (hl : l.length ≤ 100000) (t : Tok) (hts : t.s = [123]) (hat : s.at' < ts.length) (hq : isP ts (s.at' + 1) 125 = false) :
    Calls Tryd.prog 34 #[.pointer (some ⟨rb, 0, none⟩), tokW t] u fun e u' => Fr (fun k => k = rb ∨ v.wv.ownBlock = some k) u u' ∧ PrimOut u' rb v ts s B l (punctF ts s t.s) e := by
  have HA := Lib.hid h
  have hf := h.few
  have hlt := h.blk.lt
  have HR := Lib.hid hrow
  have c1 : u.cell? ⟨rb, 1, none⟩ = some (.int .i64 (s.at' : Int)) := h.blk.cell (i := 1) rfl
  have cf := h.blk.free
  have hwr : IntKind.i64.wrap ((s.at' : Int) + 1) = (s.at' : Int) + 1 := IntWalk.i64_in _ (by omega)
  clear h hrow
  have hp : punctF ts s t.s = .ok ((s.go 1).await ⟨1, 0, [], 0, []⟩ 1200) := by unfold punctF; rw [if_neg (by rw [hts]; decide), if_neg (by rw [hts]; decide), if_pos hts, hq]; rfl
  rw [hp]
  clear hp
  unfold tokW
  rw [hts]
  obtain ⟨R, hR⟩ : ∃ R : Ending → World → Prop, R = fun e u' => Fr (fun k => k = rb ∨ v.wv.ownBlock = some k) u u' ∧ PrimOut u' rb v ts s B l (.ok ((s.go 1).await ⟨1, 0, [], 0, []⟩ 1200)) e := ⟨_, rfl⟩
  rw [← hR]
  have HRR := Lib.hid hR
  clear hR
  go_enter Tryd.func34, Tryd.ntmps34
  go_wp2_with fail
  have ha : Below u.heap.size u (u.alloc (.cells #[.int .i64 t.kind, .int .i64 t.line, .int .i64 t.n, .string ⟨#[123]⟩, .bool t.opn, .bool t.tight] 44)) := (Below.refl _ _).alloc (Nat.le_refl _) _
  refine (pair_no _ rb v ts s B (HA.out.later ha) 125 hq).mono ?_
  rintro e w1 ⟨hb, rfl⟩
  have hb0 : Below u.heap.size u w1 := ha.trans (hb.mono (by simp))
  have HA1 := Lib.hid (HA.out.later hb0)
  clear ha hb c1 cf
  have c1 : w1.cell? ⟨rb, 1, none⟩ = some (.int .i64 (s.at' : Int)) := HA1.out.blk.cell (i := 1) rfl
  have cf := HA1.out.blk.free
  have hgo : RdAt (w1.setCell ⟨rb, 1, none⟩ (.int .i64 ((s.at' : Int) + 1))) rb v ts (s.go 1) B := HA1.out.put (v' := v) (s' := s.go 1) 1 (.int .i64 ((s.at' : Int) + 1)) (by simp [rdCells, RdS.go]) rfl rfl (by show s.at' + 1 ≤ _; omega)
  have HG := Lib.hid hgo
  have hF : Fr (· = rb) u (w1.setCell ⟨rb, 1, none⟩ (.int .i64 ((s.at' : Int) + 1))) := (Fr.of_below (· = rb) hb0).setCell (p := ⟨rb, 1, none⟩) (.inl rfl) _
  have HF := Lib.hid hF
  have HRW := Lib.hid (WRow.fr HR.out hF)
  clear hgo hF hb0
  go_wp2_with fail
  refine (await_any _ rb v ts _ B HG.out l HRW.out hl ⟨1, 0, [], 0, none, 0, 0⟩ 1200 ⟨1, 0, [], 0, []⟩).mono ?_
  rintro e w2 ⟨rfl, wv', r1, r2, r3⟩
  have R1 := Lib.hid r1
  have R2 := Lib.hid r2
  have R3 := Lib.hid r3
  clear r1 r2 r3
  go_wp2_with fail
  refine bodyPost_end (v := .tuple #[]) (by simp [results, Tryd.results34, go_sem]) rfl ?_
  rw [HRR.out]
  exact ⟨(HF.out.weak fun k hk => .inl hk).trans R3.out, rfl, { v with wv := wv' }, R1.out, rfl, rfl, rfl, rfl, rfl, rfl, rfl, .inl ⟨rfl, rfl, _, rfl, rfl, R2.out⟩⟩

set_option maxHeartbeats 8000000 in
theorem punct_list2 (u : World) (rb : Nat) (v : RdV) (ts : List Tok) (s : RdS) (B : Nat) (h : RdAt u rb v ts s B) (l : List FrV) (hrow : WRow u rb v.wv l) (hl : l.length ≤ 100000) (t : Tok) (hts : t.s = [91]) (hat : s.at' < ts.length) (hq : isP ts (s.at' + 1) 93 = true) (hln : (peekF ts s.at').s.length ≤ 1000000) :
    Calls Tryd.prog 34 #[.pointer (some ⟨rb, 0, none⟩), tokW t] u fun e u' => Fr (fun k => k = rb ∨ v.wv.ownBlock = some k) u u' ∧ PrimOut u' rb v ts s B l (punctF ts s t.s) e := by
  have HA := Lib.hid h
  have hf := h.few
  have hlt := h.blk.lt
  have HR := Lib.hid hrow
  have c1 : u.cell? ⟨rb, 1, none⟩ = some (.int .i64 (s.at' : Int)) := h.blk.cell (i := 1) rfl
  have cf := h.blk.free
  have hwr : IntKind.i64.wrap ((s.at' : Int) + 1) = (s.at' : Int) + 1 := IntWalk.i64_in _ (by omega)
  clear h hrow
  have hp : punctF ts s t.s = (pairF ts s 93) := by unfold punctF; rw [if_neg (by rw [hts]; decide), if_pos hts, hq]; rfl
  rw [hp]
  clear hp
  unfold tokW
  rw [hts]
  obtain ⟨R, hR⟩ : ∃ R : Ending → World → Prop, R = fun e u' => Fr (fun k => k = rb ∨ v.wv.ownBlock = some k) u u' ∧ PrimOut u' rb v ts s B l ((pairF ts s 93)) e := ⟨_, rfl⟩
  rw [← hR]
  have HRR := Lib.hid hR
  clear hR
  have hpf : pairF ts s 93 = if (peekF ts (s.at' + 1)).opn then argsF ts (s.go 2) ((peekF ts s.at').s ++ [93]) else .ok ((s.go 2).done (atomT ((peekF ts s.at').s ++ [93])) 0) := rfl
  go_enter Tryd.func34, Tryd.ntmps34
  go_wp2_with fail
  have ha : Below u.heap.size u (u.alloc (.cells #[.int .i64 t.kind, .int .i64 t.line, .int .i64 t.n, .string ⟨#[91]⟩, .bool t.opn, .bool t.tight] 44)) := (Below.refl _ _).alloc (Nat.le_refl _) _
  refine (pair_yes _ rb v ts s B (HA.out.later ha) l (WRow.fr HR.out (.of_below _ ha)) hl 93 hq hln).mono ?_
  rintro e w1 ⟨hF, h1⟩
  have HF := Lib.hid ((Fr.of_below (fun k => k = rb ∨ v.wv.ownBlock = some k) ha).trans hF)
  have HF0 := Lib.hid hF
  clear ha hF
  cases ho : (peekF ts (s.at' + 1)).opn with
  | true =>
    rw [ho] at h1 hpf
    simp only [if_true] at h1 hpf
    cases hp4 : isP ts (s.at' + 2) 40 with
    | true =>
      rw [hp4, if_pos rfl] at h1
      have hr : pairF ts s 93 = .ok (((s.go 2).go 1).await ⟨2, 0, (peekF ts s.at').s ++ [93], 0, []⟩ 999) := by
        rw [hpf]; unfold argsF RdS.expect; rw [show (s.go 2).at' = s.at' + 2 from rfl, hp4]; rfl
      obtain ⟨rfl, wv', h1, h2⟩ := h1
      have H1 := Lib.hid h1
      have H2 := Lib.hid h2
      clear h1 h2 hpf
      go_wp2_with fail
      refine bodyPost_end (v := .tuple #[]) (by simp [results, Tryd.results34, go_sem]) rfl ?_
      rw [HRR.out]
      refine ⟨HF.out, ?_⟩
      rw [hr]
      exact ⟨rfl, { v with wv := wv' }, H1.out, rfl, rfl, rfl, rfl, rfl, rfl, rfl, .inl ⟨rfl, rfl, _, rfl, rfl, H2.out⟩⟩
    | false =>
      rw [hp4, if_neg (by simp)] at h1
      have hr : pairF ts s 93 = .error (s.at' + 2) := by
        rw [hpf]; unfold argsF RdS.expect; rw [show (s.go 2).at' = s.at' + 2 from rfl, hp4]; rfl
      obtain ⟨rfl, h1⟩ := h1
      refine ⟨rfl, ?_⟩
      rw [HRR.out]
      refine ⟨HF.out, ?_⟩
      rw [hr]
      exact ⟨rfl, s.go 2, rfl, h1⟩
  | false =>
    rw [ho] at h1 hpf
    simp only [Bool.false_eq_true, if_false] at h1 hpf
    obtain ⟨rfl, h1, h2⟩ := h1
    have H1 := Lib.hid h1
    have HP := Lib.hid hpf
    have H2 := Lib.hid h2
    clear h2
    clear h1 hpf
    go_wp2_with fail
    refine bodyPost_end (v := .tuple #[]) (by simp [results, Tryd.results34, go_sem]) rfl ?_
    rw [HRR.out]
    refine ⟨HF.out, ?_⟩
    rw [HP.out]
    exact ⟨rfl, _, H1.out, rfl, rfl, rfl, rfl, rfl, rfl, rfl, .inr ⟨rfl, rfl, H2.out, 3, 0, _, rfl, rfl⟩⟩

set_option maxHeartbeats 8000000 in
theorem punct_brace2 (u : World) (rb : Nat) (v : RdV) (ts : List Tok) (s : RdS) (B : Nat) (h : RdAt u rb v ts s B) (l : List FrV) (hrow : WRow u rb v.wv l) (hl : l.length ≤ 100000) (t : Tok) (hts : t.s = [123]) (hat : s.at' < ts.length) (hq : isP ts (s.at' + 1) 125 = true) (hln : (peekF ts s.at').s.length ≤ 1000000) :
    Calls Tryd.prog 34 #[.pointer (some ⟨rb, 0, none⟩), tokW t] u fun e u' => Fr (fun k => k = rb ∨ v.wv.ownBlock = some k) u u' ∧ PrimOut u' rb v ts s B l (punctF ts s t.s) e := by
  have HA := Lib.hid h
  have hf := h.few
  have hlt := h.blk.lt
  have HR := Lib.hid hrow
  have c1 : u.cell? ⟨rb, 1, none⟩ = some (.int .i64 (s.at' : Int)) := h.blk.cell (i := 1) rfl
  have cf := h.blk.free
  have hwr : IntKind.i64.wrap ((s.at' : Int) + 1) = (s.at' : Int) + 1 := IntWalk.i64_in _ (by omega)
  clear h hrow
  have hp : punctF ts s t.s = (pairF ts s 125) := by unfold punctF; rw [if_neg (by rw [hts]; decide), if_neg (by rw [hts]; decide), if_pos hts, hq]; rfl
  rw [hp]
  clear hp
  unfold tokW
  rw [hts]
  obtain ⟨R, hR⟩ : ∃ R : Ending → World → Prop, R = fun e u' => Fr (fun k => k = rb ∨ v.wv.ownBlock = some k) u u' ∧ PrimOut u' rb v ts s B l ((pairF ts s 125)) e := ⟨_, rfl⟩
  rw [← hR]
  have HRR := Lib.hid hR
  clear hR
  have hpf : pairF ts s 125 = if (peekF ts (s.at' + 1)).opn then argsF ts (s.go 2) ((peekF ts s.at').s ++ [125]) else .ok ((s.go 2).done (atomT ((peekF ts s.at').s ++ [125])) 0) := rfl
  go_enter Tryd.func34, Tryd.ntmps34
  go_wp2_with fail
  have ha : Below u.heap.size u (u.alloc (.cells #[.int .i64 t.kind, .int .i64 t.line, .int .i64 t.n, .string ⟨#[123]⟩, .bool t.opn, .bool t.tight] 44)) := (Below.refl _ _).alloc (Nat.le_refl _) _
  refine (pair_yes _ rb v ts s B (HA.out.later ha) l (WRow.fr HR.out (.of_below _ ha)) hl 125 hq hln).mono ?_
  rintro e w1 ⟨hF, h1⟩
  have HF := Lib.hid ((Fr.of_below (fun k => k = rb ∨ v.wv.ownBlock = some k) ha).trans hF)
  have HF0 := Lib.hid hF
  clear ha hF
  cases ho : (peekF ts (s.at' + 1)).opn with
  | true =>
    rw [ho] at h1 hpf
    simp only [if_true] at h1 hpf
    cases hp4 : isP ts (s.at' + 2) 40 with
    | true =>
      rw [hp4, if_pos rfl] at h1
      have hr : pairF ts s 125 = .ok (((s.go 2).go 1).await ⟨2, 0, (peekF ts s.at').s ++ [125], 0, []⟩ 999) := by
        rw [hpf]; unfold argsF RdS.expect; rw [show (s.go 2).at' = s.at' + 2 from rfl, hp4]; rfl
      obtain ⟨rfl, wv', h1, h2⟩ := h1
      have H1 := Lib.hid h1
      have H2 := Lib.hid h2
      clear h1 h2 hpf
      go_wp2_with fail
      refine bodyPost_end (v := .tuple #[]) (by simp [results, Tryd.results34, go_sem]) rfl ?_
      rw [HRR.out]
      refine ⟨HF.out, ?_⟩
      rw [hr]
      exact ⟨rfl, { v with wv := wv' }, H1.out, rfl, rfl, rfl, rfl, rfl, rfl, rfl, .inl ⟨rfl, rfl, _, rfl, rfl, H2.out⟩⟩
    | false =>
      rw [hp4, if_neg (by simp)] at h1
      have hr : pairF ts s 125 = .error (s.at' + 2) := by
        rw [hpf]; unfold argsF RdS.expect; rw [show (s.go 2).at' = s.at' + 2 from rfl, hp4]; rfl
      obtain ⟨rfl, h1⟩ := h1
      refine ⟨rfl, ?_⟩
      rw [HRR.out]
      refine ⟨HF.out, ?_⟩
      rw [hr]
      exact ⟨rfl, s.go 2, rfl, h1⟩
  | false =>
    rw [ho] at h1 hpf
    simp only [Bool.false_eq_true, if_false] at h1 hpf
    obtain ⟨rfl, h1, h2⟩ := h1
    have H1 := Lib.hid h1
    have HP := Lib.hid hpf
    have H2 := Lib.hid h2
    clear h2
    clear h1 hpf
    go_wp2_with fail
    refine bodyPost_end (v := .tuple #[]) (by simp [results, Tryd.results34, go_sem]) rfl ?_
    rw [HRR.out]
    refine ⟨HF.out, ?_⟩
    rw [HP.out]
    exact ⟨rfl, _, H1.out, rfl, rfl, rfl, rfl, rfl, rfl, rfl, .inr ⟨rfl, rfl, H2.out, 3, 0, _, rfl, rfl⟩⟩

set_option maxHeartbeats 8000000 in
theorem punct_bad (u : World) (rb : Nat) (v : RdV) (ts : List Tok) (s : RdS) (B : Nat) (h : RdAt u rb v ts s B) (l : List FrV) (t : Tok) (h40 : t.s ≠ [40]) (h91 : t.s ≠ [91]) (h123 : t.s ≠ [123]) :
    Calls Tryd.prog 34 #[.pointer (some ⟨rb, 0, none⟩), tokW t] u fun e u' => Fr (fun k => k = rb ∨ v.wv.ownBlock = some k) u u' ∧ PrimOut u' rb v ts s B l (punctF ts s t.s) e := by
  have HA := Lib.hid h
  clear h
  have hp : punctF ts s t.s = .error s.at' := by unfold punctF; rw [if_neg h40, if_neg h91, if_neg h123]
  rw [hp]
  clear hp
  unfold tokW
  have b40 : (t.s == [40]) = false := beq_eq_false_iff_ne.2 h40
  have b91 : (t.s == [91]) = false := beq_eq_false_iff_ne.2 h91
  have b123 : (t.s == [123]) = false := beq_eq_false_iff_ne.2 h123
  obtain ⟨R, hR⟩ : ∃ R : Ending → World → Prop, R = fun e u' => Fr (fun k => k = rb ∨ v.wv.ownBlock = some k) u u' ∧ PrimOut u' rb v ts s B l (.error s.at') e := ⟨_, rfl⟩
  rw [← hR]
  have HRR := Lib.hid hR
  clear hR
  go_enter Tryd.func34, Tryd.ntmps34
  go_wp2_with fail
  refine (fail_any _ _).mono ?_
  rintro e w1 ⟨rfl, hb⟩
  have hb0 : Below u.heap.size u w1 := ((Below.refl _ _).alloc (Nat.le_refl _) _).trans (hb.mono (by simp))
  refine ⟨rfl, ?_⟩
  rw [HRR.out]
  exact ⟨.of_below _ hb0, rfl, s, rfl, HA.out.later hb0⟩

theorem punct_any (u : World) (rb : Nat) (v : RdV) (ts : List Tok) (s : RdS) (B : Nat) (h : RdAt u rb v ts s B) (l : List FrV) (hrow : WRow u rb v.wv l) (hl : l.length ≤ 100000) (t : Tok) (hat : s.at' < ts.length) (hln : (peekF ts s.at').s.length ≤ 1000000) :
    Calls Tryd.prog 34 #[.pointer (some ⟨rb, 0, none⟩), tokW t] u fun e u' => Fr (fun k => k = rb ∨ v.wv.ownBlock = some k) u u' ∧ PrimOut u' rb v ts s B l (punctF ts s t.s) e := by
  by_cases h40 : t.s = [40]
  · exact punct_paren u rb v ts s B h l hrow hl t h40 hat
  by_cases h91 : t.s = [91]
  · cases hq : isP ts (s.at' + 1) 93 with
    | true => exact punct_list2 u rb v ts s B h l hrow hl t h91 hat hq hln
    | false => exact punct_list u rb v ts s B h l hrow hl t h91 hat hq
  by_cases h123 : t.s = [123]
  · cases hq : isP ts (s.at' + 1) 125 with
    | true => exact punct_brace2 u rb v ts s B h l hrow hl t h123 hat hq hln
    | false => exact punct_brace u rb v ts s B h l hrow hl t h123 hat hq
  exact punct_bad u rb v ts s B h l t h40 h91 h123
end Go.Proofs.YtmgidfndifhcoaaDoor
