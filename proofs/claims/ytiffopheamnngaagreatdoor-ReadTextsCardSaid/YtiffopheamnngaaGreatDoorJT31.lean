import Derived.Test.YtiffopheamnngaaGreatDoorJT28
import Derived.Test.YtiffopheamnngaaGreatDoorJT29
import Derived.Test.YtiffopheamnngaaGreatDoorJT30
namespace Go.Proofs.YtiffopheamnngaaGreatDoor
open Go.RowKit Go.Maps
set_option maxRecDepth 100000
section
variable {E : RdE} {u u' : World} {v : RdV} {s : RdS} {fl : List FrV} {fv : FrV} {f : WaitF} {r : List WaitF}
set_option maxHeartbeats 16000000 in
theorem back_ux (h : RdInv E u v s (fl ++ [fv])) (hvv : s.hv = true) (hw : s.wait = f :: r) (hu : f.use ≠ 0 ∧ f.use ≠ 1 ∧ f.use ≠ 5 ∧ f.use ≠ 6 ∧ f.use ≠ 2 ∧ f.use ≠ 3 ∧ f.use ≠ 4) :
    Calls Tryz.prog 64 #[.pointer (some ⟨E.rb, 0, none⟩)] u fun e u' => RdOut E u u' (backF E.ts s f r) e := by
 obtain ⟨res, hres⟩ : ∃ res, res = backF E.ts s f r := ⟨_, rfl⟩
 have HRES := Lib.hid hres
 rw [← hres]
 clear hres
 obtain ⟨R, hR⟩ : ∃ R : Ending → World → Prop, R = fun e u' => RdOut E u u' res e := ⟨_, rfl⟩
 rw [← hR]
 have HRR := Lib.hid hR
 clear hR
 have HI := Lib.hid h
 have hwt := h.waits
 have htie := (h.popTies hw).1
 have HT := Lib.hid htie
 obtain ⟨g, cap, hsh, hg0, hg1, hcap, hcs⟩ := h.row.cells encFr_len (by simp)
 have e0 := (hcs fl.length fv (by simp) 0 _ rfl).1
 have e1 := (hcs fl.length fv (by simp) 1 _ rfl).1
 have e2 := (hcs fl.length fv (by simp) 2 _ rfl).1
 have e3 := (hcs fl.length fv (by simp) 3 _ rfl).1
 have e4 := (hcs fl.length fv (by simp) 4 _ rfl).1
 simp only [Nat.add_zero] at e0
 rw [List.length_append, List.length_cons, List.length_nil, Nat.zero_add] at hsh hcap hwt
 have c4 : u.cell? ⟨E.rb, 4, none⟩ = some (.slice (some ⟨g, 0, none⟩) (fl.length + 1) cap) := (h.r.blk.cell (i := 4) rfl).trans (congrArg some hsh)
 have c5 : u.cell? ⟨E.rb, 5, none⟩ = some (.int .i64 s.most) := h.r.blk.cell (i := 5) rfl
 have cf := h.r.blk.free
 have hrl := h.r.blk.lt
 have hN0 : (0 : Int) ≤ (fl.length : Int) := by omega
 have hN1 : (fl.length : Int) < (fl.length : Int) + 1 := by omega
 have hN2 : (fl.length : Int) ≤ (cap : Int) := by omega
 have hN3 : (fl.length : Int) + 1 ≤ (cap : Int) := by omega
 have hw1 : IntKind.i64.wrap ((fl.length : Int) + 1) = (fl.length : Int) + 1 := IntWalk.i64_in _ (by omega)
 have hw2 : IntKind.i64.wrap ((fl.length : Int) + 1 - 1) = (fl.length : Int) := by rw [show (fl.length : Int) + 1 - 1 = (fl.length : Int) by omega]; exact IntWalk.i64_in _ (by omega)
 obtain ⟨W, hW⟩ : ∃ W, W = (((u.setCell ⟨E.rb, 4, none⟩ (.slice (some ⟨g, 0, none⟩) fl.length cap)).setCell ⟨E.rb, 5, none⟩ (.int .i64 fv.most)).alloc (.cells #[.int .i64 fv.use, .int .i64 fv.most, .string ⟨fv.name.toArray⟩, .int .i64 fv.pri, .slice fv.A fv.len fv.cap] 120)).drew.drew := ⟨_, rfl⟩
 have HPA := Lib.hid (h.popped hw hsh hW)
 have HSH := Lib.hid hsh
 have b0 : (fv.use == 0) = false := beq_eq_false_iff_ne.2 (by rw [htie.use]; omega)
 have b1 : (fv.use == 1) = false := beq_eq_false_iff_ne.2 (by rw [htie.use]; omega)
 have b5 : (fv.use == 5) = false := beq_eq_false_iff_ne.2 (by rw [htie.use]; omega)
 have b6 : (fv.use == 6) = false := beq_eq_false_iff_ne.2 (by rw [htie.use]; omega)
 have b2 : (fv.use == 2) = false := beq_eq_false_iff_ne.2 (by rw [htie.use]; omega)
 have b3 : (fv.use == 3) = false := beq_eq_false_iff_ne.2 (by rw [htie.use]; omega)
 have b4 : (fv.use == 4) = false := beq_eq_false_iff_ne.2 (by rw [htie.use]; omega)
 have HU := Lib.hid hu
 clear h htie hcs hsh hu
 go_enter Tryz.func64, Tryz.ntmps64
 go_wp2_with fail
 go_region
 go_upto_region 1 with fail
 go_region
 clear e0 e1 e2 e3 e4 c4 hN0 hN1 hN2 hN3 hw1 hw2 hg0 hg1 hcap
 go_wp2_with fail
 rw [← hW]
 clear hW c5 cf
 have hb : backF E.ts s f r = .ok ({ s with wait := r, most := f.most } : RdS) := by
  obtain ⟨h0, h1, h5, h6, h2, h3, h4⟩ := HU.out
  unfold backF backG
  dsimp only
  rw [if_neg h0, if_neg h1, if_neg h5, if_neg h6, if_neg h2, if_neg h3, if_neg h4]
 refine bodyPost_end (v := .tuple #[]) (by simp [results, Tryz.results64, go_sem]) rfl ?_
 rw [HRR.out, HRES.out, hb]
 have hd := HI.out.popDone hvv (by assumption) (wp_rb HPA.out.fr) HPA.out.r HPA.out.row (HI.out.popX (wp_rb HPA.out.fr)) hb rfl rfl rfl rfl
 exact ⟨hd.1, rfl, hd.2⟩
end
end Go.Proofs.YtiffopheamnngaaGreatDoor
namespace Go.Proofs.YtiffopheamnngaaGreatDoor
open Go.RowKit Go.Maps
set_option maxRecDepth 100000
section
variable {o : OpsF} {ts : List Tok} {s s' : RdS} {a : Nat} {f : WaitF} {r : List WaitF}
theorem round_prim (hv : s.hv = false) : roundF o ts s = toO (primaryF o ts s) := by unfold roundF; rw [if_pos hv]
theorem round_op (hv : s.hv = true) (h : operatorF o ts s = some s') : roundF o ts s = .on s' := by unfold roundF; rw [if_neg (by rw [hv]; decide), h]
theorem round_back (hv : s.hv = true) (h : operatorF o ts s = none) (hw : s.wait = f :: r) : roundF o ts s = toO (backF ts s f r) := by unfold roundF; rw [if_neg (by rw [hv]; decide), h]; dsimp only; rw [hw]
theorem round_end (hv : s.hv = true) (h : operatorF o ts s = none) (hw : s.wait = []) : roundF o ts s = if (peekF ts s.at').kind ≠ 7 then .bad s.at' else .fin s := by unfold roundF; rw [if_neg (by rw [hv]; decide), h]; dsimp only; rw [hw]
theorem end_on (h : roundF o ts s = .on s') : endF o ts s = endF o ts s' ∧ leftF ts s' < leftF ts s := ⟨by rw [end_step, h], round_less h⟩
theorem end_bad (h : roundF o ts s = .bad a) : endF o ts s = .bad a := by rw [end_step, h]
theorem end_fin (h : roundF o ts s = .fin s') : endF o ts s = .fin s' := by rw [end_step, h]
end
section
variable {E : RdE} {u u' : World} {v : RdV} {s : RdS} {fl : List FrV} {fv : FrV} {f : WaitF} {r : List WaitF}
theorem back_any (h : RdInv E u v s (fl ++ [fv])) (hvv : s.hv = true) (hw : s.wait = f :: r) :
    Calls Tryz.prog 64 #[.pointer (some ⟨E.rb, 0, none⟩)] u fun e u' => RdOut E u u' (backF E.ts s f r) e := by
 by_cases h0 : f.use = 0
 ·exact back_u0 h hvv hw h0
 by_cases h1 : f.use = 1
 ·exact back_u1 h hvv hw h1
 by_cases h5 : f.use = 5
 ·exact back_u5 h hvv hw h5
 by_cases h6 : f.use = 6
 ·exact back_u6 h hvv hw h6
 by_cases h2 : f.use = 2
 ·exact back_u2 h hvv hw h2
 by_cases h3 : f.use = 3
 ·exact back_u3 h hvv hw h3
 by_cases h4 : f.use = 4
 ·exact back_u4 h hvv hw h4
 exact back_ux h hvv hw ⟨h0, h1, h5, h6, h2, h3, h4⟩
theorem RdInv.same (h : RdInv E u v s fl) (hF : Fr (· = E.rb) u u') {s' : RdS} (r : RdAt u' E.rb v E.ts s' E.B) (ew : s'.wait = s.wait) (et : s'.t = s.t) (h1 : s'.vars = s.vars) (h2 : s'.names = s.names) (h3 : s'.cnt = s.cnt) (el : leftF E.ts s' = leftF E.ts s) : RdInv E u' v s' fl := by
 have hF2 : Fr (fun k => k = E.rb ∨ v.wv.ownBlock = some k) u u' := hF.weak fun _ hk => .inl hk
 have hS := h.keepS nil_sub (fr_w hF2) (fl' := fl) fun b hb => .inl hb
 have hb := h.below nil_sub (fr_w hF2)
 exact { r := r, row := WRow.fr h.row hF, vb := h.vb, ob := h.ob, bv := h.bv, mbr := h.mbr, Bmb := h.Bmb, rbb := h.rbb, mbb := h.mbb, vars := by rw [h1]; exact h.keepV hF2,
         beg := h.beg.keep (hF.block E.bb h.beg.lt (by have := h.rbb; omega)), nm := by rw [h2]; exact h.keepN hF2, tab := h.tab.below hb.b h.btr h.bmr, kinds := h.kinds.below hb.b h.kr, btr := h.btr, bmr := h.bmr, kr := h.kr,
         tie := by rw [ew]; exact h.keepT hF2 fun b hb => .inl hb, x := by rw [et]; exact h.x.step hS, fix := fun p hp => ⟨(hb.fix p hp).trans (h.fix p hp).1, (h.fix p hp).2⟩, nd := h.nd, short := h.short, num := h.num,
         left := by rw [el]; exact h.left, ll := by rw [ew, el]; exact h.ll, c0 := by rw [h3]; exact h.c0, cn := by rw [h3, el]; exact h.cn, nn := by rw [h2, el]; exact h.nn }
def zC : Array Value := #[.int .i64 0, .int .i64 0, .string ⟨#[]⟩, .slice none 0 0]
def RdE.with (E : RdE) (b : Nat) : RdE := { E with fix := (b, zC, 34) :: E.fix }
theorem RdInv.addFix (h : RdInv E u v s []) : RdInv (E.with u.heap.size) (u.alloc (.cells zC 34)) v s [] := by
 have hb : Below u.heap.size u (u.alloc (.cells zC 34)) := (Below.refl _ _).alloc (Nat.le_refl _) _
 have h2 := h.later hb
 have hw : s.wait = [] := by
  have := h.tie.len
  rw [List.reverse_nil, List.length_nil] at this
  exact List.eq_nil_of_length_eq_zero this.symm
 exact { h2 with
  tie := by rw [hw]; exact .nil
  x := h.x.step fun b hb' => by
   have hk := hb.block b hb'.1.lt
   refine ⟨⟨hb'.1.keep hk, fun e => ?_⟩, hk⟩
   rcases List.mem_append.1 e with e | e
   ·cases e
   ·rcases List.mem_cons.1 e with e | e
    ·have := hb'.1.lt; have e : b = u.heap.size := e; omega
    ·exact hb'.2 (List.mem_append_right _ e)
  fix := fun p hp => by
   rcases List.mem_cons.1 hp with rfl | hp
   ·exact ⟨heap_alloc_new u _, (fun e => by cases e), (show (34 : TypeId) ≠ 72 by decide), (show (34 : TypeId) ≠ 120 by decide), (show (34 : TypeId) ≠ 54 by decide)⟩
   ·exact h2.fix p hp }
theorem tok_kind (a b c : Int) (d : ByteArray) (e f : Bool) (w : World) : (Instr.field 48 (.agg #[.int .i64 a, .int .i64 b, .int .i64 c, .string d, .bool e, .bool f]) 0).run Tryz.prog w = .ok (.int .i64 a) w := by kernel_rfl
def ClOut (E : RdE) (u u' : World) (X : RdO) (e : Ending) : Prop :=
 BelE E u u' ∧ match X with
  | .bad a => e = gaveUp ∧ ∃ s' v', s'.at' = a ∧ RdAt u' E.rb v' E.ts s' E.B
  | .fin s' => ∃ x v', e = .returned (tvV x) ∧ RdAt u' E.rb v' E.ts s' E.B ∧ NRow u' E.rb v'.nv s'.names ∧ TermS u' (TyB u' 34) x s'.t
  | .on _ => False
theorem BelE.out {b : Nat} (h : BelE (E.with b) u u') : BelE E u u' := ⟨h.b, fun p hp => h.fix p (List.mem_cons_of_mem _ hp)⟩
set_option maxHeartbeats 16000000 in
theorem clause_any (h : RdInv E u v s []) (hvv : s.hv = false) (X : RdO) (hX : X = endF (opsOf E.es) E.ts (s.want 1200)) :
    Calls Tryz.prog 34 #[.pointer (some ⟨E.rb, 0, none⟩)] u fun e u' => ClOut E u u' X e := by
 obtain ⟨R, hR⟩ : ∃ R : Ending → World → Prop, R = fun e u' => ClOut E u u' X e := ⟨_, rfl⟩
 rw [← hR]
 have HRR := Lib.hid hR
 clear hR
 have hEE : BelE E u (u.alloc (.cells zC 34)) := h.belE ((Below.refl _ _).alloc (Nat.le_refl _) _)
 have HI0 := Lib.hid h.addFix
 have HE0 := Lib.hid hEE
 have HXX := Lib.hid hX
 have hEB : E.B ≤ u.heap.size := h.sizeB
 have HFXE : Hid (∀ p ∈ E.fix, p.1 < u.heap.size) := Lib.hid fun p hp => (h.fixW (L := []) nil_sub p hp).1
 have hEr : E.rb < u.heap.size := h.r.blk.lt
 obtain ⟨E', hE'⟩ : ∃ E', E' = E.with u.heap.size := ⟨_, rfl⟩
 rw [← hE'] at HI0
 have hrb : E'.rb = E.rb := by rw [hE']; rfl
 have hB : E'.B = E.B := by rw [hE']; rfl
 have hts : E'.ts = E.ts := by rw [hE']; rfl
 have hes : E'.es = E.es := by rw [hE']; rfl
 have hfx : (u.heap.size, zC, 34) ∈ E'.fix := by rw [hE']; exact List.mem_cons_self
 have HOUT : Hid (∀ w w', BelE E' w w' → BelE E w w') := Lib.hid (fun w w' hb => by rw [hE'] at hb; exact hb.out)
 have HFX := Lib.hid hfx
 have HE := Lib.hid hE'
 have HRB := Lib.hid (And.intro hrb (And.intro hB (And.intro hts hes)))
 clear h hEE hX hfx hE' hrb hB hts hes
 rw [← HRB.out.1]
 go_enter Tryz.func34, Tryz.ntmps34
 go_wp2_with fail
 refine (want_any _ E'.rb v E'.ts s E'.B HI0.out.r 1200).mono ?_
 rintro e w1 ⟨rfl, r1, hw1⟩
 have hF1 : Fr (· = E'.rb) (u.alloc (.cells zC 34)) w1 := by
  rw [hw1]
  exact ((Fr.refl (· = E'.rb) _).setCell (p := ⟨E'.rb, 5, none⟩) (.inl rfl) _).setCell (p := ⟨E'.rb, 6, none⟩) (.inl rfl) _
 have hI1 := HI0.out.same hF1 r1 rfl rfl rfl rfl rfl (by unfold leftF RdS.want; simp [hvv])
 have HI1 := Lib.hid hI1
 have HB1 : Hid (BelE E' (u.alloc (.cells zC 34)) w1) := Lib.hid (HI0.out.below nil_sub (fr_nil hF1))
 clear r1 hw1 hF1 hI1
 go_wp2_with fail
 go_loopg [] (leftF E'.ts (s.want 1200)) (fun g wr => ∃ v s fl, Hid (RdInv E' wr v s fl ∧ BelE E' (u.alloc (.cells zC 34)) wr ∧ X = endF (opsOf E'.es) E'.ts s ∧ leftF E'.ts s = g))
 case atStart => exact ⟨_, _, _, Lib.hid ⟨HI1.out, HB1.out, by rw [HXX.out, HRB.out.2.2.1, HRB.out.2.2.2], rfl⟩⟩
 case round =>
  obtain ⟨v1, s1, fl1, HH⟩ := hrel
  obtain ⟨hI, hB2, hx, hg⟩ := HH.out
  have HI2 := Lib.hid hI
  have HB2 := Lib.hid hB2
  have HX2 := Lib.hid hx
  have c6 : wr.cell? ⟨E'.rb, 6, none⟩ = some (.bool s1.hv) := hI.r.blk.cell (i := 6) rfl
  have hrl := hI.r.blk.lt
  clear HH hI hB2 hx HI1 HB1
  cases hv1 : s1.hv with
  | false =>
   rw [hv1] at c6
   go_wp2_with fail
   refine (primary_any HI2.out hv1).mono ?_
   rintro e w2 ho
   cases hp : primaryF (opsOf E'.es) E'.ts s1 with
   | error a =>
    rw [hp] at ho
    obtain ⟨hb, rfl, h2⟩ := ho
    have hXb : X = .bad a := HX2.out.trans (end_bad (by rw [round_prim hv1, hp]; rfl))
    refine ⟨rfl, ?_⟩
    rw [HRR.out, hXb]
    have hb3 := HE0.out.trans (HOUT.out _ _ (HB2.out.trans hb))
    rw [HE.out] at h2
    exact ⟨hb3, rfl, h2⟩
   | ok s' =>
    rw [hp] at ho
    obtain ⟨hb, rfl, v2, fl2, h2⟩ := ho
    have he := end_on (o := opsOf E'.es) (ts := E'.ts) (s := s1) (s' := s') (by rw [round_prim hv1, hp]; rfl)
    have HH2 := Lib.hid (And.intro h2 (And.intro (HB2.out.trans hb) (HX2.out.trans he.1)))
    have hlt := he.2
    clear hb h2 he
    go_wp2_with fail
    go_roundg (leftF E'.ts s')
    case measure => rw [← hg]; exact hlt
    case rel => exact ⟨v2, s', fl2, Lib.hid ⟨HH2.out.1, HH2.out.2.1, HH2.out.2.2, rfl⟩⟩
  | true =>
   rw [hv1] at c6
   go_wp2_with fail
   refine (operator_any HI2.out hv1).mono ?_
   rintro e w2 ho
   cases hop : operatorF (opsOf E'.es) E'.ts s1 with
   | some s' =>
    rw [hop] at ho
    obtain ⟨hb, rfl, v2, fl2, h2⟩ := ho
    have he := end_on (o := opsOf E'.es) (ts := E'.ts) (s := s1) (s' := s') (round_op hv1 hop)
    have HH2 := Lib.hid (And.intro h2 (And.intro (HB2.out.trans hb) (HX2.out.trans he.1)))
    have hlt := he.2
    clear hb h2 he
    go_wp2_with fail
    go_roundg (leftF E'.ts s')
    case measure => rw [← hg]; exact hlt
    case rel => exact ⟨v2, s', fl2, Lib.hid ⟨HH2.out.1, HH2.out.2.1, HH2.out.2.2, rfl⟩⟩
   | none =>
    rw [hop] at ho
    obtain ⟨hb, rfl, h2⟩ := ho
    have HB3 := Lib.hid (HB2.out.trans hb)
    have HI3 := Lib.hid h2
    obtain ⟨A4, cap4, hsh⟩ := h2.row.shape
    have c4 : w2.cell? ⟨E'.rb, 4, none⟩ = some (.slice A4 fl1.length cap4) := (h2.r.blk.cell (i := 4) rfl).trans (congrArg some hsh)
    have hrl2 := h2.r.blk.lt
    clear hb h2 hsh c6
    rcases List.eq_nil_or_concat fl1 with rfl | ⟨fl2, fv, rfl⟩
    ·have hw : s1.wait = [] := by
      have := HI3.out.tie.len
      rw [List.reverse_nil, List.length_nil] at this
      exact List.eq_nil_of_length_eq_zero this.symm
     have hrend := round_end (o := opsOf E'.es) (ts := E'.ts) hv1 hop hw
     have HRE := Lib.hid hrend
     clear hrend hw
     go_wp2_with fail
     refine (peek_any w2 E'.rb v1 E'.ts s1 E'.B HI3.out.r 0 (by omega)).mono ?_
     rintro e w3 ⟨rfl, hb3⟩
     rw [show s1.at' + 0 = s1.at' from rfl]
     obtain ⟨p1, hp1⟩ : ∃ p, p = peekF E'.ts s1.at' := ⟨_, rfl⟩
     rw [← hp1]
     simp only [tokW]
     have hK := tok_kind p1.kind p1.line p1.n ⟨p1.s.toArray⟩ p1.opn p1.tight w3
     have HB4 := Lib.hid (HB3.out.trans (HI3.out.belE hb3))
     have HI4 := Lib.hid (HI3.out.later hb3)
     clear hb3
     by_cases h7 : p1.kind = 7
     ·have hXf : X = .fin s1 := HX2.out.trans (end_fin (by rw [HRE.out, ← hp1, if_neg (by rw [h7]; decide)]))
      have HXF := Lib.hid hXf
      rw [h7] at hK
      rw [h7]
      have d7 : w3.cell? ⟨E'.rb, 7, none⟩ = some (.int .i64 v1.x.k) := HI4.out.r.blk.cell (i := 7) rfl
      have d8 : w3.cell? ⟨E'.rb, 8, none⟩ = some (.int .i64 v1.x.n) := HI4.out.r.blk.cell (i := 8) rfl
      have d9 : w3.cell? ⟨E'.rb, 9, none⟩ = some (.string ⟨v1.x.s.toArray⟩) := HI4.out.r.blk.cell (i := 9) rfl
      have d10 : w3.cell? ⟨E'.rb, 10, none⟩ = some (.slice v1.x.A v1.x.len v1.x.cap) := HI4.out.r.blk.cell (i := 10) rfl
      have hrl3 := HI4.out.r.blk.lt
      have hz := (HI4.out.fix _ HFX.out).1
      unfold zC at hz
      simp only at hz
      obtain ⟨z0, z1, z2, z3, zf⟩ := four_at hz
      have hzl := (Array.getElem?_eq_some_iff.1 hz).1
      clear hXf hp1 c4 hz
      go_wp2_with fail
      have hk4 := fun k (hk : k ≠ u.heap.size) => blk_set4_ne (w := w3) (.int .i64 v1.x.k) (.int .i64 v1.x.n) (.string ⟨v1.x.s.toArray⟩) (.slice v1.x.A v1.x.len v1.x.cap) hk
      refine bodyPost_ret (v := .agg #[.int .i64 v1.x.k, .int .i64 v1.x.n, .string ⟨v1.x.s.toArray⟩, .slice v1.x.A v1.x.len v1.x.cap]) (by simp [results, Tryz.results34, go_sem, z0, z1, z2, z3]) rfl ?_
      rw [HRR.out, HXF.out]
      have hbz := HE0.out.trans (HOUT.out _ _ HB4.out)
      refine ⟨⟨?_, ?_⟩, v1.x, v1, rfl, ?_, ?_, ?_⟩
      ·exact (((hbz.b.setCell (p := ⟨u.heap.size, 0, none⟩) hEB _).setCell (p := ⟨u.heap.size, 1, none⟩) hEB _).setCell (p := ⟨u.heap.size, 2, none⟩) hEB _).setCell (p := ⟨u.heap.size, 3, none⟩) hEB _
      ·intro p hp
       have hlt : p.1 < u.heap.size := by
        have h1 := HFXE.out p hp
        exact h1
       rw [hk4 _ (by omega)]
       exact hbz.fix p hp
      ·have h5 := HI4.out.r.keep (hk4 E'.rb (by rw [HRB.out.1]; omega)) fun k hk => hk4 k (by rw [HRB.out.2.1] at hk; omega)
       rw [HE.out] at h5
       exact h5
      ·have h5 : NRow _ E'.rb v1.nv s1.names := Row.keep HI4.out.nm fun k hk => hk4 k ((HI4.out.nm.ty hk).ne ⟨_, (HI4.out.fix _ HFX.out).1⟩ (show (54 : TypeId) ≠ 34 by decide))
       rw [HE.out] at h5
       exact h5
      ·have h6 : TermS ((((w3.setCell ⟨u.heap.size, 0, none⟩ (.int .i64 v1.x.k)).setCell ⟨u.heap.size, 1, none⟩ (.int .i64 v1.x.n)).setCell ⟨u.heap.size, 2, none⟩ (.string ⟨v1.x.s.toArray⟩)).setCell ⟨u.heap.size, 3, none⟩ (.slice v1.x.A v1.x.len v1.x.cap)) (SOf w3 (opE E' [])) v1.x s1.t := HI4.out.x.keep (fun b hb => hb) fun b hb => hk4 b fun e => hb.2 (by
        rw [e]
        exact List.mem_append_right _ (List.mem_map.2 ⟨_, HFX.out, rfl⟩))
       exact h6.keep (fun b hb => hb.1.keep (hk4 b fun e => hb.2 (by
        rw [e]
        exact List.mem_append_right _ (List.mem_map.2 ⟨_, HFX.out, rfl⟩)))) fun _ _ => rfl
     ·have hXb : X = .bad s1.at' := HX2.out.trans (end_bad (by rw [HRE.out, ← hp1, if_pos h7]))
      have HXB := Lib.hid hXb
      clear hXb hp1 c4
      go_wp2_with fail
      refine (fail_any _ _).mono ?_
      rintro e w4 ⟨rfl, hb4⟩
      have h5 := HI4.out.r.later hb4
      rw [HE.out] at h5
      refine ⟨rfl, ?_⟩
      rw [HRR.out, HXB.out]
      exact ⟨HE0.out.trans (HOUT.out _ _ (HB4.out.trans (HI4.out.belE hb4))), rfl, s1, v1, rfl, h5⟩
    ·rw [List.concat_eq_append] at c4 HI3
     rw [List.length_append, List.length_cons, List.length_nil] at c4
     obtain ⟨f1, r1, hw⟩ : ∃ f r, s1.wait = f :: r := by
      have := HI3.out.tie.len
      rw [List.length_reverse, List.length_append, List.length_cons] at this
      cases hw : s1.wait with
      | nil => rw [hw] at this; simp at this
      | cons f r => exact ⟨f, r, rfl⟩
     have hl0 : (0 : Int) < (fl2.length : Int) + 1 := by omega
     have HW := Lib.hid hw
     clear hw
     go_wp2_with fail
     refine (back_any HI3.out hv1 HW.out).mono ?_
     rintro e w3 ho
     cases hb : backF E'.ts s1 f1 r1 with
     | error a =>
      rw [hb] at ho
      obtain ⟨hb3, rfl, h2⟩ := ho
      have hXb : X = .bad a := HX2.out.trans (end_bad (by rw [round_back hv1 hop HW.out, hb]; rfl))
      refine ⟨rfl, ?_⟩
      rw [HRR.out, hXb]
      have hb4 := HE0.out.trans (HOUT.out _ _ (HB3.out.trans hb3))
      rw [HE.out] at h2
      exact ⟨hb4, rfl, h2⟩
     | ok s' =>
      rw [hb] at ho
      obtain ⟨hb3, rfl, v2, fl3, h2⟩ := ho
      have he := end_on (o := opsOf E'.es) (ts := E'.ts) (s := s1) (s' := s') (by rw [round_back hv1 hop HW.out, hb]; rfl)
      have HH2 := Lib.hid (And.intro h2 (And.intro (HB3.out.trans hb3) (HX2.out.trans he.1)))
      have hlt := he.2
      clear hb3 h2 he
      go_wp2_with fail
      go_roundg (leftF E'.ts s')
      case measure => rw [← hg]; exact hlt
      case rel => exact ⟨v2, s', fl3, Lib.hid ⟨HH2.out.1, HH2.out.2.1, HH2.out.2.2, rfl⟩⟩
end
end Go.Proofs.YtiffopheamnngaaGreatDoor
namespace Go.Proofs.YtiffopheamnngaaGreatDoor
open Go.RowKit Go.Maps
set_option maxRecDepth 100000
def ins (b rb : Nat) (k : Int) (n : Nat) (w w' : World) : Prop :=
 (Instr.mapUpdate 69 (.map (some b)) (.int .i64 k) (.func (.func n) #[.pointer (some ⟨rb, 0, none⟩)] #[])).run Tryz.prog w = .ok () w'
theorem beg_step {w : World} {b rb : Nat} {l : List (Int × Nat)} (h : MapAt w b evI (evF rb) l) (hok : ∀ x ∈ l, okI x.1) (k : Int) (hk : okI k) (n : Nat) :
    ∃ w', ins b rb k n w w' ∧ MapAt w' b evI (evF rb) (mput l k n) ∧ Fr (· = b) w w' ∧ w'.heap.size = w.heap.size := by
 obtain ⟨w', h1, h2, h3, h4⟩ := MapAt.update (P := Tryz.prog) (t := 69) intKE Tryz.underlying69 h hok hk n
 exact ⟨w', h1, h2, (Fr.refl _ _).grown h3 fun g hg => .inl (by cases hg; rfl), h4⟩
theorem beg_fill {w : World} {b rb : Nat} (h : MapAt w b evI (evF rb) ([] : List (Int × Nat))) :
    ∃ w1 w2 w3 w4 w5 w6, ins b rb 3 27 w w1 ∧ ins b rb 4 28 w1 w2 ∧ ins b rb 5 29 w2 w3 ∧ ins b rb 6 30 w3 w4 ∧ ins b rb 1 31 w4 w5 ∧ ins b rb 2 31 w5 w6 ∧
     MapAt w6 b evI (evF rb) begL ∧ Fr (· = b) w w1 ∧ Fr (· = b) w w2 ∧ Fr (· = b) w w3 ∧ Fr (· = b) w w4 ∧ Fr (· = b) w w5 ∧ Fr (· = b) w w6 ∧ w6.heap.size = w.heap.size := by
 have ok : ∀ k : Int, 0 ≤ k → k ≤ 10 → okI k := fun k h1 h2 => ⟨by omega, by omega⟩
 obtain ⟨w1, a1, m1, f1, s1⟩ := beg_step h (fun x hx => by cases hx) 3 (ok 3 (by omega) (by omega)) 27
 obtain ⟨w2, a2, m2, f2, s2⟩ := beg_step m1 (by intro x hx; simp [mput, mget] at hx; subst hx; exact ok _ (by simp) (by simp)) 4 (ok 4 (by omega) (by omega)) 28
 obtain ⟨w3, a3, m3, f3, s3⟩ := beg_step m2 (by intro x hx; simp [mput, mget] at hx; rcases hx with rfl | rfl <;> exact ok _ (by simp) (by simp)) 5 (ok 5 (by omega) (by omega)) 29
 obtain ⟨w4, a4, m4, f4, s4⟩ := beg_step m3 (by intro x hx; simp [mput, mget] at hx; rcases hx with rfl | rfl | rfl <;> exact ok _ (by simp) (by simp)) 6 (ok 6 (by omega) (by omega)) 30
 obtain ⟨w5, a5, m5, f5, s5⟩ := beg_step m4 (by intro x hx; simp [mput, mget] at hx; rcases hx with rfl | rfl | rfl | rfl <;> exact ok _ (by simp) (by simp)) 1 (ok 1 (by omega) (by omega)) 31
 obtain ⟨w6, a6, m6, f6, s6⟩ := beg_step m5 (by intro x hx; simp [mput, mget] at hx; rcases hx with rfl | rfl | rfl | rfl | rfl <;> exact ok _ (by simp) (by simp)) 2 (ok 2 (by omega) (by omega)) 31
 have g2 := f1.trans f2
 have g3 := g2.trans f3
 have g4 := g3.trans f4
 have g5 := g4.trans f5
 refine ⟨w1, w2, w3, w4, w5, w6, a1, a2, a3, a4, a5, a6, ?_, f1, g2, g3, g4, g5, g5.trans f6, by omega⟩
 have e : mput (mput (mput (mput (mput (mput ([] : List (Int × Nat)) 3 27) 4 28) 5 29) 6 30) 1 31) 2 31 = begL := by decide
 rw [← e]
 exact m6
end Go.Proofs.YtiffopheamnngaaGreatDoor
