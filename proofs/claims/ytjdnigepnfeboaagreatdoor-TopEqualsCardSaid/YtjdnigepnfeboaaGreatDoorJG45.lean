import Derived.Test.YtjdnigepnfeboaaGreatDoorJG41
import Derived.Test.YtjdnigepnfeboaaGreatDoorJG42
import Derived.Test.YtjdnigepnfeboaaGreatDoorJG44
namespace Go.Proofs.YtjdnigepnfeboaaGreatDoor
open Go.RowKit Go.Maps
set_option maxRecDepth 100000
variable [Base]
set_option linter.unusedSectionVars false
abbrev cs0 : List Sc := [ppS 1, pvS]
def evs1 : List (Int × List UInt8) := [] ++ [(1, ansB 1)]
def evs2 : List (Int × List UInt8) := evs1 ++ [(1, ansB 2)]
def evs3 : List (Int × List UInt8) := evs2 ++ [(2, [])]
def AskW (w0 : World) (mb db ob : Nat) (v : Value) (w : World) : Prop :=
 ∃ (B : Nat) (spent : Int), Row w B 45 2 encV v evs3 ∧ MachAt w mb db ob spent [] ∧ TF tyA w0 w
section
variable (Bd db dmb pb : Nat) (Ad : Option Addr) (cd : Nat) (cls : List ClV) (ver : Int) (ov : Value) (An : Option Addr) (rb mb ob : Nat) (w0 : World)
structure AwB (vb : Nat) (w : World) (r : RC) (l : List (Int × List UInt8)) (spent : Int) : Prop where
 run : RunSt w rb r l db ob spent []
 vars : ∃ m, M6 w vb m ∧ mget m 0 = some 1
 db' : DbP Bd db dmb pb Ad cd cls ver ov w
 nm : NamesAt w An [([88], 0)]
 tf : TF tyA w0 w
def AwS (r : RC) (n : Nat) (o : Int) (w : World) : Prop :=
 (n = 5 ∧ o = 0 ∧ ∃ fb, AwB Bd db dmb pb Ad cd cls ver ov An rb ob w0 r.vb w { r with fr := .pointer (some ⟨fb, 0, none⟩) } [] 0 ∧ FrameAt w fb ((0 : Nat) : Int) 0 ∧ BltAt w r.bb rb ∧ ∃ cv bv xs, StAt r.sb 40000 w cv bv xs cs0 []) ∨
 (n = 4 ∧ o = 0 ∧ ∃ hb Bn A c nv ch, AwB Bd db dmb pb Ad cd cls ver ov An rb ob w0 r.vb w { r with fr := .pointer none, loose := 0, ch := ch } [] 1 ∧ ChRow w rb ch [hb] ∧ ChAt Bn w hb A c nv 1 ∧ ∃ cv bv xs tp, StAt r.sb 40000 w cv bv xs (boundC cs0 1) [(1, tp)]) ∨
 (n = 3 ∧ o = 1 ∧ ∃ hb Bn A c nv ch v, AwB Bd db dmb pb Ad cd cls ver ov An rb ob w0 r.vb w { r with fr := .pointer none, loose := 0, ch := ch, ev := v, ans := 1 } evs1 1 ∧ ChRow w rb ch [hb] ∧ ChAt Bn w hb A c nv 1 ∧ ∃ cv bv xs tp, StAt r.sb 40000 w cv bv xs (boundC cs0 1) [(1, tp)]) ∨
 (n = 2 ∧ o = 0 ∧ ∃ C c v, AwB Bd db dmb pb Ad cd cls ver ov An rb ob w0 r.vb w { r with fr := .pointer none, loose := 0, ch := .slice C 0 c, ev := v, ans := 1 } evs1 1 ∧ ∃ cv bv xs tp, StAt r.sb 40000 w cv bv xs (boundC (moreC cs0 1) 2) [(1, tp)]) ∨
 (n = 1 ∧ o = 1 ∧ ∃ C c v, AwB Bd db dmb pb Ad cd cls ver ov An rb ob w0 r.vb w { r with fr := .pointer none, loose := 0, ch := .slice C 0 c, ev := v, ans := 2 } evs2 1) ∨
 (n = 0 ∧ o = 3 ∧ ∃ r', RunAt w rb r' ∧ AskW w0 mb db ob r'.ev w)
end
section
variable {Bd db dmb pb : Nat} {Ad : Option Addr} {cd : Nat} {cls : List ClV} {ver : Int} {ov : Value} {An : Option Addr} {rb mb ob vb : Nat} {w0 w w' : World} {r r' : RC} {l l' : List (Int × List UInt8)} {spent spent' : Int}
theorem AwB.next (h : AwB Bd db dmb pb Ad cd cls ver ov An rb ob w0 vb w r l spent) (hR : RunSt w' rb r' l' db ob spent' []) (hf : TF tyA w w') : AwB Bd db dmb pb Ad cd cls ver ov An rb ob w0 vb w' r' l' spent' := by
 obtain ⟨m, hm, hg⟩ := h.vars
 exact ⟨hR, ⟨m, ⟨hf.map hm.map, hm.ok⟩, hg⟩, h.db'.tf hf (by decide), h.nm.keep fun b hb => hf.block hb (by decide), h.tf.trans hf⟩
set_option maxHeartbeats 4000000 in
theorem ask_all {W : World} {cn : Nat} {X : TV} (hN : RunNew W rb mb db ob (.slice An 1 cn) 5 r) (hb : Below w0.heap.size w0 W) (hvb : w0.heap.size ≤ r.vb) (hX : TermS W (TyB W 27) X askG) (hD : DbP Bd db dmb pb Ad cd cls ver ov W) (hNm : NamesAt W An [([88], 0)]) (hdm : dmb < w0.heap.size) :
    Calls Tryz.prog 34 #[.pointer (some ⟨rb, 0, none⟩), tvV X] W fun e w' => e = .returned (.tuple #[]) ∧ ∃ r', RunAt w' rb r' ∧ AskW w0 mb db ob r'.ev w' := by
 obtain ⟨eX1, eX2, eX3⟩ : X.k = 4 ∧ X.s = [112] ∧ X.len = 1 := by
  generalize hg : askG = G at hX
  cases hX with
  | mk _ args xs h1 h2 h3 _ _ =>
   injection hg with q1 q2 q3 q4
   exact ⟨q1.symm, q3.symm, by rw [← h2, ← q4]; rfl⟩
 have hmb := hN.mb
 refine (all_any W rb X (AwS Bd db dmb pb Ad cd cls ver ov An rb mb ob w0 r) (fun w => ∃ r', RunAt w rb r' ∧ AskW w0 mb db ob r'.ev w) (fun n o w h => ?_) (fun W' hW' => ?_) (fun n w h => ?_) (fun n w h => ?_)).mono fun e w' h => h
 ·rcases h with ⟨-, rfl, -⟩ | ⟨-, rfl, -⟩ | ⟨-, rfl, -⟩ | ⟨-, rfl, -⟩ | ⟨-, rfl, -⟩ | ⟨-, rfl, h⟩
  ·exact .inl rfl
  ·exact .inl rfl
  ·exact .inr (.inl rfl)
  ·exact .inl rfl
  ·exact .inr (.inl rfl)
  ·exact .inr (.inr ⟨rfl, h⟩)
 ·refine (query_any W' rb 40000 r [] db ob 0 [] _ _ [] [] [] X askG (hN.st.later hW') (hN.store.later hW') (hN.vars.later hW') (hX.keep (fun b hb => hb.keep (hW'.block b hb.lt)) fun b hb => hW'.block b hb.lt) rfl (by simp [askG, varT, vrT, vrL, ok6]) (by simp [askG, varT, Tm.size, Tm.sizes]) (by simp [askG, varT, Tm.size, Tm.sizes]) (by rw [eX2]; decide) (by rw [eX3]; decide) (.inr eX1) (by rw [eX1, eX2, eX3]; decide +kernel)).mono ?_
  rintro e w ⟨rfl, fb, cv, bv, xs, g1, g2, g3, ⟨m, g4, g4'⟩, g5⟩
  rw [show putT askG ⟨[], []⟩ = (0, ⟨cs0, [(0, 1)]⟩) from put_goal] at g2 g3 g4'
  have hT : TF tyA w0 w := tf_vars (TF.of_below tyA (hb.trans (hW'.mono hb.size))) hvb g5 (by decide)
  have hne : ∀ k, (k = r.vb ∨ TyIn (112 :: stP) W' k) → k ≠ r.bb := fun k hk => by
   rcases hk with rfl | hk
   ·exact hN.apart
   ·exact (hN.blt.later hW').ty hk
  refine ⟨5, 0, rfl, .inl ⟨rfl, rfl, fb, ⟨g1, ⟨m, g4, by rw [g4']; rfl⟩, ?_, ?_, hT⟩, g2, (hN.blt.later hW').fr g5 hne, cv, bv, xs, g3⟩⟩
  ·refine (hD.later hW').keep (fun t k ht hk => g5.block k hk.lt fun e => ?_) (g5.block _ (hD.later hW').at'.map.lt fun e => ?_)
   ·rcases e with rfl | ⟨-, t', h1, h2⟩
    ·exact (hN.vars.later hW').map.ne hk rfl
    ·exact (by decide : ∀ t ∈ dbTypes, t ∉ 112 :: stP) t ht (hk.same h2 ▸ h1)
   ·rcases e with e | ⟨-, t', -, h2⟩
    ·omega
    ·exact (hD.later hW').at'.map.ne h2 rfl
  ·refine (hNm.later hW').keep fun b hb => g5.block b hb.lt fun e => ?_
   rcases e with rfl | ⟨-, t', h1, h2⟩
   ·exact (hN.vars.later hW').map.ne hb rfl
   ·exact absurd (hb.same h2 ▸ h1) (by decide)
 ·rcases h with ⟨rfl, -, fb, g1, g2, g3, cv, bv, xs, g4⟩ | ⟨rfl, -, hb', Bn, A, c, nv, ch, g1, g2, g3, cv, bv, xs, tp, g4⟩ | ⟨-, h, -⟩ | ⟨rfl, -, C, c, v, g1, cv, bv, xs, tp, g4⟩ | ⟨-, h, -⟩ | ⟨-, h, -⟩
  ·refine next_goal w rb 40000 fb 0 0 _ [] db ob 0 [] cv bv xs _ [] (ppS 1) 1 _ g1.run g4 rfl g2 (.here rfl rfl) rfl rfl rfl ⟨by omega, by omega⟩ (by decide +kernel) (by decide) ⟨by omega, by omega⟩ (fun e w ⟨_, o, _, h, _⟩ => ⟨o, h⟩) fun v A c' k1 k2 k3 k4 => ?_
   have hT : TF tyA w v := k4.mono (by decide)
   have hB : BltAt v r.bb rb := g3.fr k4.fr fun k hk => g3.ty hk
   have hA := g1.next k1 hT
   refine (step_p v rb fb { r with fr := .pointer none, loose := 0 } cv bv xs A c' k1 rfl hN.ch k2 hB hA.db' k3 ((k4.block (t := 226) ⟨_, g2⟩ (by decide)).trans g2)).mono ?_
   rintro e u' ⟨rfl, hb', Bn, nv, ch, j1, j2, j3, j4, j5⟩
   exact ⟨4, 0, by omega, rfl, .inr (.inl ⟨rfl, rfl, hb', Bn, A, c', nv, ch, hA.next j1 (j5.mono (by decide)), j2, j3, j4⟩)⟩
  ·obtain ⟨m, hm1, hm2⟩ := g1.vars
   refine (next_nil w rb _ g1.run.run rfl (fun e w' => ∃ m o, m < 4 ∧ e = .returned (.int .i64 o) ∧ AwS Bd db dmb pb Ad cd cls ver ov An rb mb ob w0 r m o w') (fun e w ⟨_, o, _, h, _⟩ => ⟨o, h⟩) ((answer_x (.inl rfl) g1.run hN.nm g1.nm hm1 hm2 g4 PCs.first (.inl hN.ans) hN.most (by simp)).mono ?_)).mono fun e w' h => h
   rintro e u' ⟨rfl, v, j1, j2⟩
   have hT : TF tyA w u' := j2.mono (by decide)
   have j1' := j1
   rw [show ({ r with fr := .pointer none, loose := 0, ch := ch } : RC).ans = 0 from hN.ans] at j1'
   exact ⟨3, 1, by omega, rfl, .inr (.inr (.inl ⟨rfl, rfl, hb', Bn, A, c, nv, ch, v, g1.next j1' hT, j2.row g2 (by decide), g3.tf j2 (by decide) (by decide), cv, bv, xs, tp, g4.tf j2 (by decide)⟩))⟩
  ·cases h
  ·obtain ⟨m, hm1, hm2⟩ := g1.vars
   refine (next_nil w rb _ g1.run.run rfl (fun e w' => ∃ m o, m < 2 ∧ e = .returned (.int .i64 o) ∧ AwS Bd db dmb pb Ad cd cls ver ov An rb mb ob w0 r m o w') (fun e w ⟨_, o, _, h, _⟩ => ⟨o, h⟩) ((answer_x (.inr rfl) g1.run hN.nm g1.nm hm1 hm2 g4 PCs.first.more (.inr rfl) hN.most (by simp [evs1])).mono ?_)).mono fun e w' h => h
   rintro e u' ⟨rfl, v, j1, j2⟩
   exact ⟨1, 1, by omega, rfl, .inr (.inr (.inr (.inr (.inl ⟨rfl, rfl, C, c, v, g1.next j1 (j2.mono (by decide))⟩))))⟩
  ·cases h
  ·cases h
 ·rcases h with ⟨-, h, -⟩ | ⟨-, h, -⟩ | ⟨rfl, -, hb', Bn, A, c, nv, ch, v, g1, g2, g3, cv, bv, xs, tp, g4⟩ | ⟨-, h, -⟩ | ⟨rfl, -, C, c, v, g1⟩ | ⟨-, h, -⟩
  ·cases h
  ·cases h
  ·refine (back_p w rb _ cv bv xs cs0 g1.run g2 g4 PCs.first (by decide) g1.db' g3).mono ?_
   rintro e u' ⟨rfl, ⟨C, c, j1⟩, j2, j3⟩
   exact ⟨2, 0, by omega, rfl, .inr (.inr (.inr (.inl ⟨rfl, rfl, C, c, v, g1.next j1 (j3.mono (by decide)), j2⟩)))⟩
  ·cases h
  ·refine (back_none w rb _ evs2 db ob 1 [] C c g1.run rfl (by simp [evs2, evs1])).mono ?_
   rintro e u' ⟨rfl, v', j1, j2⟩
   exact ⟨0, 3, by omega, rfl, .inr (.inr (.inr (.inr (.inr ⟨rfl, rfl, _, j1.run, rb + 1, 1, j1.ev, by rw [← hmb]; exact j1.mach, g1.tf.trans (j2.mono (by decide))⟩))))⟩
  ·cases h
end
end Go.Proofs.YtjdnigepnfeboaaGreatDoor
namespace Go.Proofs.YtjdnigepnfeboaaGreatDoor
open Go.RowKit Go.Maps
set_option maxRecDepth 100000
variable [Base]
set_option linter.unusedSectionVars false
def AwkQ (v : Value) (over : List UInt8) (w : World) : Prop := over = [] ∧ ∃ B, Row w B 45 2 encV v evs3
theorem awake_ans (w : World) (hE : EnvB w) (x : TV) (A : Option Addr) (c : Nat) (hx : TermS w (TyB w 27) x askG) (hn : NamesAt w A [([88], 0)]) :
    Calls Tryz.prog 8 #[.string ⟨#[112, 40, 49, 41, 46, 32, 112, 40, 50, 41, 46]⟩, tvV x, .slice A 1 c, .int .i64 5] w fun e w' => ∃ A2 c2, e = .returned (.tuple #[.slice A2 3 c2, .bool false]) ∧ EvSl w' A2 evs3 ∧ TF tyA w w' := by
 refine (answers_any w hE twoT 2 (.inr (.inr rfl)) (by rw [two_lex]; exact ld_two) x A 1 c 5 AwkQ (fun v over u u' ⟨h1, B, h2⟩ hb => ⟨h1, B, h2.later hb⟩) fun w0 W mb db dmb ob hW hmb hM hL => ?_).mono ?_
 ·obtain ⟨pb, Ad, cd, cls, ver, ov, hD⟩ := hL.two
  refine (Run_any W mb db ob x askG A c [([88], 0)] 5 (AskW W mb db ob) hM (hx.keep (fun b hb => hb.keep (hW.block b hb.lt)) fun b hb => hW.block b hb.lt) rfl (by simp [askG, varT, Tm.size, Tm.sizes]) (hn.later hW) (by decide) (by decide) hmb fun W2 rb r h1 h2 h3 h4 => ?_).mono ?_
  ·exact ask_all h4 h1 h3 (hx.keep (fun b hb => hb.keep ((hW.trans (h1.mono hW.size)).block b hb.lt)) fun b hb => (hW.trans (h1.mono hW.size)).block b hb.lt) (hD.later h1) ((hn.later hW).later h1) hD.at'.map.lt
  ·rintro e w' ⟨v, rfl, B, spent, j1, j2, j3⟩
   exact ⟨v, spent, [], rfl, j2, j3, rfl, B, j1⟩
 ·rintro e w' ⟨v, over, rfl, ⟨rfl, B, h1⟩, h2⟩
  obtain ⟨A2, c2, rfl⟩ := h1.shape
  exact ⟨A2, c2, rfl, EvSl.row h1, h2⟩
omit [Base] in
theorem names_row {u : World} {B n c : Nat} {A : Option Addr} {l : List (List UInt8 × Int)} (h : Row u B 99 2 encB (.slice A n c) l) (hp : ∀ x ∈ l, 0 ≤ x.2) : NamesAt u A l := fun q x hq => by
 obtain ⟨g, cap, e1, -, -, -, hc⟩ := h.cells (enc := encB) (fun _ => rfl) (show l ≠ [] by rintro rfl; cases hq)
 have ht : TyB u 99 g := h.ty (by rw [e1]; rfl)
 injection e1 with e1
 refine ⟨hp x (List.mem_of_getElem? hq), g, 0, e1, ht, ?_, ?_⟩
 ·rw [Nat.zero_add]; exact (hc q x hq 0 _ rfl).1
 ·rw [Nat.zero_add]; exact (hc q x hq 1 _ rfl).1
def wantC : Array Value := #[.int .i64 1, .string ⟨#[88, 32, 61, 32, 49]⟩, .int .i64 1, .string ⟨#[88, 32, 61, 32, 50]⟩, .int .i64 2, .string ⟨#[]⟩]
omit [Base] in
theorem want_sl {w : World} {g : Nat} (h : w.heap[g]? = some (.cells wantC 45 (0, 0))) : EvSl w (some ⟨g, 0, none⟩) evs3 := fun q x hq => by
 have hc := fun k => cell_of_row w g k _ _ _ h
 match q, hq with
 | 0, hq => injection hq with hq; subst hq; exact ⟨g, 0, rfl, (hc 0).trans rfl, (hc 1).trans rfl⟩
 | 1, hq => injection hq with hq; subst hq; exact ⟨g, 0, rfl, (hc 2).trans rfl, (hc 3).trans rfl⟩
 | 2, hq => injection hq with hq; subst hq; exact ⟨g, 0, rfl, (hc 4).trans rfl, (hc 5).trans rfl⟩
set_option maxHeartbeats 4000000 in
theorem awake_any (w : World) (hE : EnvB w) : Calls Tryz.prog 4 #[] w fun e u => e = .returned (.bool true) ∧ Below Base.b w u := by
 have HE := Lib.hid hE
 clear hE
 go_enter Tryz.func4, Tryz.ntmps4
 go_wp2_with fail
 refine (parse_ask w HE.out.env).mono ?_
 rintro e w1 ⟨x, nv, B, line, next, rfl, hx, hnv, hb1⟩
 obtain ⟨Av, cv, rfl⟩ := hnv.shape
 obtain ⟨k1, n1, s1, A1, l1, c1⟩ := x
 dsimp only [clV]
 replace hnv : Row w1 B 99 2 encB (.slice Av 1 cv) [([88], 0)] := hnv
 rw [show [(([88] : List UInt8), (0 : Int))].length = 1 from rfl]
 obtain ⟨W, hW⟩ : ∃ W, W = w1.alloc (.cells #[.int .i64 k1, .int .i64 n1, .string ⟨s1.toArray⟩, .slice A1 l1 c1, .slice Av 1 cv, .int .i64 line, .int .i64 next] 40) := ⟨_, rfl⟩
 have hbW : Below w1.heap.size w1 W := by rw [hW]; exact (Below.refl _ _).alloc (Nat.le_refl _) _
 have hz : W.heap[w1.heap.size]? = some (.cells #[.int .i64 k1, .int .i64 n1, .string ⟨s1.toArray⟩, .slice A1 l1 c1, .slice Av 1 cv, .int .i64 line, .int .i64 next] 40 (0, 0)) := by rw [hW]; exact heap_alloc_new _ _
 obtain ⟨y0, y1, y2, y3, y4, -, -, -⟩ := seven_at hz
 have hbwW : Below w.heap.size w W := hb1.trans (hbW.mono hb1.size)
 have HA := Lib.hid (awake_ans W (HE.out.later hbwW) ⟨k1, n1, s1, A1, l1, c1⟩ Av cv (hx.keep (fun b hb => hb.keep (hbW.block b hb.lt)) fun b hb => hbW.block b hb.lt) ((names_row hnv (by simp)).later hbW))
 unfold tvV at HA
 have HB := Lib.hid hbwW
 clear hx hnv hb1 hbW hz hbwW
 go_upto_region 2 with fail
 rw [← hW]
 clear hW
 go_wp2_with fail
 refine HA.out.mono ?_
 rintro e w3 ⟨A2, c2, rfl, h3, h4⟩
 obtain ⟨U, hU⟩ : ∃ U, U = w3.alloc (.cells wantC 45) := ⟨_, rfl⟩
 have hbU : Below w3.heap.size w3 U := by rw [hU]; exact (Below.refl _ _).alloc (Nat.le_refl _) _
 have hzU : U.heap[w3.heap.size]? = some (.cells wantC 45 (0, 0)) := by rw [hU]; exact heap_alloc_new _ _
 have HS := Lib.hid (same_ev U A2 (some ⟨w3.heap.size, 0, none⟩) 3 c2 3 evs3 (fun q x hq => by
  obtain ⟨g, off, e1, k1, k2⟩ := h3 q x hq
  exact ⟨g, off, e1, (hbU.cell (p := ⟨g, off + q * 2, none⟩) (World.block_lt_of_cell? w3 _ k1)).trans k1, (hbU.cell (p := ⟨g, off + q * 2 + 1, none⟩) (World.block_lt_of_cell? w3 _ k2)).trans k2⟩) (want_sl hzU) rfl (by decide))
 have HL : Hid (Below Base.b w U) := Lib.hid ((HB.out.mono HE.out.le).trans ((h4.low (Nat.le_trans HE.out.le HB.out.size) (Nat.le_refl _)).trans (hbU.mono (Nat.le_trans HE.out.le (Nat.le_trans HB.out.size h4.size)))))
 have HM : Hid (Base.b ≤ U.heap.size) := Lib.hid (Nat.le_trans HE.out.le (Nat.le_trans HB.out.size (Nat.le_trans h4.size hbU.size)))
 clear h3 h4 hbU hzU HA HB y0 y1 y2 y3 y4
 unfold wantC at hU
 go_wp2_with fail
 rw [← hU]
 refine HS.out.mono ?_
 rintro e w4 ⟨rfl, hb4⟩
 have HQ : Hid (Below Base.b w w4) := Lib.hid (HL.out.trans (hb4.mono HM.out))
 clear hb4 HS hU
 go_wp2_with fail
 go_ret
 exact ⟨rfl, HQ.out⟩
end Go.Proofs.YtjdnigepnfeboaaGreatDoor
namespace Go.Proofs.YtjdnigepnfeboaaGreatDoor
open Go.RowKit Go.Maps
set_option maxRecDepth 100000
theorem top_any (w : World) (A0 : Option Addr) (n0 c0 : Nat) (hp0 : PartsIn w A0 n0 c0) (A1 : Option Addr) (n1 c1 : Nat) (hp1 : PartsIn w A1 n1 c1) (hE : RdEnv w) :
    Calls Tryz.prog 3 #[.slice A0 n0 c0, .slice A1 n1 c1] w fun e w' => e = .returned (.bool true) ∧ Below w.heap.size w w' := by
 letI : Base := ⟨w.heap.size⟩
 have hB : EnvB w := by
  obtain ⟨m, hm⟩ := hE.max
  exact ⟨hE, hE.kinds.lt, tabIs_lt hE.tab, World.block_lt_of_cell? w _ hm, Nat.le_refl _⟩
 exact top_law w hB A0 n0 c0 hp0 A1 n1 c1 hp1 rfl (awake_any w hB)
end Go.Proofs.YtjdnigepnfeboaaGreatDoor
