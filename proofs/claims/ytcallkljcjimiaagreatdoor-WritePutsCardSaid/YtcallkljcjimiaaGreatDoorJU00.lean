import Derived.Test.YtcallkljcjimiaaGreatDoorJW35
namespace Go.Proofs.YtcallkljcjimiaaGreatDoor
open Go.RowKit Go.Maps
set_option maxRecDepth 100000
set_option maxHeartbeats 400000 in
theorem op_arg (w : World) (bt : Nat) (p t : Int) (n : List UInt8) (hn : n.length ≤ 9223372036854775807) (h : p < 0 ∨ 1200 < p ∨ t < 1 ∨ 7 < t ∨ 1000 < n.length) :
    Calls Tryz.prog 35 #[.pointer (some ⟨bt, 0, none⟩), .int .i64 p, .int .i64 t, .string ⟨n.toArray⟩] w fun e w' => e = .returned (.int .i64 2) ∧ w = w' := by
 have H := Lib.hid h
 clear h
 by_cases h1 : p < 0
 ·go_enter Tryz.func35, Tryz.ntmps35
  go_wp2
  go_ret
  exact ⟨rfl, rfl⟩
 by_cases h2 : 1200 < p
 ·have h1' : 0 ≤ p := by omega
  clear h1
  go_enter Tryz.func35, Tryz.ntmps35
  go_wp2
  go_ret
  exact ⟨rfl, rfl⟩
 have h1' : 0 ≤ p := by omega
 have h2' : p ≤ 1200 := by omega
 clear h1 h2
 by_cases h3 : t < 1
 ·go_enter Tryz.func35, Tryz.ntmps35
  go_wp2
  go_ret
  exact ⟨rfl, rfl⟩
 by_cases h4 : 7 < t
 ·have h3' : 1 ≤ t := by omega
  clear h3
  go_enter Tryz.func35, Tryz.ntmps35
  go_wp2
  go_ret
  exact ⟨rfl, rfl⟩
 have h3' : 1 ≤ t := by omega
 have h4' : t ≤ 7 := by omega
 clear h3 h4
 have h5 : 1000 < n.length := by have := H.out; omega
 clear H
 go_enter Tryz.func35, Tryz.ntmps35
 go_wp2
 go_ret
 exact ⟨rfl, rfl⟩
set_option maxHeartbeats 400000 in
theorem op_perm (w : World) (bt : Nat) (p t : Int) (n : List UInt8) (hn : n.length ≤ 1000) (h1 : 0 ≤ p) (h2 : p ≤ 1200) (h3 : 1 ≤ t) (h4 : t ≤ 7) (h : n = [44] ∨ n = [124] ∨ n = [91, 93] ∨ n = [123, 125]) :
    Calls Tryz.prog 35 #[.pointer (some ⟨bt, 0, none⟩), .int .i64 p, .int .i64 t, .string ⟨n.toArray⟩] w fun e w' => e = .returned (.int .i64 15) ∧ w = w' := by
 rcases h with rfl | rfl | rfl | rfl
 all_goals
  go_enter Tryz.func35, Tryz.ntmps35
  go_wp2
  go_ret
  exact ⟨rfl, rfl⟩
theorem op_any (w : World) (bt bm : Nat) (es : List (OpK × OpV)) (hT : TabAt w bt bm es) (hK : KindsAt w) (hbb : bt ≠ bm) (p t : Int) (n : List UInt8) (hn : n.length ≤ 9223372036854775807) :
    Calls Tryz.prog 35 #[.pointer (some ⟨bt, 0, none⟩), .int .i64 p, .int .i64 t, .string ⟨n.toArray⟩] w fun e w' =>
     e = .returned (.int .i64 (opErr es p t n)) ∧ TabAt w' bt bm (opTab es p t n) ∧ Fr (· = bm) w w' := by
 unfold opTab
 by_cases c1 : p < 0 ∨ 1200 < p ∨ t < 1 ∨ 7 < t ∨ 1000 < n.length
 ·have e1 : opErr es p t n = 2 := by unfold opErr; rw [if_pos c1]
  rw [e1]
  refine (op_arg w bt p t n hn c1).mono ?_
  rintro e w' ⟨rfl, rfl⟩
  exact ⟨rfl, by simpa using hT, Fr.refl _ _⟩
 by_cases c2 : n = [44] ∨ n = [124] ∨ n = [91, 93] ∨ n = [123, 125]
 ·have e1 : opErr es p t n = 15 := by unfold opErr; rw [if_neg c1, if_pos c2]
  rw [e1]
  refine (op_perm w bt p t n (by omega) (by omega) (by omega) (by omega) (by omega) c2).mono ?_
  rintro e w' ⟨rfl, rfl⟩
  exact ⟨rfl, by simpa using hT, Fr.refl _ _⟩
 obtain ⟨t, rfl⟩ := Int.eq_ofNat_of_zero_le (show 0 ≤ t by omega)
 simp only [not_or] at c2
 obtain ⟨d1, d2, d3, d4⟩ := c2
 have hs3 : kSort t = 1 ∨ kSort t = 2 ∨ kSort t = 3 := by unfold kSort; repeat' split <;> omega
 have hnl : n.length ≤ 1000 := by omega
 have c2' : ¬ (n = [44] ∨ n = [124] ∨ n = [91, 93] ∨ n = [123, 125]) := by simp only [not_or]; exact ⟨d1, d2, d3, d4⟩
 by_cases c3 : p = 0
 ·subst c3
  have e1 : opErr es 0 t n = 0 := by unfold opErr; rw [if_neg c1, if_neg c2', if_pos rfl]
  rw [e1, if_neg (by simp), if_pos rfl]
  rcases hs3 with hs | hs | hs <;> rw [hs]
  ·exact op_del1 w bt bm es hT hK hbb 0 t n hnl ⟨rfl, trivial⟩ (by omega) d1 d2 d3 d4 hs
  ·exact op_del2 w bt bm es hT hK hbb 0 t n hnl ⟨rfl, trivial⟩ (by omega) d1 d2 d3 d4 hs
  ·exact op_del3 w bt bm es hT hK hbb 0 t n hnl ⟨rfl, trivial⟩ (by omega) d1 d2 d3 d4 hs
 have e0 : opErr es p t n = if (kSort t = 2 ∧ (mget es (3, n)).isSome = true) ∨ (kSort t = 3 ∧ (mget es (2, n)).isSome = true) then 15
     else if 256 ≤ es.length ∧ (mget es (kSort t, n)).isSome = false then 9 else 0 := by unfold opErr; rw [if_neg c1, if_neg c2', if_neg c3]
 rcases hs3 with hs | hs | hs
 ·rw [hs] at e0 ⊢
  by_cases hr : 256 ≤ es.length
  ·cases hh : (mget es (1, n)).isSome
   ·have e1 : opErr es p t n = 9 := by rw [e0]; simp [hr, hh]
    rw [e1, if_pos (by simp)]
    exact op_full1 w bt bm es hT hK p t n hnl (by omega) (by omega) d1 d2 d3 d4 hs hr hh
   ·have e1 : opErr es p t n = 0 := by rw [e0]; simp [hh]
    rw [e1, if_neg (by simp), if_neg c3]
    exact op_ok11 w bt bm es hT hK hbb p t n hnl (by omega) (by omega) d1 d2 d3 d4 hs hr hh
  ·have e1 : opErr es p t n = 0 := by rw [e0]; simp [hr]
   rw [e1, if_neg (by simp), if_neg c3]
   exact op_ok10 w bt bm es hT hK hbb p t n hnl (by omega) (by omega) d1 d2 d3 d4 hs (by omega)
 ·rw [hs] at e0 ⊢
  cases hq : (mget es (3, n)).isSome
  ·by_cases hr : 256 ≤ es.length
   ·cases hh : (mget es (2, n)).isSome
    ·have e1 : opErr es p t n = 9 := by rw [e0]; simp [hr, hh, hq]
     rw [e1, if_pos (by simp)]
     exact op_full2 w bt bm es hT hK p t n hnl (by omega) (by omega) d1 d2 d3 d4 hs hr hh hq
    ·have e1 : opErr es p t n = 0 := by rw [e0]; simp [hh, hq]
     rw [e1, if_neg (by simp), if_neg c3]
     exact op_ok21 w bt bm es hT hK hbb p t n hnl (by omega) (by omega) d1 d2 d3 d4 hs hr hh hq
   ·have e1 : opErr es p t n = 0 := by rw [e0]; simp [hr, hq]
    rw [e1, if_neg (by simp), if_neg c3]
    exact op_ok20 w bt bm es hT hK hbb p t n hnl (by omega) (by omega) d1 d2 d3 d4 hs (by omega) hq
  ·have e1 : opErr es p t n = 15 := by rw [e0]; simp [hq]
   rw [e1, if_pos (by simp)]
   exact op_conf2 w bt bm es hT hK p t n hnl (by omega) (by omega) d1 d2 d3 d4 hs hq
 ·rw [hs] at e0 ⊢
  cases hq : (mget es (2, n)).isSome
  ·by_cases hr : 256 ≤ es.length
   ·cases hh : (mget es (3, n)).isSome
    ·have e1 : opErr es p t n = 9 := by rw [e0]; simp [hr, hh, hq]
     rw [e1, if_pos (by simp)]
     exact op_full3 w bt bm es hT hK p t n hnl (by omega) (by omega) d1 d2 d3 d4 hs hr hh hq
    ·have e1 : opErr es p t n = 0 := by rw [e0]; simp [hh, hq]
     rw [e1, if_neg (by simp), if_neg c3]
     exact op_ok31 w bt bm es hT hK hbb p t n hnl (by omega) (by omega) d1 d2 d3 d4 hs hr hh hq
   ·have e1 : opErr es p t n = 0 := by rw [e0]; simp [hr, hq]
    rw [e1, if_neg (by simp), if_neg c3]
    exact op_ok30 w bt bm es hT hK hbb p t n hnl (by omega) (by omega) d1 d2 d3 d4 hs (by omega) hq
  ·have e1 : opErr es p t n = 15 := by rw [e0]; simp [hq]
   rw [e1, if_pos (by simp)]
   exact op_conf3 w bt bm es hT hK p t n hnl (by omega) (by omega) d1 d2 d3 d4 hs hq
theorem tokOk_w {T : List UInt8} (h : T.length ≤ 1600) : TokOk (lexB T).1 := by
 obtain ⟨h1, h2⟩ := lexB_ok T
 have h3 := volA_le 1600 (lexB T).1 fun t ht => Nat.le_trans (h1 t ht).short h
 refine ⟨by omega, fun t ht => by have := (h1 t ht).short; omega, fun t ht => ⟨(h1 t ht).n, ?_⟩, ?_⟩
 ·have := (h1 t ht).k0
  have := (h1 t ht).k7
  unfold okI
  omega
 ·rw [vol_len]
  have h4 : (lexB T).1.length ≤ 1601 := by omega
  have h5 := Nat.mul_le_mul_right (2 + 2 * 1600) h4
  omega
structure WrEnv (w : World) : Prop where
 rd : RdEnv w
 wr : WrT w
theorem WrEnv.later {w w' : World} (h : WrEnv w) (hb : Below w.heap.size w w') : WrEnv w' := ⟨h.rd.later hb, h.wr.later hb⟩
theorem clause_put {u u' : World} {c : ClauseF × Int} {e : Ending} (ho : ReadOut u u' c e) :
    ∃ x An m, e = .returned (.tuple #[clV x (.slice An c.1.names.length m) c.1.line c.1.next, .int .i64 c.2]) ∧
     ∀ U, U = u'.alloc (.cells #[.int .i64 x.k, .int .i64 x.n, .string ⟨x.s.toArray⟩, .slice x.A x.len x.cap, .slice An c.1.names.length m, .int .i64 c.1.line, .int .i64 c.1.next] 50) →
     Below u.heap.size u U ∧ TermAt U U.heap.size x c.1.t ∧
     U.heap[u'.heap.size]? = some (.cells #[.int .i64 x.k, .int .i64 x.n, .string ⟨x.s.toArray⟩, .slice x.A x.len x.cap, .slice An c.1.names.length m, .int .i64 c.1.line, .int .i64 c.1.next] 50 (0, 0)) := by
 obtain ⟨hb, x, nv, B, rfl, hx, hn⟩ := ho
 obtain ⟨An, m, rfl⟩ := hn.shape
 refine ⟨x, An, m, rfl, fun U hU => ?_⟩
 subst hU
 have hb' := hb.trans ((Below.refl _ _).alloc hb.size (.cells #[.int .i64 x.k, .int .i64 x.n, .string ⟨x.s.toArray⟩, .slice x.A x.len x.cap, .slice An c.1.names.length m, .int .i64 c.1.line, .int .i64 c.1.next] 50))
 refine ⟨hb', ?_, heap_alloc_new _ _⟩
 exact ((hx.at fun b hb => hb.lt) : TermAt u' u'.heap.size x c.1.t).later ((Below.refl _ _).alloc (Nat.le_refl _) _)
theorem clause_at {w : World} {b : Nat} {a0 a1 a2 a3 a4 a5 a6 : Value} {t : TypeId} (h : w.heap[b]? = some (.cells #[a0, a1, a2, a3, a4, a5, a6] t (0, 0))) :
    w.cell? ⟨b, 0, none⟩ = some a0 ∧ w.cell? ⟨b, 1, none⟩ = some a1 ∧ w.cell? ⟨b, 2, none⟩ = some a2 ∧ w.cell? ⟨b, 3, none⟩ = some a3 ∧ w.cell? ⟨b, 6, none⟩ = some a6 :=
 ⟨by rw [cell_of_row w b 0 _ t (0, 0) h]; rfl, by rw [cell_of_row w b 1 _ t (0, 0) h]; rfl, by rw [cell_of_row w b 2 _ t (0, 0) h]; rfl, by rw [cell_of_row w b 3 _ t (0, 0) h]; rfl, by rw [cell_of_row w b 6 _ t (0, 0) h]; rfl⟩
set_option maxHeartbeats 4000000 in
theorem wput_nil (u : World) (a : Value) (way : Int) (ha : a = .agg #[.int .i64 2, .int .i64 0, .string ⟨#[]⟩, .slice none 0 0]) :
    Calls Tryz.prog 14 #[a, .int .i64 way, .pointer none] u fun e u' => e = .returned (.tuple #[.string ⟨#[]⟩, .int .i64 1]) ∧ Below u.heap.size u u' := by
 subst ha
 go_enter Tryz.func14, Tryz.ntmps14
 go_wp2_with fail
 go_ret2
 exact ⟨rfl, (Below.refl _ _).alloc (Nat.le_refl _) _⟩
structure Al7 (w u : World) (bt bm : Nat) : Prop where
 below : Below w.heap.size w u
 tab : TabAt u bt bm opsInit
 env : WrEnv u
theorem Al7.later {w u u' : World} {bt bm : Nat} (h : Al7 w u bt bm) (hb : Below u.heap.size u u') : Al7 w u' bt bm := ⟨h.below.trans (hb.mono h.below.size), h.tab.later hb, h.env.later hb⟩
set_option maxHeartbeats 16000000 in
theorem alive7_any (w : World) (hE : WrEnv w) : Calls Tryz.prog 9 #[] w fun e w' => e = .returned (.bool true) ∧ Below w.heap.size w w' := by
 have HE := Lib.hid hE
 clear hE
 go_enter Tryz.func9, Tryz.ntmps9
 go_wp2_with fail
 refine (new_any _ HE.out.rd.kinds HE.out.rd.tab).mono ?_
 rintro e w1 ⟨bt, bm, rfl, hT, -, -, -, hb1⟩
 have HA : Hid (Al7 w w1 bt bm) := Lib.hid ⟨hb1, hT, HE.out.later hb1⟩
 clear hT hb1
 obtain ⟨arr, harr⟩ : ∃ arr : Value, arr = .agg #[.string ⟨#[97, 58, 45, 98, 44, 99, 46]⟩, .string ⟨#[97, 32, 58, 45, 32, 98, 44, 99]⟩, .string ⟨#[45, 32, 49, 46]⟩, .string ⟨#[45, 32, 49]⟩, .string ⟨#[45, 32, 45, 49, 46]⟩, .string ⟨#[45, 32, 40, 45, 49, 41]⟩, .string ⟨#[45, 32, 97, 46]⟩, .string ⟨#[45, 32, 97]⟩, .string ⟨#[102, 40, 45, 41, 46]⟩, .string ⟨#[102, 40, 45, 41]⟩, .string ⟨#[45, 32, 40, 45, 41, 46]⟩, .string ⟨#[45, 32, 40, 45, 41]⟩, .string ⟨#[49, 45, 40, 50, 45, 51, 41, 46]⟩, .string ⟨#[49, 32, 45, 32, 40, 50, 32, 45, 32, 51, 41]⟩] := ⟨_, rfl⟩
 have hix : ∀ k : Nat, k < 7 → ∀ u : World, (Instr.index 62 arr (.int .i64 (k : Int))).run Tryz.prog u = .ok (.agg #[.string ⟨(pairAt k).1.toArray⟩, .string ⟨(pairAt k).2.toArray⟩]) u := by
  rw [harr]
  refine pair_cases ?_ ?_ ?_ ?_ ?_ ?_ ?_ <;> intro u <;> kernel_rfl
 rw [harr] at hix
 have HIX := Lib.hid hix
 clear hix
 go_upto_region 3 with fail
 clear harr
 go_loopw [22] (fun i wr => ∃ k : Nat, k ≤ 7 ∧ i = .int .i64 k ∧ Hid (Al7 w wr bt bm)) (fun i _ => 7 - (intOf i).toNat)
 case atStart => exact ⟨0, by omega, rfl, HA⟩
 case round =>
  obtain ⟨k, hk, rfl, HI⟩ := hrel
  clear HA HE
  by_cases hk7 : k < 7
  case neg =>
   have b1 : decide ((k : Int) < 7) = false := by simp; omega
   go_wp2_with fail
   refine (wput_nil wr _ 0 rfl).mono ?_
   rintro e w2 ⟨rfl, hb2⟩
   have HB := Lib.hid (HI.out.below.trans (hb2.mono HI.out.below.size))
   clear hb2
   go_wp2_with fail
   go_ret
   exact ⟨rfl, HB.out⟩
  have b1 : decide ((k : Int) < 7) = true := by simp; omega
  have hixk := HIX.out k hk7
  have hlex := pair_lex k hk7
  have hlen := pair_len k hk7
  have hrd := pair_read k hk7
  have hsm := pair_small k hk7
  have hpt := pair_put k hk7
  obtain ⟨X, hX⟩ : ∃ X, X = (pairAt k).1 := ⟨_, rfl⟩
  obtain ⟨Y, hY⟩ : ∃ Y, Y = (pairAt k).2 := ⟨_, rfl⟩
  obtain ⟨ts, hts⟩ : ∃ ts, ts = pairTs k := ⟨_, rfl⟩
  obtain ⟨C, hC⟩ : ∃ C, C = pairC k := ⟨_, rfl⟩
  have hlx : lexB X = (ts, 0, 0) := by rw [hX, hts]; exact Prod.ext rfl hlex
  have hrr : readF (opsOf opsInit) ts 0 = (C, 0) := by rw [hC, hts]; exact Prod.ext rfl hrd
  rw [← hY, ← hC] at hpt
  rw [← hC] at hsm
  rw [← hX, ← hY] at hlen hixk
  have HLX := Lib.hid hlx
  have HRR := Lib.hid hrr
  have HPT := Lib.hid hpt
  have HSM := Lib.hid hsm
  have HLN := Lib.hid hlen
  have hw2 : IntKind.i64.wrap ((k : Int) + 1) = (k : Int) + 1 := IntWalk.i64_in _ (by omega)
  clear hX hY hts hC hlx hrr hpt hsm hlen hlex hrd
  obtain ⟨V, hV⟩ : ∃ V, V = wr.alloc (.cells #[.string ⟨X.toArray⟩, .string ⟨Y.toArray⟩] 61) := ⟨_, rfl⟩
  obtain ⟨bx, hbx⟩ : ∃ bx, bx = wr.heap.size := ⟨_, rfl⟩
  have hbV : Below wr.heap.size wr V := by rw [hV]; exact (Below.refl _ _).alloc (Nat.le_refl _) _
  have hx0 : V.heap[bx]? = some (.cells #[.string ⟨X.toArray⟩, .string ⟨Y.toArray⟩] 61 (0, 0)) := by rw [hV, hbx]; exact heap_alloc_new _ _
  have HV := Lib.hid (HI.out.later hbV)
  have HX0 := Lib.hid hx0
  clear hbV hx0
  go_upto_region 5 with fail
  rw [← hV, ← hbx]
  clear hV hbx
  have x0 : V.cell? ⟨bx, 0, none⟩ = some (.string ⟨X.toArray⟩) := by rw [cell_of_row V bx 0 _ _ (0, 0) HX0.out]; rfl
  have x1 : V.cell? ⟨bx, 1, none⟩ = some (.string ⟨Y.toArray⟩) := by rw [cell_of_row V bx 1 _ _ (0, 0) HX0.out]; rfl
  go_wp2_with fail
  refine (lex_any V X (by have := HLN.out.1; omega) HV.out.env.rd.max).mono ?_
  rintro e w2 ⟨v2, rfl, hr2, hb2⟩
  rw [HLX.out] at hr2 ⊢
  dsimp only at hr2 ⊢
  obtain ⟨An, cn, rfl⟩ := hr2.shape
  have HV2 := Lib.hid (HV.out.later hb2)
  have HX2 := Lib.hid ((hb2.block bx (Array.getElem?_eq_some_iff.1 HX0.out).1).trans HX0.out)
  have HRD := Lib.hid (read_any w2 An ts.length cn ts (toks_row hr2) (by have := tokOk_w (T := X) (by have := HLN.out.1; omega); rwa [HLX.out] at this) 0 bt bm opsInit HV2.out.tab HV2.out.env.rd.kinds)
  clear hr2 hb2 x0 x1
  go_wp2_with fail
  refine HRD.out.mono ?_
  rintro e w3 ho
  rw [HRR.out] at ho
  obtain ⟨x, N0, m0, rfl, hU⟩ := clause_put ho
  have hb3 := ho.1
  dsimp only at hU ⊢
  unfold clV
  go_upto_region 7 with fail
  obtain ⟨U, hUU⟩ : ∃ U, U = w3.alloc (.cells #[.int .i64 x.k, .int .i64 x.n, .string ⟨x.s.toArray⟩, .slice x.A x.len x.cap, .slice N0 C.names.length m0, .int .i64 C.line, .int .i64 C.next] 50) := ⟨_, rfl⟩
  rw [← hUU]
  obtain ⟨hb, ht, hc⟩ := hU U hUU
  clear hUU hU ho hb3
  generalize w3.heap.size = g0 at hc ⊢
  have HVU := Lib.hid (HV2.out.later hb)
  have HXU := Lib.hid ((hb.block bx (Array.getElem?_eq_some_iff.1 HX2.out).1).trans HX2.out)
  have HPU := Lib.hid (wput_any U x C.t bt bm opsInit 1 ht HSM.out.1 (by have := HSM.out.2; omega) (by have := HSM.out.2; omega) HVU.out.env.wr HVU.out.tab)
  obtain ⟨y0, y1, y2, y3, -⟩ := clause_at hc
  rw [HPT.out, tvV_lit] at HPU
  clear hb ht hc
  go_wp2_with fail
  refine HPU.out.mono ?_
  rintro e w4 ⟨rfl, hb4⟩
  have x1 : w4.cell? ⟨bx, 1, none⟩ = some (.string ⟨Y.toArray⟩) := by rw [cell_of_row w4 bx 1 _ _ (0, 0) ((hb4.block bx (Array.getElem?_eq_some_iff.1 HXU.out).1).trans HXU.out)]; rfl
  have HV4 := Lib.hid (HVU.out.later hb4)
  have hyy : (Y != Y) = false := by simp
  have hyy' : (Y == Y) = true := by simp
  clear y0 y1 y2 y3 hb4
  go_wp2_with fail
  go_roundw
  case rel => exact ⟨k + 1, by omega, rfl, HV4⟩
  all_goals (simp [intOf]; omega)
section
variable {P : Program} {α : Type}
theorem wpList_row_lies {ops : Array Oper} {rest : List Oper} {o : Oper} {a : Act} {Q : Exit → Act → World → Prop} (hgd : o.guard = none) (s x : Operand) (t : TypeId)
    (ho : o.op = .call { callee := .builtin .append, args := #[s, x], argTypes := #[t, t] }) (w : World) (B : Nat)
    (e : TypeId) (i : TypeInfo) (z : Value) (sz bytes : Nat) (enc : α → List Value) (ht : P.underlying t = some (.slice e)) (hi : P.info? e = some i) (hz : i.zero = some z)
    (hsize : i.size = sz) (hby : i.bytes = bytes) (hzs : z.cells.size = sz) (hsz : 0 < sz) (henc : ∀ x, (enc x).length = sz) (h1 : ∀ x, ∀ u ∈ enc x, u.oneCell' = true)
    (v : Value) (l : List α) (y : α) (hs : a.eval s = v) (h : Row w B e sz enc v l)
    (g cap : Nat) (hx : a.eval x = .slice (some ⟨g, 0, none⟩) 1 cap) (hnews : ∀ j u, (enc y)[j]? = some u → w.cell? ⟨g, j, none⟩ = some u)
    (h63 : l.length + 1 ≤ maxLen) (hbytes : (l.length + 1) * bytes ≤ 140737488355328) (hbase : B ≤ w.heap.size)
    (hK : ∀ g' cap' w', Row w' B e sz enc (.slice (some ⟨g', 0, none⟩) (l.length + 1) cap') (l ++ [y]) → w.grownBy w' v.ownBlock → (v.ownBlock = some g' ∨ g' = w.heap.size) → wpList P ops Q rest (a.put o.dst (.slice (some ⟨g', 0, none⟩) (l.length + 1) cap')) w') : wpList P ops Q (o :: rest) a w := by
 refine wpList_append_lies w hgd s x t ho B e i z sz bytes ht hi hz hsize hby hzs hsz v l.length (l.flatMap enc) hs h.own ⟨g, 0, none⟩ 1 cap (enc y) hx (by rw [henc, Nat.one_mul]) ?_ (h1 y) (by omega) h63 hbytes hbase w.heap.size rfl ?_
 ·intro j u hu
  have : (⟨g, 0, none⟩ : Addr).add j = ⟨g, j, none⟩ := by unfold Addr.add; split <;> simp_all
  rw [this]
  exact hnews j u hu
 ·intro g' cap' w' h2 h3 h4 _
  refine hK g' cap' w' ⟨?_⟩ h3 h4
  rw [List.flatMap_append, List.length_append]
  simpa using h2
end
def Fz (B : Nat) (w : World) (v : Value) (b : Nat) : Prop := B ≤ b ∧ b < w.heap.size ∧ v.ownBlock ≠ some b
def newB (B : Nat) (w : World) (b : Nat) : Prop := B ≤ b ∧ b < w.heap.size
structure BldAt (B bt : Nat) (k n : Int) (s : List UInt8) (l : List Tm) (A : Option Addr) (c : Nat) (xs : List TV) (w : World) : Prop where
 box : w.heap[bt]? = some (.cells #[.int .i64 k, .int .i64 n, .string ⟨s.toArray⟩, .slice A l.length c] 28 (0, 0))
 row : Row w B 28 4 encTV (.slice A l.length c) xs
 tms : TermsS w (Fz B w (.slice A l.length c)) xs l
 lt : bt < B
 name : s.length ≤ maxLen
section
variable {B bt : Nat} {k n : Int} {s : List UInt8} {l : List Tm} {A : Option Addr} {c : Nat} {xs : List TV} {w w' : World}
theorem BldAt.len (h : BldAt B bt k n s l A c xs w) : xs.length = l.length := h.tms.1
theorem BldAt.later (h : BldAt B bt k n s l A c xs w) (hb : Below w.heap.size w w') : BldAt B bt k n s l A c xs w' :=
 ⟨(hb.block bt (Array.getElem?_eq_some_iff.1 h.box).1).trans h.box, h.row.later hb, h.tms.keep (fun _ hb' => ⟨hb'.1, Nat.lt_of_lt_of_le hb'.2.1 hb.size, hb'.2.2⟩) (fun b hb' => hb.block b hb'.2.1), h.lt, h.name⟩
theorem BldAt.start (hB : bt < B) (hs : s.length ≤ maxLen) (hb : w.heap[bt]? = some (.cells #[.int .i64 k, .int .i64 n, .string ⟨s.toArray⟩, .slice none 0 0] 28 (0, 0))) : BldAt B bt k n s [] none 0 [] w :=
 ⟨hb, Row.nil _ _ _ _ _, .nil _ _, hB, hs⟩
theorem BldAt.cells (h : BldAt B bt k n s l A c xs w) : w.cell? ⟨bt, 0, none⟩ = some (.int .i64 k) ∧ w.cell? ⟨bt, 1, none⟩ = some (.int .i64 n) ∧ w.cell? ⟨bt, 2, none⟩ = some (.string ⟨s.toArray⟩) ∧ w.cell? ⟨bt, 3, none⟩ = some (.slice A l.length c) ∧ (∀ o, w.frozen? ⟨bt, o, none⟩ = false) := four_at h.box
theorem BldAt.done (h : BldAt B bt k n s l A c xs w) : TermS w (newB B w) ⟨k, n, s, A, l.length, c⟩ (.mk k n s l) :=
 (h.tms.keep (S' := newB B w) (fun _ hb => ⟨hb.1, hb.2.1⟩) (fun _ _ => rfl)).comp h.row rfl (fun g hg => h.row.lt g hg) s h.name k n
theorem BldAt.push {V : World} {x : TV} {t : Tm} {g cap : Nat} (h : BldAt B bt k n s l A c xs w) (hb : Below w.heap.size w V) (hx : TermS V (newB w.heap.size V) x t) (hB : B ≤ w.heap.size)
    (hR : Row w' B 28 4 encTV (.slice (some ⟨g, 0, none⟩) (l.length + 1) cap) (xs ++ [x])) (hg : V.grownBy w' (Value.slice A l.length c).ownBlock) (hl : (Value.slice A l.length c).ownBlock = some g ∨ g = V.heap.size) :
    BldAt B bt k n s (l ++ [t]) (some ⟨g, 0, none⟩) cap (xs ++ [x]) (w'.setCell ⟨bt, 3, none⟩ (.slice (some ⟨g, 0, none⟩) (l.length + 1) cap)) := by
 have hV := h.later hb
 have hbtV : bt < V.heap.size := (Array.getElem?_eq_some_iff.1 hV.box).1
 have hown : ∀ q, (Value.slice A l.length c).ownBlock = some q → B ≤ q ∧ q < w.heap.size := fun q hq => h.row.lt q hq
 have hkeep : ∀ b, b < V.heap.size → (Value.slice A l.length c).ownBlock ≠ some b → w'.heap[b]? = V.heap[b]? := fun b hb1 hb2 => hg.block b hb1 (fun e => hb2 e.symm)
 have hbox' : w'.heap[bt]? = some (.cells #[.int .i64 k, .int .i64 n, .string ⟨s.toArray⟩, .slice A l.length c] 28 (0, 0)) := by
  rw [hkeep bt hbtV (fun e => by have := (hown bt e).1; have := h.lt; omega)]
  exact hV.box
 have hgB := hR.lt g rfl
 have hset : ∀ b, b ≠ bt → (w'.setCell ⟨bt, 3, none⟩ (.slice (some ⟨g, 0, none⟩) (l.length + 1) cap)).heap[b]? = w'.heap[b]? := fun b hb1 => Below.heap_setCell _ _ _ _ hb1
 have hsz : V.heap.size ≤ w'.heap.size := hg.size
 have hS : ∀ b, (Fz B V (.slice A l.length c) b ∨ newB w.heap.size V b) → Fz B (w'.setCell ⟨bt, 3, none⟩ (.slice (some ⟨g, 0, none⟩) (l.length + 1) cap)) (.slice (some ⟨g, 0, none⟩) (l.length + 1) cap) b ∧ (w'.setCell ⟨bt, 3, none⟩ (.slice (some ⟨g, 0, none⟩) (l.length + 1) cap)).heap[b]? = V.heap[b]? := fun b hb1 => by
  have h1 : B ≤ b ∧ b < V.heap.size ∧ (Value.slice A l.length c).ownBlock ≠ some b := by
   rcases hb1 with h1 | h1
   ·exact h1
   ·have := h1.1
    exact ⟨by omega, h1.2, fun e => by have := (hown b e).2; omega⟩
  have hbt : b ≠ bt := by have := h.lt; omega
  refine ⟨⟨h1.1, ?_, fun e => ?_⟩, (hset b hbt).trans (hkeep b h1.2.1 h1.2.2)⟩
  ·rw [World.size_setCell]
   omega
  ·have e : g = b := by simpa [Value.ownBlock] using e
   rcases hl with h2 | h2
   ·exact h1.2.2 (by rw [h2, e])
   ·omega
 refine ⟨?_, ?_, ?_, h.lt, h.name⟩
 ·rw [List.length_append]
  exact blk_put hbox' _
 ·rw [List.length_append]
  exact hR.away _ fun q hq => by
   have e : g = q := by simpa [Value.ownBlock] using hq
   have := h.lt
   simp only
   omega
 ·rw [List.length_append]
  refine TermsS.snoc ?_ ?_
  ·exact hV.tms.keep (fun b hb1 => (hS b (.inl hb1)).1) (fun b hb1 => (hS b (.inl hb1)).2)
  ·exact hx.keep (fun b hb1 => (hS b (.inr hb1)).1) (fun b hb1 => (hS b (.inr hb1)).2)
end
end Go.Proofs.YtcallkljcjimiaaGreatDoor
namespace Go.Proofs.YtcallkljcjimiaaGreatDoor
open Go.RowKit Go.Maps
set_option maxRecDepth 100000
def encPart (p : PartT) : List Value := [.int .i64 p.k, .int .i64 p.n, .string ⟨p.s.toArray⟩, .int .u8 (p.a : Int)]
structure PartsAt (w : World) (A : Option Addr) (l : List PartT) : Prop where
 at' : ∀ (i : Nat) (p : PartT), l[i]? = some p → ∃ b off, A = some ⟨b, off, none⟩ ∧ b < w.heap.size ∧ ∀ (j : Nat) u, (encPart p)[j]? = some u → w.cell? ⟨b, off + i * 4 + j, none⟩ = some u
 ok : ∀ p ∈ l, p.s.length ≤ maxLen ∧ p.a < 256
 len : l.length ≤ 1000000000
theorem PartsAt.later {w w' : World} {A : Option Addr} {l : List PartT} (h : PartsAt w A l) (hb : Below w.heap.size w w') : PartsAt w' A l :=
 ⟨fun i p hp => by
  obtain ⟨b, off, h1, h2, h3⟩ := h.at' i p hp
  exact ⟨b, off, h1, Nat.lt_of_lt_of_le h2 hb.size, fun j u hu => (hb.cell (p := ⟨b, off + i * 4 + j, none⟩) h2).trans (h3 j u hu)⟩, h.ok, h.len⟩
theorem PartsAt.drop {w : World} {A : Option Addr} {l : List PartT} {c : Nat} (h : PartsAt w A l) (k : Nat) (hk : 0 < k) (hl : k ≤ l.length) (hc : l.length ≤ c) :
    ∃ A2 c2, sliced A k l.length c 4 = .slice A2 (l.drop k).length c2 ∧ (l.drop k).length ≤ c2 ∧ PartsAt w A2 (l.drop k) := by
 unfold sliced
 refine ⟨_, _, by rw [List.length_drop], by rw [List.length_drop]; omega, ⟨fun i p hp => ?_, fun p hp => h.ok p (List.mem_of_mem_drop hp), by rw [List.length_drop]; have := h.len; omega⟩⟩
 rw [List.getElem?_drop] at hp
 obtain ⟨b, off, h1, h2, h3⟩ := h.at' (k + i) p hp
 have hlt := (List.getElem?_eq_some_iff.1 hp).1
 refine ⟨b, off + k * 4, ?_, h2, fun j u hu => ?_⟩
 ·rw [if_neg (by omega), h1]
  show some (Addr.add ⟨b, off, none⟩ (k * 4)) = _
  unfold Addr.add
  rw [if_neg (by omega)]
 ·have := h3 j u hu
  rwa [show off + (k + i) * 4 + j = off + k * 4 + i * 4 + j by omega] at this
def OfPost (u : World) (l : List PartT) (e : Ending) (u' : World) : Prop :=
 ∃ x : TV, e = .returned (.tuple #[tvV x, .int .i64 ((ofT l).2 : Int)]) ∧ TermS u' (newB u.heap.size u') x (ofT l).1 ∧ Below u.heap.size u u'
def OfC (n : Nat) : Prop := ∀ (l : List PartT) (u : World) (A : Option Addr) (c : Nat), l.length ≤ n → l.length ≤ c → PartsAt u A l → Calls Tryz.prog 16 #[.slice A l.length c] u fun e u' => OfPost u l e u'
theorem fresh_four (w : World) (x : TV) (t : TypeId) : ∀ j u, (encTV x)[j]? = some u → (w.alloc (.cells #[.int .i64 x.k, .int .i64 x.n, .string ⟨x.s.toArray⟩, .slice x.A x.len x.cap] t)).cell? ⟨w.heap.size, j, none⟩ = some u := fun j u hu => by
 exact cell_alloc1 w _ t j u (by simpa [encTV] using hu)
theorem run_sizeOf_part (w : World) : (sizeOf (Tryz.prog.elem 22)).run Tryz.prog w = .ok 4 w := by kernel_rfl
theorem put_cell {V w5 : World} {bt B : Nat} {a0 a1 a2 a3 v : Value} {t : TypeId} {o : Obj} (h : V.heap[bt]? = some (.cells #[a0, a1, a2, a3] t (0, 0))) (hlt : bt < V.heap.size) (hr : ∀ q, v.ownBlock = some q → B ≤ q ∧ q < V.heap.size) (hB : bt < B) (hg : (V.alloc o).grownBy w5 v.ownBlock) :
    w5.cell? ⟨bt, 3, none⟩ = some a3 ∧ w5.frozen? ⟨bt, 3, none⟩ = false := by
 have h1 : w5.heap[bt]? = some (.cells #[a0, a1, a2, a3] t (0, 0)) := by
  rw [hg.block bt (by simp; omega) (fun e => by have := (hr bt e.symm).1; omega), Below.heap_alloc _ _ _ hlt]
  exact h
 obtain ⟨-, -, -, h2, h3⟩ := four_at h1
 exact ⟨h2, h3 3⟩
set_option maxHeartbeats 4000000 in
theorem of_nil (u : World) (A : Option Addr) (c : Nat) : Calls Tryz.prog 16 #[.slice A 0 c] u fun e u' => OfPost u [] e u' := by
 obtain ⟨R, hR⟩ : ∃ R : Ending → World → Prop, R = fun e u' => OfPost u [] e u' := ⟨_, rfl⟩
 rw [← hR]
 have HRR := Lib.hid hR
 clear hR
 go_enter Tryz.func16, Tryz.ntmps16
 go_wp2_with fail
 have hx0 := heap_alloc_new u (.cells #[.int .i64 3, .int .i64 0, .string ⟨#[97]⟩, .slice none 0 0] 28)
 obtain ⟨f0, f1, f2, f3, -⟩ := four_at hx0
 refine ⟨rfl, .tuple #[.agg #[.int .i64 3, .int .i64 0, .string ⟨#[97]⟩, .slice none 0 0], .int .i64 0], by simp [results, Tryz.results16, go_sem, f0, f1, f2, f3], ?_⟩
 rw [HRR.out]
 exact ⟨⟨3, 0, [97], none, 0, 0⟩, rfl, TermS.leaf _ _ 3 0 [97] none 0 (by decide), (Below.refl _ _).alloc (Nat.le_refl _) _⟩
set_option maxHeartbeats 8000000 in
theorem of_step {n : Nat} (hC : OfC n) : OfC (n + 1) := by
 intro l u A c hl hlc hp
 obtain ⟨R, hR⟩ : ∃ R : Ending → World → Prop, R = fun e u' => OfPost u l e u' := ⟨_, rfl⟩
 rw [← hR]
 have HRR := Lib.hid hR
 clear hR
 cases l with
 | nil => rw [HRR.out]; exact of_nil u A c
 | cons p r =>
  obtain ⟨b, off, hA, hb, hc⟩ := hp.at' 0 p rfl
  have m0 := hc 0 _ rfl
  have m1 := hc 1 _ rfl
  have m2 := hc 2 _ rfl
  have m3 := hc 3 _ rfl
  simp only [Nat.zero_mul, Nat.add_zero] at m0 m1 m2 m3
  have hok := hp.ok p (List.mem_cons_self ..)
  obtain ⟨B, hB⟩ : ∃ B, B = u.heap.size + 3 := ⟨_, rfl⟩
  obtain ⟨bt, hbt⟩ : ∃ bt, bt = u.heap.size + 2 := ⟨_, rfl⟩
  obtain ⟨bp, hbp⟩ : ∃ bp, bp = u.heap.size + 1 := ⟨_, rfl⟩
  obtain ⟨br, hbr⟩ : ∃ br, br = u.heap.size := ⟨_, rfl⟩
  obtain ⟨W, hW⟩ : ∃ W, W = ((u.alloc (.cells #[.int .i64 0, .int .i64 0, .string ⟨#[]⟩, .slice none 0 0] 28)).alloc (.cells #[.int .i64 p.k, .int .i64 p.n, .string ⟨p.s.toArray⟩, .int .u8 (p.a : Int)] 93)).alloc (.cells #[.int .i64 p.k, .int .i64 p.n, .string ⟨p.s.toArray⟩, .slice none 0 0] 28) := ⟨_, rfl⟩
  have hbW : Below u.heap.size u W := by rw [hW]; exact (((Below.refl _ _).alloc (Nat.le_refl _) _).alloc (by simp) _).alloc (by simp; omega) _
  have hr0 : W.heap[br]? = some (.cells #[.int .i64 0, .int .i64 0, .string ⟨#[]⟩, .slice none 0 0] 28 (0, 0)) := by
   rw [hW, hbr, Below.heap_alloc _ _ _ (by simp; omega), Below.heap_alloc _ _ _ (by simp)]
   exact heap_alloc_new _ _
  have hp0 : W.heap[bp]? = some (.cells #[.int .i64 p.k, .int .i64 p.n, .string ⟨p.s.toArray⟩, .int .u8 (p.a : Int)] 93 (0, 0)) := by
   rw [hW, hbp, Below.heap_alloc _ _ _ (by simp)]
   have := heap_alloc_new (u.alloc (.cells #[.int .i64 0, .int .i64 0, .string ⟨#[]⟩, .slice none 0 0] 28)) (.cells #[.int .i64 p.k, .int .i64 p.n, .string ⟨p.s.toArray⟩, .int .u8 (p.a : Int)] 93)
   rwa [World.size_alloc] at this
  have ht0 : W.heap[bt]? = some (.cells #[.int .i64 p.k, .int .i64 p.n, .string ⟨p.s.toArray⟩, .slice none 0 0] 28 (0, 0)) := by
   rw [hW, hbt]
   have := heap_alloc_new ((u.alloc (.cells #[.int .i64 0, .int .i64 0, .string ⟨#[]⟩, .slice none 0 0] 28)).alloc (.cells #[.int .i64 p.k, .int .i64 p.n, .string ⟨p.s.toArray⟩, .int .u8 (p.a : Int)] 93)) (.cells #[.int .i64 p.k, .int .i64 p.n, .string ⟨p.s.toArray⟩, .slice none 0 0] 28)
   rwa [World.size_alloc, World.size_alloc] at this
  have hstart : BldAt B bt p.k p.n p.s [] none 0 [] W := BldAt.start (by omega) hok.1 ht0
  obtain ⟨m, hm⟩ : ∃ m, m = p.a % 8 := ⟨_, rfl⟩
  have hm7 : m ≤ 7 := by omega
  have hmm : (p.a : Int).tmod 8 = (m : Int) := by rw [hm]; rfl
  obtain ⟨N, hN⟩ : ∃ N, N = (p :: r).length := ⟨_, rfl⟩
  have hN0 : 0 < N := by rw [hN]; simp
  have hsW : W.heap.size = u.heap.size + 3 := by rw [hW]; simp
  have HB0 := Lib.hid (And.intro hB (And.intro hbt (And.intro hbp (And.intro hbr hsW))))
  have HP := Lib.hid hp
  have HC := Lib.hid hC
  have HLN := Lib.hid (And.intro hl (And.intro hlc hN))
  have HST := Lib.hid hstart
  have HBW := Lib.hid hbW
  have HR0 := Lib.hid hr0
  have HPX := Lib.hid hp0
  have HM := Lib.hid hm
  have HOK := Lib.hid hok
  rw [← hN, hA]
  clear hC hl hlc hp hc hok hB hbW hr0 hp0 ht0 hstart hm hN
  go_enter Tryz.func16, Tryz.ntmps16
  have hNz : ((N : Int) == 0) = false := beq_eq_false_iff_ne.2 (by omega)
  go_upto_region 6 with fail
  rw [← hW, show u.heap.size + 1 + 1 = bt from hbt.symm, ← hbp, ← hbr]
  clear hW hbt hbp hbr m0 m1 m2 m3 hb
  go_wp2_with fail
  go_loopw [6, 7] (fun a i wr => ∃ (k : Nat) (A1 : Option Addr) (c1 : Nat) (xs : List TV), k ≤ m ∧ a = .int .i64 (1 + ((ofLoop ofT k r).2 : Nat)) ∧ i = .int .i64 k ∧ Hid (BldAt B bt p.k p.n p.s (ofLoop ofT k r).1 A1 c1 xs wr ∧ Below u.heap.size u wr ∧ wr.heap[br]? = W.heap[br]? ∧ wr.heap[bp]? = W.heap[bp]?)) (fun _ i _ => m - (intOf i).toNat)
  case atStart => exact ⟨0, none, 0, [], Nat.zero_le _, rfl, rfl, Lib.hid ⟨HST.out, HBW.out, rfl, rfl⟩⟩
  case round =>
   obtain ⟨k, A1, c1, xs, hk, rfl, rfl, HI⟩ := hrel
   have HPR := Lib.hid (HI.out.2.2.2.trans HPX.out)
   have HRR0 := Lib.hid (HI.out.2.2.1.trans HR0.out)
   obtain ⟨q0, q1, q2, q3, -⟩ := four_at HPR.out
   by_cases hkm : k < m
   case neg =>
    have hke : k = m := by omega
    subst hke
    have hd : decide ((k : Int) < (k : Int)) = false := by simp
    obtain ⟨t0, t1, t2, t3, -⟩ := HI.out.1.cells
    obtain ⟨r0, r1, r2, r3, rf⟩ := four_at HRR0.out
    have HFIN : Hid (OfPost u (p :: r) (.returned (.tuple #[tvV ⟨p.k, p.n, p.s, A1, (ofLoop ofT k r).1.length, c1⟩, .int .i64 (1 + ((ofLoop ofT k r).2 : Nat))])) ((((wr.setCell ⟨br, 0, none⟩ (.int .i64 p.k)).setCell ⟨br, 1, none⟩ (.int .i64 p.n)).setCell ⟨br, 2, none⟩ (.string ⟨p.s.toArray⟩)).setCell ⟨br, 3, none⟩ (.slice A1 (ofLoop ofT k r).1.length c1))) := Lib.hid (by
     obtain ⟨hB, hbt, hbp, hbr, hsz⟩ := HB0.out
     refine ⟨⟨p.k, p.n, p.s, A1, (ofLoop ofT k r).1.length, c1⟩, ?_, ?_, ?_⟩
     ·rw [ofT_cons, ← HM.out]
      simp
     ·rw [ofT_cons, ← HM.out]
      refine HI.out.1.done.keep (fun q hq => ⟨by have := hq.1; omega, ?_⟩) (fun q hq => blk_set4_ne _ _ _ _ (by have := hq.1; omega))
      have := hq.2
      simpa using this
     ·have h1 := HI.out.2.1
      exact (((h1.setCell (p := ⟨br, 0, none⟩) (by simp only; omega) _).setCell (p := ⟨br, 1, none⟩) (by simp only; omega) _).setCell (p := ⟨br, 2, none⟩) (by simp only; omega) _).setCell (p := ⟨br, 3, none⟩) (by simp only; omega) _)
    have HC4 := Lib.hid (blk_set4 HRR0.out rfl (.int .i64 p.k) (.int .i64 p.n) (.string ⟨p.s.toArray⟩) (.slice A1 (ofLoop ofT k r).1.length c1))
    go_wp2_with fail
    obtain ⟨z0, z1, z2, z3, -⟩ := four_at HC4.out
    refine ⟨rfl, .tuple #[.agg #[.int .i64 p.k, .int .i64 p.n, .string ⟨p.s.toArray⟩, .slice A1 (ofLoop ofT k r).1.length c1], .int .i64 (1 + ((ofLoop ofT k r).2 : Nat))], by simp [results, Tryz.results16, go_sem, z0, z1, z2, z3], ?_⟩
    rw [HRR.out]
    exact HFIN.out
   have hd : decide ((k : Int) < (m : Int)) = true := by simp; omega
   have hkr : (ofLoop ofT k r).2 ≤ r.length := (ofLoop_le ofT_le k r).1
   have hNr : N = r.length + 1 := by rw [HLN.out.2.2, List.length_cons]
   have hPW : PartsAt wr (some ⟨b, off, none⟩) (p :: r) := by rw [← hA]; exact HP.out.later HI.out.2.1
   obtain ⟨A2, c2, hsl, hc2, hP2⟩ := hPW.drop (1 + (ofLoop ofT k r).2) (by omega) (by rw [List.length_cons]; omega) (c := c) HLN.out.2.1
   have hdr : (p :: r).drop (1 + (ofLoop ofT k r).2) = r.drop (ofLoop ofT k r).2 := by rw [Nat.add_comm, List.drop_succ_cons]
   rw [hdr] at hsl hc2 hP2
   rw [← HLN.out.2.2] at hsl
   have hsi : sliced (some ⟨b, off, none⟩) (1 + ((ofLoop ofT k r).2 : Nat) : Int).toNat N c 4 = .slice A2 (r.drop (ofLoop ofT k r).2).length c2 := by
    rw [show (1 + ((ofLoop ofT k r).2 : Nat) : Int).toNat = 1 + (ofLoop ofT k r).2 by omega]
    exact hsl
   have hcall := HC.out (r.drop (ofLoop ofT k r).2) wr A2 c2 (by have := HLN.out.1; rw [List.length_cons] at this; rw [List.length_drop]; omega) hc2 hP2
   have HCL := Lib.hid hcall
   obtain ⟨at', hat⟩ : ∃ a : Nat, a = 1 + (ofLoop ofT k r).2 := ⟨_, rfl⟩
   have hsr : (Instr.slice 22 (.slice (some ⟨b, off, none⟩) N c) (some (.int .i64 (1 + ((ofLoop ofT k r).2 : Nat)))) none none).run Tryz.prog wr = .ok (.slice A2 (r.drop (ofLoop ofT k r).2).length c2) wr := by
    rw [run_slice_l (P := Tryz.prog) (w := wr) 22 (some ⟨b, off, none⟩) N c rfl .i64 _ (by omega) (by omega), run_sizeOf_part, ← hsi]
    rfl
   clear hcall hP2 hsl hPW hsi
   obtain ⟨kc, hkc⟩ : ∃ kc, kc = (ofLoop ofT k r).2 := ⟨_, rfl⟩
   rw [← hkc] at hsr HCL hkr hc2 ⊢
   have HKC := Lib.hid hkc
   generalize hD : (r.drop kc).length = D at hsr HCL hc2
   have HD := Lib.hid hD
   obtain ⟨X, hX⟩ : ∃ X, X = ofT (r.drop kc) := ⟨_, rfl⟩
   have hX2 : X.2 ≤ (r.drop kc).length := by rw [hX]; exact ofT_le _
   have HX2 : Hid (kc + X.2 ≤ r.length) := Lib.hid (by rw [List.length_drop] at hX2; omega)
   have HXX := Lib.hid hX
   have HLEN : Hid (r.length ≤ 1000000000) := Lib.hid (by have := HP.out.len; rw [List.length_cons] at this; omega)
   have HNR := Lib.hid hNr
   clear hkc hX hD hkr hat hX2 hNr
   go_wp2_with fail
   refine HCL.out.mono ?_
   rintro e W1 ⟨y, rfl, hy, hb1⟩
   have HY := Lib.hid hy
   have HB1 := Lib.hid hb1
   clear hy hb1 hsr
   rw [← HXX.out, tvV_lit]
   go_upto_region 10 with fail
   obtain ⟨V0, hV0⟩ : ∃ V0, V0 = W1.alloc (.cells #[.int .i64 y.k, .int .i64 y.n, .string ⟨y.s.toArray⟩, .slice y.A y.len y.cap] 28) := ⟨_, rfl⟩
   obtain ⟨b8, hb8⟩ : ∃ b8, b8 = W1.heap.size := ⟨_, rfl⟩
   have hV0b : Below W1.heap.size W1 V0 := by rw [hV0]; exact (Below.refl _ _).alloc (Nat.le_refl _) _
   have hy0 : V0.heap[b8]? = some (.cells #[.int .i64 y.k, .int .i64 y.n, .string ⟨y.s.toArray⟩, .slice y.A y.len y.cap] 28 (0, 0)) := by rw [hV0, hb8]; exact heap_alloc_new _ _
   rw [← hV0, ← hb8]
   have hbV : Below wr.heap.size wr V0 := HB1.out.trans (hV0b.mono HB1.out.size)
   have HBV := Lib.hid hbV
   have hbld := HI.out.1.later hbV
   have hxl := hbld.len
   have HYV : Hid (TermS V0 (newB wr.heap.size V0) y X.1) := Lib.hid (by
    rw [HXX.out]
    exact HY.out.keep (fun q hq => ⟨hq.1, Nat.lt_of_lt_of_le hq.2 hV0b.size⟩) (fun q hq => hV0b.block q hq.2))
   obtain ⟨t0, t1, t2, t3, tf⟩ := hbld.cells
   obtain ⟨y0, y1, y2, y3, -⟩ := four_at hy0
   generalize hLL : (ofLoop ofT k r).1 = LL at hbld hxl t3
   have HLL := Lib.hid hLL
   have HBLD := Lib.hid hbld
   have HROW : Hid (Row V0 B 28 4 encTV (.slice A1 LL.length c1) xs) := Lib.hid hbld.row
   have hL7 : LL.length = k := by rw [← hLL]; exact (ofLoop_le ofT_le k r).2
   have hxs9 : xs.length ≤ 7 := by omega
   have HXS := Lib.hid (And.intro hxl hxs9)
   have HBX := Lib.hid hbld.box
   have HBt : Hid (bt < V0.heap.size ∧ bt < B ∧ B ≤ V0.heap.size ∧ B ≤ wr.heap.size) := Lib.hid ⟨(Array.getElem?_eq_some_iff.1 hbld.box).1, hbld.lt, by
    have h1 := HB0.out
    have h2 := (Array.getElem?_eq_some_iff.1 HI.out.1.box).1
    have h3 := hbV.size
    omega, by have h1 := HB0.out; have h2 := (Array.getElem?_eq_some_iff.1 HI.out.1.box).1; omega⟩
   obtain ⟨i0, z0, hi0, hz0, hs0, hby0, hzc0⟩ := term_info
   have hzs : z0.cells.size = 4 := by rw [hzc0]; rfl
   have HIN := Lib.hid (And.intro hi0 (And.intro hz0 (And.intro hs0 (And.intro hby0 hzs))))
   have hw1 : IntKind.i64.wrap (1 + (kc : Int) + (X.2 : Int)) = 1 + (kc : Int) + (X.2 : Int) := IntWalk.i64_in _ (by have := HX2.out; have := HLEN.out; omega)
   have hw2 : IntKind.i64.wrap ((k : Int) + 1) = (k : Int) + 1 := IntWalk.i64_in _ (by omega)
   clear hV0 hb8 hV0b hy0 hbV hbld hxl hLL hL7 hxs9 hi0 hz0 hs0 hby0 hzc0 hzs q0 q1 q2 q3
   go_wp2_with (at_builtin; refine wpList_row_lies rfl _ _ 26 rfl _ B 28 i0 z0 4 56 encTV Tryz.underlying26 HIN.out.1 HIN.out.2.1 HIN.out.2.2.1 HIN.out.2.2.2.1 HIN.out.2.2.2.2 (by decide) encTV_len encTV_one _ xs y rfl (HROW.out.alloc _) _ _ rfl (fun j u hu => fresh_four _ _ _ j u hu) (by have := HXS.out; unfold maxLen; omega) (by have := HXS.out; omega) (by have := HBt.out; simp; omega) ?_; intro g5 cap5 w5 hR5 hg5 hl5; have HR5 := Lib.hid hR5; have HG5 := Lib.hid hg5; have HL5 := Lib.hid hl5; clear hR5 hg5 hl5; obtain ⟨v3, vf⟩ := put_cell HBX.out HBt.out.1 (HROW.out.lt) HBt.out.2.1 HG5.out)
   have HNX : Hid (BldAt B bt p.k p.n p.s (ofLoop ofT (k + 1) r).1 (some ⟨g5, 0, none⟩) cap5 (xs ++ [y]) (w5.setCell ⟨bt, 3, none⟩ (.slice (some ⟨g5, 0, none⟩) (xs.length + 1) cap5)) ∧ Below u.heap.size u (w5.setCell ⟨bt, 3, none⟩ (.slice (some ⟨g5, 0, none⟩) (xs.length + 1) cap5)) ∧ (w5.setCell ⟨bt, 3, none⟩ (.slice (some ⟨g5, 0, none⟩) (xs.length + 1) cap5)).heap[br]? = W.heap[br]? ∧ (w5.setCell ⟨bt, 3, none⟩ (.slice (some ⟨g5, 0, none⟩) (xs.length + 1) cap5)).heap[bp]? = W.heap[bp]?) := Lib.hid (by
    obtain ⟨hB, hbt, hbp, hbr, hsz⟩ := HB0.out
    have hxl := HXS.out.1
    have hR5 := HR5.out
    rw [hxl] at hR5 ⊢
    have hbA : Below V0.heap.size V0 (V0.alloc (.cells #[.int .i64 y.k, .int .i64 y.n, .string ⟨y.s.toArray⟩, .slice y.A y.len y.cap] 28)) := (Below.refl _ _).alloc (Nat.le_refl _) _
    have hown : ∀ q, (Value.slice A1 LL.length c1).ownBlock = some q → B ≤ q ∧ q < V0.heap.size := HROW.out.lt
    have hkeep : ∀ q, q < V0.heap.size → q < B → w5.heap[q]? = V0.heap[q]? := fun q h1 h2 => by
     rw [HG5.out.block q (by simp; omega) (fun e => by have := (hown q e.symm).1; omega)]
     exact Below.heap_alloc _ _ _ h1
    have hBV := HBt.out
    refine ⟨?_, ?_, ?_, ?_⟩
    ·rw [ofLoop_snoc, ← HKC.out, ← HXX.out, HLL.out]
     have h0 := HBLD.out.tms
     have hwr := HI.out.1
     rw [HLL.out] at hwr
     refine BldAt.push hwr (HBV.out.trans (hbA.mono HBV.out.size)) (HYV.out.keep (fun q hq => ⟨hq.1, by have := hq.2; simp; omega⟩) (fun q hq => Below.heap_alloc _ _ _ hq.2)) hBV.2.2.2 hR5 HG5.out ?_
     rcases HL5.out with h | h
     ·exact .inl h
     ·exact .inr h
    ·have h1 : Below u.heap.size u V0 := HI.out.2.1.trans (HBV.out.mono HI.out.2.1.size)
     have h2 : Below u.heap.size u (V0.alloc (.cells #[.int .i64 y.k, .int .i64 y.n, .string ⟨y.s.toArray⟩, .slice y.A y.len y.cap] 28)) := h1.trans (hbA.mono h1.size)
     have h3 : Below u.heap.size u w5 := h2.grown HG5.out h2.size fun q hq => by have := (hown q hq).1; omega
     exact h3.setCell (p := ⟨bt, 3, none⟩) (by simp only; omega) _
    ·have h1 : br < wr.heap.size := (Array.getElem?_eq_some_iff.1 HRR0.out).1
     rw [Below.heap_setCell _ _ _ _ (by simp only; omega), hkeep br (by have := HBV.out.size; omega) (by omega), HBV.out.block br h1]
     exact HI.out.2.2.1
    ·have h1 : bp < wr.heap.size := (Array.getElem?_eq_some_iff.1 HPR.out).1
     rw [Below.heap_setCell _ _ _ _ (by simp only; omega), hkeep bp (by have := HBV.out.size; omega) (by omega), HBV.out.block bp h1]
     exact HI.out.2.2.2)
   have HSD : Hid (((ofLoop ofT (k + 1) r).2 : Nat) = kc + X.2) := Lib.hid (by rw [ofLoop_snoc, ← HKC.out, ← HXX.out])
   have hint : Value.int .i64 (1 + (kc : Int) + (X.2 : Int)) = .int .i64 (1 + ((ofLoop ofT (k + 1) r).2 : Nat)) := by
    rw [HSD.out]
    congr 1
    omega
   have HINT := Lib.hid hint
   clear t0 t1 t2 t3 tf y0 y1 y2 y3 hint
   go_wp2_with fail
   go_roundw
   case rel => exact ⟨k + 1, _, _, _, by omega, HINT.out, rfl, HNX⟩
   all_goals (simp [intOf]; omega)
theorem of_all : ∀ n, OfC n
 | 0 => by
  intro l u A c hl hlc hp
  obtain rfl : l = [] := List.eq_nil_of_length_eq_zero (by omega)
  exact of_nil u A c
 | n + 1 => of_step (of_all n)
def MendPost (u : World) (t : Tm) (e : Ending) (u' : World) : Prop :=
 ∃ x : TV, e = .returned (tvV x) ∧ TermS u' (newB u.heap.size u') x (mendT t) ∧ Below u.heap.size u u'
def MendC (n : Nat) : Prop := ∀ (t : Tm) (u : World) (x : TV), t.size ≤ n → t.size ≤ 1000000000 → TermAt u u.heap.size x t → Calls Tryz.prog 17 #[tvV x] u fun e u' => MendPost u t e u'
theorem mend_eq (t : Tm) : mendT t = if 20 < t.s.length then atomT [97] else if t.k = 1 then varT (max 0 t.n) else if t.k = 2 then intT t.n else if t.k = 3 then atomT t.s else if t.k = 4 then (if t.args.length = 0 then atomT [97] else compT t.s (mendL t.args)) else atomT [97] := by
 obtain ⟨k, n, s, l⟩ := t
 rw [mendT]
 rfl
theorem mendL_snoc : ∀ (l : List Tm) (t : Tm), mendL (l ++ [t]) = mendL l ++ [mendT t]
 | [], t => by simp [mendL]
 | a :: r, t => by rw [List.cons_append, mendL, mendL_snoc r t, mendL]; rfl
theorem arg_in {w : World} {B : Nat} {x : TV} {t : Tm} (h : TermAt w B x t) {i : Nat} (hi : i < t.args.length) :
    ∃ b off y, x.A = some ⟨b, off, none⟩ ∧ b < B ∧ TermAt w B y (t.args.getD i noTm) ∧
     (w.cell? ⟨b, off + i * 4, none⟩ = some (.int .i64 y.k) ∧ w.cell? ⟨b, off + i * 4 + 1, none⟩ = some (.int .i64 y.n) ∧ w.cell? ⟨b, off + i * 4 + 2, none⟩ = some (.string ⟨y.s.toArray⟩) ∧ w.cell? ⟨b, off + i * 4 + 3, none⟩ = some (.slice y.A y.len y.cap)) := by
 obtain ⟨k1, k2, k3, k4, k5, ka⟩ := h.open
 have e0 : t.args[i]? = some (t.args.getD i noTm) := by rw [List.getD_eq_getElem?_getD, List.getElem?_eq_getElem hi]; rfl
 obtain ⟨y, b, off, hA, hb, ht, hc⟩ := ka i _ e0
 exact ⟨b, off, y, hA, hb, ht, hc 0 _ rfl, hc 1 _ rfl, hc 2 _ rfl, hc 3 _ rfl⟩
theorem arg_lt {t : Tm} {i : Nat} (h : i < t.args.length) : (t.args.getD i noTm).size < t.size := by
 have h1 := mem_sizes t.args (t.args.getD i noTm) (by rw [List.getD_eq_getElem?_getD, List.getElem?_eq_getElem h]; exact List.getElem_mem h)
 have h2 := size_args t
 omega
theorem sizes_len : ∀ l : List Tm, l.length ≤ Tm.sizes l
 | [] => Nat.le_refl _
 | t :: r => by
  have h1 := sizes_len r
  have h2 := size_pos t
  rw [Tm.sizes, List.length_cons]
  omega
theorem take_getD {t : Tm} {k : Nat} (h : k < t.args.length) : t.args.take (k + 1) = t.args.take k ++ [t.args.getD k noTm] := by
 rw [List.take_succ_eq_append_getElem h, List.getD_eq_getElem?_getD, List.getElem?_eq_getElem h]
 rfl
theorem mend_leaf {u w : World} {br : Nat} {t : Tm} (k n : Int) (s : List UInt8) (hbr : u.heap.size ≤ br) (hb : Below u.heap.size u w) (hs : s.length ≤ maxLen) (ht : mendT t = .mk k n s []) :
    MendPost u t (.returned (tvV ⟨k, n, s, none, 0, 0⟩)) ((((w.setCell ⟨br, 0, none⟩ (.int .i64 k)).setCell ⟨br, 1, none⟩ (.int .i64 n)).setCell ⟨br, 2, none⟩ (.string ⟨s.toArray⟩)).setCell ⟨br, 3, none⟩ (.slice none 0 0)) :=
 ⟨_, rfl, by rw [ht]; exact TermS.leaf _ _ k n s none 0 hs, (((hb.setCell (p := ⟨br, 0, none⟩) hbr _).setCell (p := ⟨br, 1, none⟩) hbr _).setCell (p := ⟨br, 2, none⟩) hbr _).setCell (p := ⟨br, 3, none⟩) hbr _⟩
set_option maxHeartbeats 16000000 in
theorem mend_step {n : Nat} (hC : MendC n) : MendC (n + 1) := by
 intro t u x hn hsz hx
 obtain ⟨R, hR⟩ : ∃ R : Ending → World → Prop, R = fun e u' => MendPost u t e u' := ⟨_, rfl⟩
 rw [← hR]
 have HRR := Lib.hid hR
 obtain ⟨k1, k2, k3, k4, k5, -⟩ := hx.open
 have hme := mend_eq t
 rw [k1, k2, k3, k4] at hme
 obtain ⟨W, hW⟩ : ∃ W, W = ((u.alloc (.cells #[.int .i64 x.k, .int .i64 x.n, .string ⟨x.s.toArray⟩, .slice x.A x.len x.cap] 28)).alloc (.cells #[.int .i64 0, .int .i64 0, .string ⟨#[]⟩, .slice none 0 0] 28)).alloc (.cells #[.int .i64 3, .int .i64 0, .string ⟨#[97]⟩, .slice none 0 0] 28) := ⟨_, rfl⟩
 have hbW : Below u.heap.size u W := by rw [hW]; exact (((Below.refl _ _).alloc (Nat.le_refl _) _).alloc (by simp) _).alloc (by simp; omega) _
 obtain ⟨bx, hbx⟩ : ∃ b, b = u.heap.size := ⟨_, rfl⟩
 obtain ⟨br, hbr⟩ : ∃ b, b = u.heap.size + 1 := ⟨_, rfl⟩
 obtain ⟨ba, hba⟩ : ∃ b, b = u.heap.size + 1 + 1 := ⟨_, rfl⟩
 have hx0 : W.heap[bx]? = some (.cells #[.int .i64 x.k, .int .i64 x.n, .string ⟨x.s.toArray⟩, .slice x.A x.len x.cap] 28 (0, 0)) := by
  rw [hW, hbx, Below.heap_alloc _ _ _ (by simp; omega), Below.heap_alloc _ _ _ (by simp)]
  exact heap_alloc_new _ _
 have hr0 : W.heap[br]? = some (.cells #[.int .i64 0, .int .i64 0, .string ⟨#[]⟩, .slice none 0 0] 28 (0, 0)) := by
  rw [hW, hbr, Below.heap_alloc _ _ _ (by simp)]
  have := heap_alloc_new (u.alloc (.cells #[.int .i64 x.k, .int .i64 x.n, .string ⟨x.s.toArray⟩, .slice x.A x.len x.cap] 28)) (.cells #[.int .i64 0, .int .i64 0, .string ⟨#[]⟩, .slice none 0 0] 28)
  rwa [World.size_alloc] at this
 have ha0 : W.heap[ba]? = some (.cells #[.int .i64 3, .int .i64 0, .string ⟨#[97]⟩, .slice none 0 0] 28 (0, 0)) := by
  rw [hW, hba]
  have := heap_alloc_new ((u.alloc (.cells #[.int .i64 x.k, .int .i64 x.n, .string ⟨x.s.toArray⟩, .slice x.A x.len x.cap] 28)).alloc (.cells #[.int .i64 0, .int .i64 0, .string ⟨#[]⟩, .slice none 0 0] 28)) (.cells #[.int .i64 3, .int .i64 0, .string ⟨#[97]⟩, .slice none 0 0] 28)
  rwa [World.size_alloc, World.size_alloc] at this
 have hsW : W.heap.size = u.heap.size + 3 := by rw [hW]; simp
 obtain ⟨f0, f1, f2, f3, -⟩ := four_at hx0
 obtain ⟨r0, r1, r2, r3, rf⟩ := four_at hr0
 obtain ⟨a0, a1, a2, a3, -⟩ := four_at ha0
 have hsl : (⟨x.s.toArray⟩ : ByteArray).size = x.s.length := by simp [ByteArray.size]
 have HME := Lib.hid hme
 have HC := Lib.hid hC
 have HX := Lib.hid hx
 have HBW := Lib.hid hbW
 have HR0 := Lib.hid hr0
 have HX0 := Lib.hid hx0
 have HA0 := Lib.hid ha0
 have HB := Lib.hid (And.intro hbx (And.intro hbr (And.intro hba hsW)))
 have HSZ := Lib.hid (And.intro hn hsz)
 have HK := Lib.hid (And.intro k1 (And.intro k2 (And.intro k3 (And.intro k4 k5))))
 have hlr : br < W.heap.size := by omega
 clear hC hn hsz hx hR hme hbW hx0 hr0 ha0 k1 k2 k3 k4 k5 hsW
 rw [tvV_lit]
 by_cases hlen : 20 < x.s.length
 ·have g0 : decide ((20 : Int) < (x.s.length : Int)) = true := by simp; omega
  have g1 : 20 < x.s.length := hlen
  have HFIN := Lib.hid (mend_leaf (u := u) (w := W) (br := br) (t := t) 3 0 [97] (by have := HB.out; omega) HBW.out (by first | exact HK.out.2.2.2.2 | decide) (by rw [HME.out]; rw [if_pos hlen]; rfl))
  have HC4 := Lib.hid (blk_set4 HR0.out rfl (.int .i64 3) (.int .i64 0) (.string ⟨([97] : List UInt8).toArray⟩) (.slice none 0 0))
  clear hlen
  go_enter Tryz.func17, Tryz.ntmps17
  go_upto_region 2 with fail
  rw [← hW, ← hba, ← hbr, ← hbx]
  clear hW hba hbr hbx
  go_wp2_with fail
  obtain ⟨z0, z1, z2, z3, -⟩ := four_at HC4.out
  refine ⟨rfl, .agg #[.int .i64 3, .int .i64 0, .string ⟨([97] : List UInt8).toArray⟩, .slice none 0 0], by simp [results, Tryz.results17, go_sem, z0, z1, z2, z3], ?_⟩
  rw [HRR.out]
  exact HFIN.out
 have g0 : decide ((20 : Int) < (x.s.length : Int)) = false := by simp; omega
 by_cases e1 : x.k = 1
 ·have b1 : (x.k == 1) = true := by rw [e1]; rfl
  by_cases hneg : 0 < x.n
  ·have hmx : max 0 x.n = x.n := by omega
   have HFIN := Lib.hid (mend_leaf (u := u) (w := W) (br := br) (t := t) 1 x.n [] (by have := HB.out; omega) HBW.out (by first | exact HK.out.2.2.2.2 | decide) (by rw [HME.out]; rw [if_neg hlen, if_pos e1, hmx]; rfl))
   have HC4 := Lib.hid (blk_set4 HR0.out rfl (.int .i64 1) (.int .i64 x.n) (.string ⟨([] : List UInt8).toArray⟩) (.slice none 0 0))
   clear e1
   go_enter Tryz.func17, Tryz.ntmps17
   go_upto_region 2 with fail
   rw [← hW, ← hba, ← hbr, ← hbx]
   clear hW hba hbr hbx
   go_wp2_with fail
   obtain ⟨z0, z1, z2, z3, -⟩ := four_at HC4.out
   refine ⟨rfl, .agg #[.int .i64 1, .int .i64 x.n, .string ⟨([] : List UInt8).toArray⟩, .slice none 0 0], by simp [results, Tryz.results17, go_sem, z0, z1, z2, z3], ?_⟩
   rw [HRR.out]
   exact HFIN.out
  ·have hmx : max 0 x.n = 0 := by omega
   have HFIN := Lib.hid (mend_leaf (u := u) (w := W) (br := br) (t := t) 1 0 [] (by have := HB.out; omega) HBW.out (by first | exact HK.out.2.2.2.2 | decide) (by rw [HME.out]; rw [if_neg hlen, if_pos e1, hmx]; rfl))
   have HC4 := Lib.hid (blk_set4 HR0.out rfl (.int .i64 1) (.int .i64 0) (.string ⟨([] : List UInt8).toArray⟩) (.slice none 0 0))
   clear e1
   go_enter Tryz.func17, Tryz.ntmps17
   go_upto_region 2 with fail
   rw [← hW, ← hba, ← hbr, ← hbx]
   clear hW hba hbr hbx
   go_wp2_with fail
   obtain ⟨z0, z1, z2, z3, -⟩ := four_at HC4.out
   refine ⟨rfl, .agg #[.int .i64 1, .int .i64 0, .string ⟨([] : List UInt8).toArray⟩, .slice none 0 0], by simp [results, Tryz.results17, go_sem, z0, z1, z2, z3], ?_⟩
   rw [HRR.out]
   exact HFIN.out
 have b1 : (x.k == 1) = false := beq_eq_false_iff_ne.2 e1
 by_cases e2 : x.k = 2
 ·have b2 : (x.k == 2) = true := by rw [e2]; rfl
  have HFIN := Lib.hid (mend_leaf (u := u) (w := W) (br := br) (t := t) 2 x.n [] (by have := HB.out; omega) HBW.out (by first | exact HK.out.2.2.2.2 | decide) (by rw [HME.out]; rw [if_neg hlen, if_neg e1, if_pos e2]; rfl))
  have HC4 := Lib.hid (blk_set4 HR0.out rfl (.int .i64 2) (.int .i64 x.n) (.string ⟨([] : List UInt8).toArray⟩) (.slice none 0 0))
  clear e1 e2
  go_enter Tryz.func17, Tryz.ntmps17
  go_upto_region 2 with fail
  rw [← hW, ← hba, ← hbr, ← hbx]
  clear hW hba hbr hbx
  go_wp2_with fail
  obtain ⟨z0, z1, z2, z3, -⟩ := four_at HC4.out
  refine ⟨rfl, .agg #[.int .i64 2, .int .i64 x.n, .string ⟨([] : List UInt8).toArray⟩, .slice none 0 0], by simp [results, Tryz.results17, go_sem, z0, z1, z2, z3], ?_⟩
  rw [HRR.out]
  exact HFIN.out
 have b2 : (x.k == 2) = false := beq_eq_false_iff_ne.2 e2
 by_cases e3 : x.k = 3
 ·have b3 : (x.k == 3) = true := by rw [e3]; rfl
  have HFIN := Lib.hid (mend_leaf (u := u) (w := W) (br := br) (t := t) 3 0 x.s (by have := HB.out; omega) HBW.out (by first | exact HK.out.2.2.2.2 | decide) (by rw [HME.out]; rw [if_neg hlen, if_neg e1, if_neg e2, if_pos e3]; rfl))
  have HC4 := Lib.hid (blk_set4 HR0.out rfl (.int .i64 3) (.int .i64 0) (.string ⟨(x.s : List UInt8).toArray⟩) (.slice none 0 0))
  clear e1 e2 e3
  go_enter Tryz.func17, Tryz.ntmps17
  go_upto_region 2 with fail
  rw [← hW, ← hba, ← hbr, ← hbx]
  clear hW hba hbr hbx
  go_wp2_with fail
  obtain ⟨z0, z1, z2, z3, -⟩ := four_at HC4.out
  refine ⟨rfl, .agg #[.int .i64 3, .int .i64 0, .string ⟨(x.s : List UInt8).toArray⟩, .slice none 0 0], by simp [results, Tryz.results17, go_sem, z0, z1, z2, z3], ?_⟩
  rw [HRR.out]
  exact HFIN.out
 have b3 : (x.k == 3) = false := beq_eq_false_iff_ne.2 e3
 by_cases e4 : x.k = 4
 ·have b4 : (x.k == 4) = true := by rw [e4]; rfl
  by_cases hl0 : x.len = 0
  ·have b5 : ((x.len : Int) == 0) = true := by rw [hl0]; rfl
   have HFIN := Lib.hid (mend_leaf (u := u) (w := W) (br := br) (t := t) 3 0 [97] (by have := HB.out; omega) HBW.out (by first | exact HK.out.2.2.2.2 | decide) (by rw [HME.out]; rw [if_neg hlen, if_neg e1, if_neg e2, if_neg e3, if_pos e4, if_pos hl0]; rfl))
   have HC4 := Lib.hid (blk_set4 HR0.out rfl (.int .i64 3) (.int .i64 0) (.string ⟨([97] : List UInt8).toArray⟩) (.slice none 0 0))
   clear e1 e2 e3 e4 hl0
   go_enter Tryz.func17, Tryz.ntmps17
   go_upto_region 2 with fail
   rw [← hW, ← hba, ← hbr, ← hbx]
   clear hW hba hbr hbx
   go_wp2_with fail
   obtain ⟨z0, z1, z2, z3, -⟩ := four_at HC4.out
   refine ⟨rfl, .agg #[.int .i64 3, .int .i64 0, .string ⟨([97] : List UInt8).toArray⟩, .slice none 0 0], by simp [results, Tryz.results17, go_sem, z0, z1, z2, z3], ?_⟩
   rw [HRR.out]
   exact HFIN.out
  ·have b5 : ((x.len : Int) == 0) = false := beq_eq_false_iff_ne.2 (by omega)
   have HLN : Hid (t.args.length = x.len ∧ mendT t = compT x.s (mendL t.args)) := Lib.hid ⟨HK.out.2.2.2.1, by rw [HME.out, if_neg hlen, if_neg e1, if_neg e2, if_neg e3, if_pos e4, if_neg hl0]⟩
   obtain ⟨B, hB⟩ : ∃ B, B = W.heap.size + 1 := ⟨_, rfl⟩
   obtain ⟨bt, hbt⟩ : ∃ b, b = W.heap.size := ⟨_, rfl⟩
   obtain ⟨V, hV⟩ : ∃ V, V = W.alloc (.cells #[.int .i64 4, .int .i64 0, .string ⟨x.s.toArray⟩, .slice none 0 0] 28) := ⟨_, rfl⟩
   have hbV : Below W.heap.size W V := by rw [hV]; exact (Below.refl _ _).alloc (Nat.le_refl _) _
   have ht0 : V.heap[bt]? = some (.cells #[.int .i64 4, .int .i64 0, .string ⟨x.s.toArray⟩, .slice none 0 0] 28 (0, 0)) := by rw [hV, hbt]; exact heap_alloc_new _ _
   have HST := Lib.hid (BldAt.start (B := B) (by omega) HK.out.2.2.2.2 ht0)
   have HBV := Lib.hid (And.intro hbV (And.intro hB hbt))
   have HRV := Lib.hid ((hbV.block br hlr).trans HR0.out)
   have hqx : bx < W.heap.size := by have := HB.out; omega
   have HXV := Lib.hid ((hbV.block bx hqx).trans HX0.out)
   clear e1 e2 e3 e4 hl0 hlen hB hbV ht0
   go_enter Tryz.func17, Tryz.ntmps17
   go_upto_region 2 with fail
   rw [← hW, ← hba, ← hbr, ← hbx]
   clear hW hba hbr hbx
   go_upto_region 15 with fail
   rw [← hV, ← hbt]
   clear hV hbt f0 f1 f2 f3 r0 r1 r2 r3 rf a0 a1 a2 a3
   obtain ⟨f0, f1, f2, f3, -⟩ := four_at HXV.out
   go_wp2_with fail
   go_loopw [44] (fun i wr => ∃ (k : Nat) (A1 : Option Addr) (c1 : Nat) (xs : List TV), k ≤ x.len ∧ i = .int .i64 k ∧ Hid (BldAt B bt 4 0 x.s (mendL (t.args.take k)) A1 c1 xs wr ∧ Below u.heap.size u wr ∧ wr.heap[br]? = W.heap[br]? ∧ B ≤ wr.heap.size)) (fun i _ => x.len - (intOf i).toNat)
   case atStart => exact ⟨0, none, 0, [], Nat.zero_le _, rfl, Lib.hid ⟨by simpa [mendL] using HST.out, HBW.out.trans (HBV.out.1.mono HBW.out.size), HBV.out.1.block br hlr, by have := HBV.out; have h5 := (Array.getElem?_eq_some_iff.1 HST.out.box).1; omega⟩⟩
   case round =>
    obtain ⟨k, A1, c1, xs, hk, rfl, HI⟩ := hrel
    have HRR0 := Lib.hid (HI.out.2.2.1.trans HR0.out)
    clear f0 f1 f2 f3
    by_cases hkl : k < x.len
    case neg =>
     have hke : k = x.len := by omega
     have b9 : decide ((k : Int) < (x.len : Int)) = false := by simp; omega
     have HKE := Lib.hid hke
     obtain ⟨t0, t1, t2, t3, -⟩ := HI.out.1.cells
     obtain ⟨r0, r1, r2, r3, rf⟩ := four_at HRR0.out
     have htk : t.args.take k = t.args := by rw [hke, ← HLN.out.1, List.take_length]
     have HTK := Lib.hid htk
     have HFIN : Hid (MendPost u t (.returned (tvV ⟨4, 0, x.s, A1, (mendL (t.args.take k)).length, c1⟩)) ((((wr.setCell ⟨br, 0, none⟩ (.int .i64 4)).setCell ⟨br, 1, none⟩ (.int .i64 0)).setCell ⟨br, 2, none⟩ (.string ⟨x.s.toArray⟩)).setCell ⟨br, 3, none⟩ (.slice A1 (mendL (t.args.take k)).length c1))) := Lib.hid (by
      have hBB := HB.out
      have hBV := HBV.out
      refine ⟨⟨4, 0, x.s, A1, (mendL (t.args.take k)).length, c1⟩, rfl, ?_, ?_⟩
      ·rw [HLN.out.2]
       have hd := HI.out.1.done
       rw [htk] at hd ⊢
       refine hd.keep (fun q hq => ⟨by have := hq.1; omega, ?_⟩) (fun q hq => blk_set4_ne _ _ _ _ (by have := hq.1; omega))
       have := hq.2
       simpa using this
      ·have h1 := HI.out.2.1
       exact (((h1.setCell (p := ⟨br, 0, none⟩) (by simp only; omega) _).setCell (p := ⟨br, 1, none⟩) (by simp only; omega) _).setCell (p := ⟨br, 2, none⟩) (by simp only; omega) _).setCell (p := ⟨br, 3, none⟩) (by simp only; omega) _)
     have HC4 := Lib.hid (blk_set4 HRR0.out rfl (.int .i64 4) (.int .i64 0) (.string ⟨x.s.toArray⟩) (.slice A1 (mendL (t.args.take k)).length c1))
     clear hke htk
     go_wp2_with fail
     obtain ⟨z0, z1, z2, z3, -⟩ := four_at HC4.out
     refine ⟨rfl, .agg #[.int .i64 4, .int .i64 0, .string ⟨x.s.toArray⟩, .slice A1 (mendL (t.args.take k)).length c1], by simp [results, Tryz.results17, go_sem, z0, z1, z2, z3], ?_⟩
     rw [HRR.out]
     exact HFIN.out
    have b9 : decide ((k : Int) < (x.len : Int)) = true := by simp; omega
    have hk0 : (0 : Int) ≤ (k : Int) := by omega
    have hk1 : (k : Int) < (x.len : Int) := by omega
    have hka : k < t.args.length := by rw [HLN.out.1]; exact hkl
    obtain ⟨b, off, y, hA, hbB, hy, m0, m1, m2, m3⟩ := arg_in (HX.out.blw HI.out.2.1) hka
    have hbw : b < wr.heap.size := by have := HI.out.2.1.size; omega
    obtain ⟨V1, hV1⟩ : ∃ V1, V1 = wr.alloc (.cells #[.int .i64 y.k, .int .i64 y.n, .string ⟨y.s.toArray⟩, .slice y.A y.len y.cap] 28) := ⟨_, rfl⟩
    obtain ⟨b6, hb6⟩ : ∃ b6, b6 = wr.heap.size := ⟨_, rfl⟩
    have hbV1 : Below wr.heap.size wr V1 := by rw [hV1]; exact (Below.refl _ _).alloc (Nat.le_refl _) _
    have hy0 : V1.heap[b6]? = some (.cells #[.int .i64 y.k, .int .i64 y.n, .string ⟨y.s.toArray⟩, .slice y.A y.len y.cap] 28 (0, 0)) := by rw [hV1, hb6]; exact heap_alloc_new _ _
    have HM : Hid (∀ v, Below V1.heap.size V1 v → Calls Tryz.prog 17 #[.agg #[.int .i64 y.k, .int .i64 y.n, .string ⟨y.s.toArray⟩, .slice y.A y.len y.cap]] v fun e v' => ∃ z : TV, e = .returned (.agg #[.int .i64 z.k, .int .i64 z.n, .string ⟨z.s.toArray⟩, .slice z.A z.len z.cap]) ∧ TermS v' (newB V1.heap.size v') z (mendT (t.args.getD k noTm)) ∧ Below V1.heap.size V1 v') := Lib.hid fun v hv => by
     have h1 := arg_lt hka
     have h2 : TermAt v v.heap.size y (t.args.getD k noTm) := ((hy.up (by have := HI.out.2.1.size; omega)).blw (B := wr.heap.size) hbV1 |>.blw (hv.mono hbV1.size)).up (by have := hbV1.size; have := hv.size; omega)
     have h3 := HSZ.out
     rw [← tvV_lit]
     refine (HC.out _ v y (by omega) (by omega) h2).mono ?_
     rintro e v' ⟨z, rfl, h4, h5⟩
     exact ⟨z, by rw [tvV_lit], h4.keep (fun q hq => ⟨Nat.le_trans hv.size hq.1, hq.2⟩) (fun _ _ => rfl), hv.trans (h5.mono hv.size)⟩
    have HCB : Hid (∀ v, Below V1.heap.size V1 v → BldAt B bt 4 0 x.s (mendL (t.args.take k)) A1 c1 xs v) := Lib.hid fun v hv => HI.out.1.later (hbV1.trans (hv.mono hbV1.size))
    have HBV1 := Lib.hid hbV1
    have HS1 : Hid (∀ v, Below V1.heap.size V1 v → v.cell? ⟨bt, 3, none⟩ = some (.slice A1 (mendL (t.args.take k)).length c1) ∧ v.cell? ⟨b6, 0, none⟩ = some (.int .i64 y.k) ∧ v.cell? ⟨b6, 1, none⟩ = some (.int .i64 y.n) ∧ v.cell? ⟨b6, 2, none⟩ = some (.string ⟨y.s.toArray⟩) ∧ v.cell? ⟨b6, 3, none⟩ = some (.slice y.A y.len y.cap)) := Lib.hid fun v hv => by
     obtain ⟨-, -, -, h3, -⟩ := (HCB.out v hv).cells
     obtain ⟨g0, g1, g2, g3, -⟩ := four_at ((hv.block b6 (Array.getElem?_eq_some_iff.1 hy0).1).trans hy0)
     exact ⟨h3, g0, g1, g2, g3⟩
    have hbr1 := Below.refl V1.heap.size V1
    have hbd1 : Below V1.heap.size V1 V1.drew := (Below.refl V1.heap.size V1).drew
    have hL9 : (mendL (t.args.take k)).length = k := by rw [mendL_len, List.length_take]; omega
    have hxl := HI.out.1.len
    have HXL := Lib.hid (And.intro hL9 hxl)
    have hxs9 : xs.length ≤ 1000000000 := by have := HSZ.out.2; have := size_args t; have := sizes_len t.args; omega
    have HX9 := Lib.hid hxs9
    have HBB := Lib.hid (And.intro HI.out.2.2.2 (And.intro hbV1.size HI.out.1.lt))
    obtain ⟨i0, z0, hi0, hz0, hs0, hby0, hzc0⟩ := term_info
    have hzs : z0.cells.size = 4 := by rw [hzc0]; rfl
    have HIN := Lib.hid (And.intro hi0 (And.intro hz0 (And.intro hs0 (And.intro hby0 hzs))))
    have hw2 : IntKind.i64.wrap ((k : Int) + 1) = (k : Int) + 1 := IntWalk.i64_in _ (by omega)
    rw [hA] at *
    clear hbV1 hy0 hL9 hxl hxs9 hi0 hz0 hs0 hby0 hzc0 hzs hA hbB hy hka
    go_upto_region 18 with fail
    rw [← hV1, ← hb6]
    clear hV1 hb6 m0 m1 m2 m3 hbw
    obtain ⟨t3, y0, y1, y2, y3⟩ := HS1.out V1 hbr1
    go_region_law (first | (go_simp; go_at_call 17; refine (HM.out _ (by assumption)).mono ?_; rintro e W1 ⟨z, rfl, hz, hb1⟩; obtain ⟨t3', -⟩ := HS1.out W1 hb1; have hbt1 : bt < W1.heap.size := (Array.getElem?_eq_some_iff.1 (HCB.out W1 hb1).box).1; have HZ := Lib.hid hz; have HB9 := Lib.hid hb1) | (refine step_append_lies _ (by rfl) _ _ _ (by rfl) B 28 i0 z0 4 56 Tryz.underlying26 HIN.out.1 HIN.out.2.1 HIN.out.2.2.1 HIN.out.2.2.2.1 HIN.out.2.2.2.2 (by decide) (.slice A1 (mendL (t.args.take k)).length c1) xs.length (xs.flatMap encTV) (by rfl) ((HCB.out W1 HB9.out).row.alloc _).own ⟨W1.heap.size, 0, none⟩ 1 1 (encTV z) (by rfl) (by rfl) (fun j u hu => by rw [show (⟨W1.heap.size, 0, none⟩ : Addr).add j = ⟨W1.heap.size, j, none⟩ by unfold Addr.add; split <;> simp_all]; exact fresh_four _ _ _ j u hu) (encTV_one _) (by omega) (by have := HX9.out; unfold maxLen; omega) (by have := HX9.out; omega) (by have := HBB.out; have := HB9.out.size; simp; omega) (W1.heap.size + 1) (by simp) ?_; intro g5 cap5 w5 hown5 hg5 hl5 _; obtain ⟨v3, vf⟩ := put_cell (HCB.out W1 HB9.out).box (Array.getElem?_eq_some_iff.1 (HCB.out W1 HB9.out).box).1 (HCB.out W1 HB9.out).row.lt HBB.out.2.2 hg5; have HO5 := Lib.hid hown5; have HG5 := Lib.hid hg5; have HL5 := Lib.hid hl5; clear hown5 hg5 hl5))
    all_goals
     have HNX : Hid (BldAt B bt 4 0 x.s (mendL (t.args.take (k + 1))) (some ⟨g5, 0, none⟩) cap5 (xs ++ [z]) (w5.setCell ⟨bt, 3, none⟩ (.slice (some ⟨g5, 0, none⟩) (xs.length + 1) cap5)) ∧ Below u.heap.size u (w5.setCell ⟨bt, 3, none⟩ (.slice (some ⟨g5, 0, none⟩) (xs.length + 1) cap5)) ∧ (w5.setCell ⟨bt, 3, none⟩ (.slice (some ⟨g5, 0, none⟩) (xs.length + 1) cap5)).heap[br]? = W.heap[br]? ∧ B ≤ (w5.setCell ⟨bt, 3, none⟩ (.slice (some ⟨g5, 0, none⟩) (xs.length + 1) cap5)).heap.size) := Lib.hid (by
      have hBB := HB.out
      have hBV := HBV.out
      have hB1 := HBB.out
      have hb9 := HB9.out
      have hwb : Below wr.heap.size wr W1 := HBV1.out.trans (hb9.mono HBV1.out.size)
      have hW1 := HCB.out W1 hb9
      have hbA : Below W1.heap.size W1 (W1.alloc (.cells #[.int .i64 z.k, .int .i64 z.n, .string ⟨z.s.toArray⟩, .slice z.A z.len z.cap] 28)) := (Below.refl _ _).alloc (Nat.le_refl _) _
      have hR5 : Row w5 B 28 4 encTV (.slice (some ⟨g5, 0, none⟩) (xs.length + 1) cap5) (xs ++ [z]) := ⟨by rw [List.flatMap_append, List.length_append]; simpa using HO5.out⟩
      have hown : ∀ q, (Value.slice A1 (mendL (t.args.take k)).length c1).ownBlock = some q → B ≤ q ∧ q < W1.heap.size := hW1.row.lt
      have hkeep : ∀ q, q < W1.heap.size → q < B → w5.heap[q]? = W1.heap[q]? := fun q h1 h2 => by
       rw [HG5.out.block q (by simp; omega) (fun e => by have := (hown q e.symm).1; omega)]
       exact Below.heap_alloc _ _ _ h1
      have hg5 : W1.heap.size ≤ w5.heap.size := by have := HG5.out.size; simp at this; omega
      refine ⟨?_, ?_, ?_, ?_⟩
      ·rw [take_getD (by rw [HLN.out.1]; exact hkl), mendL_snoc]
       have hx1 := HXL.out.2
       rw [hx1] at hR5 ⊢
       refine BldAt.push HI.out.1 (hwb.trans (hbA.mono hwb.size)) (HZ.out.keep (fun q hq => ⟨by have := hq.1; omega, by have := hq.2; simp; omega⟩) (fun q hq => Below.heap_alloc _ _ _ hq.2)) hB1.1 hR5 HG5.out ?_
       rcases HL5.out with h | h
       ·exact .inl h
       ·exact .inr (by rw [h]; simp)
      ·have h1 : Below u.heap.size u W1 := HI.out.2.1.trans (hwb.mono HI.out.2.1.size)
       have h2 : Below u.heap.size u (W1.alloc (.cells #[.int .i64 z.k, .int .i64 z.n, .string ⟨z.s.toArray⟩, .slice z.A z.len z.cap] 28)) := h1.trans (hbA.mono h1.size)
       have h3 : Below u.heap.size u w5 := h2.grown HG5.out h2.size fun q hq => by have := (hown q hq).1; omega
       exact h3.setCell (p := ⟨bt, 3, none⟩) (by simp only; omega) _
      ·have h1 : br < wr.heap.size := (Array.getElem?_eq_some_iff.1 HRR0.out).1
       rw [Below.heap_setCell _ _ _ _ (by simp only; omega), hkeep br (by have := hwb.size; omega) (by omega), hwb.block br h1]
       exact HI.out.2.2.1
      ·rw [World.size_setCell]
       have := hwb.size
       omega)
     clear t3 t3' y0 y1 y2 y3 v3 vf hbr1 hbd1
     go_wp2_with fail
     go_roundw
     case rel => exact ⟨k + 1, _, _, _, by omega, rfl, HNX⟩
     all_goals (simp [intOf]; omega)
 have b4 : (x.k == 4) = false := beq_eq_false_iff_ne.2 e4
 have HFIN := Lib.hid (mend_leaf (u := u) (w := W) (br := br) (t := t) 3 0 [97] (by have := HB.out; omega) HBW.out (by first | exact HK.out.2.2.2.2 | decide) (by rw [HME.out]; rw [if_neg hlen, if_neg e1, if_neg e2, if_neg e3, if_neg e4]; rfl))
 have HC4 := Lib.hid (blk_set4 HR0.out rfl (.int .i64 3) (.int .i64 0) (.string ⟨([97] : List UInt8).toArray⟩) (.slice none 0 0))
 clear e1 e2 e3 e4
 go_enter Tryz.func17, Tryz.ntmps17
 go_upto_region 2 with fail
 rw [← hW, ← hba, ← hbr, ← hbx]
 clear hW hba hbr hbx
 go_wp2_with fail
 obtain ⟨z0, z1, z2, z3, -⟩ := four_at HC4.out
 refine ⟨rfl, .agg #[.int .i64 3, .int .i64 0, .string ⟨([97] : List UInt8).toArray⟩, .slice none 0 0], by simp [results, Tryz.results17, go_sem, z0, z1, z2, z3], ?_⟩
 rw [HRR.out]
 exact HFIN.out
theorem mend_all : ∀ n, MendC n
 | 0 => fun t _ _ h _ _ => by have := size_pos t; omega
 | n + 1 => mend_step (mend_all n)
end Go.Proofs.YtcallkljcjimiaaGreatDoor
