import Derived.Test.YtcallkljcjimiaaGreatDoorJG07
import Derived.Test.YtcallkljcjimiaaGreatDoorJG06
import Derived.Test.YtcallkljcjimiaaGreatDoorJW35
import Derived.Deep.AppendLies
import Derived.Deep.RegionLaw
import Derived.WalkKit
import Derived.WalkSmall
import Derived.Lib.Hide
import Derived.Laws.AppendOwn
import Derived.Laws.MakeOwn
import Derived.Deep.OwnRows
import Derived.Test.YtcallkljcjimiaaGreatDoorProg
import Derived.LoopTactic
import Derived.BigQuiet
import Derived.Deep.QuietTactic
import Derived.Laws.IdiomStrings
import Derived.Laws.BytesArg
import Derived.Laws.DeepStrings4
import Derived.StillTailTactics
import Derived.Deep.RegionHeld3
import Derived.Shelf.Small.Strs
import Derived.Shelf.Strings.Search1
import Derived.Shelf.Strings.Search2
import Derived.Shelf.Strings.Search3
import Derived.Shelf.Strings.Count
import Derived.Shelf.LaysM
import Derived.Shelf.Strings.Shaped
import Derived.Shelf.Strings.Prefix
import Derived.Deep.LoopGhost
import Derived.IntWalk
import Derived.Lib.Index
import Derived.KernelRfl
import Derived.Laws.AppendOwnNone
import Derived.WalkSpells
import Derived.Maps.Keyed
import Derived.StringKeys
import Derived.Lib.ItoaMem
import Derived.Lib.ItoaNum
import Derived.Shelf.Small.Wraps
import Derived.Shelf.Strings.Fields
import Derived.Laws.OwnMore
import Derived.Deep.Cut
import Derived.Deep.CutRange
import Derived.Deep.DeepCutAuto
import Derived.Deep.DrawnRows
import Derived.Defers
import Derived.Recover
import Derived.Laws.EntriesVeiled
import Derived.LoopN
import Derived.Shelf.Strconv.Itoa4
import Derived.Lib.AppendStr
namespace Go.Proofs.YtcallkljcjimiaaGreatDoor
open Go.RowKit
set_option maxRecDepth 100000
section
variable {w u u' : World} {B bx tb a ln en : Nat} {T : List UInt8} {v : Value} {ts : List Tok} {t : TokIs} {tl : Int} {o q : Bool}
theorem AddSt.alloc (h : AddSt w B bx tb T a ln en v ts t tl o q u) (ob : Obj) : AddSt w B bx tb T a ln en v ts t tl o q (u.alloc ob) :=
 ⟨h.lex.later ((Below.refl _ _).alloc (Nat.le_refl _) _), (((Below.refl u.heap.size u).alloc (Nat.le_refl _) ob).block tb (Array.getElem?_eq_some_iff.1 h.tok).1).trans h.tok, h.row.alloc _, h.fr.alloc _, h.bx_lt, h.base, h.ne⟩
end
end Go.Proofs.YtcallkljcjimiaaGreatDoor
namespace Go.Proofs.YtcallkljcjimiaaGreatDoor
theorem upTo_len (k : Nat) : (upTo k).length = k := by unfold upTo; simp
theorem upTo_get {k i : Nat} (h : i < k) : (upTo k)[i]? = some (i : Int) := by unfold upTo; simp [h]
theorem upTo_mem {k : Nat} {n : Int} : n ∈ upTo k ↔ 0 ≤ n ∧ n < (k : Int) := by
 unfold upTo
 simp only [List.mem_map, List.mem_range]
 constructor
 ·rintro ⟨i, hi, rfl⟩
  omega
 ·rintro ⟨h1, h2⟩
  exact ⟨n.toNat, by omega, by omega⟩
theorem upTo_pre {a b : List Int} {k : Nat} (h : a ++ b = upTo k) : a = upTo a.length := by
 have hk : a.length ≤ k := by
  have := congrArg List.length h
  rw [List.length_append, upTo_len] at this
  omega
 apply List.ext_getElem?
 intro i
 by_cases hi : i < a.length
 ·rw [upTo_get hi]
  have h1 : (a ++ b)[i]? = (upTo k)[i]? := by rw [h]
  rw [List.getElem?_append_left hi, upTo_get (by omega)] at h1
  exact h1
 ·rw [List.getElem?_eq_none (by omega), List.getElem?_eq_none (by rw [upTo_len]; omega)]
theorem firsts_pre : ∀ (l seen : List Int), ∃ m, firsts seen l = seen ++ m
 | [], seen => ⟨[], by simp [firsts]⟩
 | n :: r, seen => by
  rw [firsts]
  split
  ·exact firsts_pre r seen
  ·obtain ⟨m, hm⟩ := firsts_pre r (seen ++ [n])
   exact ⟨[n] ++ m, by rw [hm, List.append_assoc]⟩
theorem posF_upTo (k : Nat) (n : Int) (h : 0 ≤ n ∧ n < (k : Int)) : posF (upTo k) n = some n.toNat := by
 have key : ∀ (l : List Int) (j : Nat), (∀ i, i < l.length → l[i]? = some ((j + i : Nat) : Int)) → (j : Int) ≤ n → n < ((j + l.length : Nat) : Int) → posF l n = some (n.toNat - j) := by
  intro l
  induction l with
  | nil => intro j _ h1 h2; simp at h2; omega
  | cons x r ih =>
   intro j hg h1 h2
   have hx : x = (j : Int) := by have := hg 0 (by simp); simpa using this
   rw [posF]
   by_cases e : x = n
   ·rw [if_pos e]
    congr 1
    omega
   ·rw [if_neg e, ih (j + 1) (fun i hi => by have := hg (i + 1) (by simpa using hi); rw [List.getElem?_cons_succ] at this; rw [this]; congr 1; omega) (by omega) (by rw [List.length_cons] at h2; omega)]
    rw [Option.map_some]
    congr 1
    omega
 have := key (upTo k) 0 (fun i hi => by rw [upTo_len] at hi; rw [upTo_get hi]; congr 1; omega) (by omega) (by rw [upTo_len]; omega)
 rw [this]
 congr 1
theorem var_leaf {k n : Int} {s : List UInt8} {l : List Tm} (h : (Tm.mk k n s l).may = true) (hk : k = 1) : s = [] ∧ l = [] := by
 rw [Tm.may, Bool.and_eq_true] at h
 have h1 := h.1
 unfold mayP at h1
 rw [if_pos hk] at h1
 have h2 := of_decide_eq_true h1
 exact ⟨h2.2.1, List.length_eq_zero_iff.1 h2.2.2⟩
theorem pos_mem : ∀ (seen : List Int) (n : Int), (∃ i, posF seen n = some i) ↔ n ∈ seen
 | [], n => by simp [posF]
 | x :: r, n => by
  rw [posF]
  by_cases h : x = n
  ·rw [if_pos h]
   exact ⟨fun _ => by rw [h]; exact List.mem_cons_self .., fun _ => ⟨0, rfl⟩⟩
  ·rw [if_neg h]
   have ih := pos_mem r n
   constructor
   ·rintro ⟨i, hi⟩
    cases hp : posF r n with
    | none => rw [hp] at hi; cases hi
    | some j => exact List.mem_cons_of_mem _ (ih.1 ⟨j, hp⟩)
   ·intro e
    rcases List.mem_cons.1 e with e | e
    ·exact absurd e.symm h
    ·obtain ⟨j, hj⟩ := ih.2 e
     exact ⟨j + 1, by rw [hj]; rfl⟩
mutual
theorem nrT_firsts : ∀ (t : Tm) (seen : List Int), t.may = true → (nrT seen t).2 = firsts seen (varsT t)
 | .mk k n s l, seen, hm => by
  rw [nrT, varsT]
  by_cases hk : k = 1
  ·have hv := var_leaf hm hk
   have hl : l = [] := hv.2
   subst hl
   rw [if_pos hk, if_pos hk, varsL, List.append_nil, firsts, firsts, firsts]
   have hp := pos_mem seen n
   split
   ·rename_i i hi
    rw [if_pos (hp.1 ⟨i, hi⟩)]
   ·rename_i hi
    rw [if_neg (fun e => by obtain ⟨i, h⟩ := hp.2 e; rw [h] at hi; cases hi)]
  ·rw [if_neg hk, if_neg hk, List.nil_append]
   rw [Tm.may, Bool.and_eq_true] at hm
   exact nrTs_firsts l seen hm.2
theorem nrTs_firsts : ∀ (l : List Tm) (seen : List Int), Tm.mays l = true → (nrTs seen l).2 = firsts seen (varsL l)
 | [], seen, _ => by rw [nrTs, varsL, firsts]
 | t :: r, seen, hm => by
  rw [Tm.mays, Bool.and_eq_true] at hm
  rw [nrTs, varsL, firsts_app, ← nrT_firsts t seen hm.1]
  exact nrTs_firsts r _ hm.2
end
mutual
theorem nrT_id : ∀ (t : Tm) (j k : Nat), t.may = true → firsts (upTo j) (varsT t) = upTo k → (nrT (upTo j) t).1 = t
 | .mk kk n s l, j, k, hm, hf => by
  rw [nrT]
  by_cases hk : kk = 1
  ·have hv := var_leaf hm hk
   have hl : l = [] := hv.2
   have hs : s = [] := hv.1
   subst hl hs hk
   rw [if_pos rfl]
   rw [varsT, if_pos rfl, varsL, List.append_nil, firsts] at hf
   by_cases hn : n ∈ upTo j
   ·have h1 := upTo_mem.1 hn
    rw [posF_upTo j n h1]
    simp only
    unfold varT
    rw [show ((n.toNat : Nat) : Int) = n by omega]
   ·have hp : posF (upTo j) n = none := by
     cases hp : posF (upTo j) n with
     | none => rfl
     | some i => exact absurd ((pos_mem _ _).1 ⟨i, hp⟩) hn
    rw [hp]
    simp only
    rw [if_neg hn, firsts] at hf
    have hlen := congrArg List.length hf
    rw [List.length_append, upTo_len, upTo_len, List.length_cons, List.length_nil] at hlen
    have hg : (upTo j ++ [n])[j]? = (upTo k)[j]? := by rw [hf]
    rw [List.getElem?_append_right (by rw [upTo_len]; exact Nat.le_refl _), upTo_len, Nat.sub_self, upTo_get (by omega)] at hg
    have hg : n = (j : Int) := by simpa using hg
    rw [hg]
    unfold varT
    rw [upTo_len]
  ·rw [if_neg hk]
   rw [varsT, if_neg hk, List.nil_append] at hf
   rw [Tm.may, Bool.and_eq_true] at hm
   rw [nrTs_id l j k hm.2 hf]
theorem nrTs_id : ∀ (l : List Tm) (j k : Nat), Tm.mays l = true → firsts (upTo j) (varsL l) = upTo k → (nrTs (upTo j) l).1 = l
 | [], j, k, _, _ => by rw [nrTs]
 | t :: r, j, k, hm, hf => by
  rw [Tm.mays, Bool.and_eq_true] at hm
  rw [varsL, firsts_app] at hf
  obtain ⟨m, hm2⟩ := firsts_pre (varsL r) (firsts (upTo j) (varsT t))
  have h1 := upTo_pre (hm2.symm.trans hf)
  have h2 := nrT_firsts t (upTo j) hm.1
  rw [nrTs]
  simp only
  rw [nrT_id t j _ hm.1 h1, h2, h1]
  rw [h1] at hf
  rw [nrTs_id r _ k hm.2 hf]
end
structure AgainOk (o : OpsF) (T : List UInt8) (c : ClauseF) : Prop where
 wf : WfT c.t
 deep : c.t.deep ≤ 2000
 size : c.t.size ≤ 20000
 same : (nrT [] c.t).1 = c.t
 short : ∀ es way m, (wrT es way c.t m).length ≤ 15200
theorem again_ok {o : OpsF} {T : List UInt8} {c : ClauseF} (hT : T.length ≤ 800) (hr : readF o (lexB T).1 ((0 : Nat) : Int) = (c, 0)) : AgainOk o T c := by
 have hR := read_right hr
 have hfew : (lexB T).1.length ≤ 9999 := by have := (lexB_ok T).2; omega
 obtain ⟨hl, hk, sf, he, h1, h2, h3, hc⟩ := read_ok hr
 have hN : NumTs (lexB T).1 := fun t ht => ((lexB_ok T).1 t ht).n
 have hw := read_wgA he
 have hlow := read_low hN hfew he
 have ha := lex_allow T
 have hct : c.t = sf.t := by rw [hc]
 obtain ⟨k, hkv⟩ := hR.vars
 have hWf : WfT c.t := ⟨hR.may, by rw [hct]; exact hlow.1⟩
 refine ⟨hWf, hR.deep, hR.size, nrT_id c.t 0 k hR.may hkv, fun es way m => ?_⟩
 have h4 := wr_wgA es way c.t.size c.t m (Nat.le_refl _) ⟨hWf, by rw [hct]; exact hlow.2⟩
 rw [hct] at h4 ⊢
 omega
open Go.RowKit Go.Maps
set_option maxRecDepth 100000
theorem tokOk_w {T : List UInt8} (h : T.length ≤ 1600) : TokOk (lexB T).1 := by
 obtain ⟨h1, h2⟩ := lexB_ok T
 have h3 := volA_le 1600 (lexB T).1 fun t ht => Nat.le_trans (h1 t ht).short h
 refine ⟨by omega, fun t ht => by have := (h1 t ht).short; omega, fun t ht => ⟨(h1 t ht).n, ?_⟩, ?_⟩
 ·have := (h1 t ht).k0
  have := (h1 t ht).k7
  unfold okI
  omega
 ·rw [vol_len]
  have h4 : (lexB T).1.length ≤ 1601 := by omega
  have h5 := Nat.mul_le_mul_right (2 + 2 * 1600) h4
  omega
structure WrEnv (w : World) : Prop where
 rd : RdEnv w
 wr : WrT w
theorem WrEnv.later {w w' : World} (h : WrEnv w) (hb : Below w.heap.size w w') : WrEnv w' := ⟨h.rd.later hb, h.wr.later hb⟩
theorem clause_put {u u' : World} {c : ClauseF × Int} {e : Ending} (ho : ReadOut u u' c e) :
    ∃ x An m, e = .returned (.tuple #[clV x (.slice An c.1.names.length m) c.1.line c.1.next, .int .i64 c.2]) ∧
     ∀ U, U = u'.alloc (.cells #[.int .i64 x.k, .int .i64 x.n, .string ⟨x.s.toArray⟩, .slice x.A x.len x.cap, .slice An c.1.names.length m, .int .i64 c.1.line, .int .i64 c.1.next] 50) →
     Below u.heap.size u U ∧ TermAt U U.heap.size x c.1.t ∧
     U.heap[u'.heap.size]? = some (.cells #[.int .i64 x.k, .int .i64 x.n, .string ⟨x.s.toArray⟩, .slice x.A x.len x.cap, .slice An c.1.names.length m, .int .i64 c.1.line, .int .i64 c.1.next] 50 (0, 0)) := by
 obtain ⟨hb, x, nv, B, rfl, hx, hn⟩ := ho
 obtain ⟨An, m, rfl⟩ := hn.shape
 refine ⟨x, An, m, rfl, fun U hU => ?_⟩
 subst hU
 have hb' := hb.trans ((Below.refl _ _).alloc hb.size (.cells #[.int .i64 x.k, .int .i64 x.n, .string ⟨x.s.toArray⟩, .slice x.A x.len x.cap, .slice An c.1.names.length m, .int .i64 c.1.line, .int .i64 c.1.next] 50))
 refine ⟨hb', ?_, heap_alloc_new _ _⟩
 exact ((hx.at fun b hb => hb.lt) : TermAt u' u'.heap.size x c.1.t).later ((Below.refl _ _).alloc (Nat.le_refl _) _)
theorem clause_at {w : World} {b : Nat} {a0 a1 a2 a3 a4 a5 a6 : Value} {t : TypeId} (h : w.heap[b]? = some (.cells #[a0, a1, a2, a3, a4, a5, a6] t (0, 0))) :
    w.cell? ⟨b, 0, none⟩ = some a0 ∧ w.cell? ⟨b, 1, none⟩ = some a1 ∧ w.cell? ⟨b, 2, none⟩ = some a2 ∧ w.cell? ⟨b, 3, none⟩ = some a3 ∧ w.cell? ⟨b, 6, none⟩ = some a6 :=
 ⟨by rw [cell_of_row w b 0 _ t (0, 0) h]; rfl, by rw [cell_of_row w b 1 _ t (0, 0) h]; rfl, by rw [cell_of_row w b 2 _ t (0, 0) h]; rfl, by rw [cell_of_row w b 3 _ t (0, 0) h]; rfl, by rw [cell_of_row w b 6 _ t (0, 0) h]; rfl⟩
set_option maxHeartbeats 4000000 in
theorem wput_nil (u : World) (a : Value) (way : Int) (ha : a = .agg #[.int .i64 2, .int .i64 0, .string ⟨#[]⟩, .slice none 0 0]) :
    Calls Tryz.prog 14 #[a, .int .i64 way, .pointer none] u fun e u' => e = .returned (.tuple #[.string ⟨#[]⟩, .int .i64 1]) ∧ Below u.heap.size u u' := by
 subst ha
 go_enter Tryz.func14, Tryz.ntmps14
 go_wp2_with fail
 go_ret2
 exact ⟨rfl, (Below.refl _ _).alloc (Nat.le_refl _) _⟩
structure Al7 (w u : World) (bt bm : Nat) : Prop where
 below : Below w.heap.size w u
 tab : TabAt u bt bm opsInit
 env : WrEnv u
theorem Al7.later {w u u' : World} {bt bm : Nat} (h : Al7 w u bt bm) (hb : Below u.heap.size u u') : Al7 w u' bt bm := ⟨h.below.trans (hb.mono h.below.size), h.tab.later hb, h.env.later hb⟩
set_option maxHeartbeats 16000000 in
theorem alive7_any (w : World) (hE : WrEnv w) : Calls Tryz.prog 9 #[] w fun e w' => e = .returned (.bool true) ∧ Below w.heap.size w w' := by
 have HE := Lib.hid hE
 clear hE
 go_enter Tryz.func9, Tryz.ntmps9
 go_wp2_with fail
 refine (new_any _ HE.out.rd.kinds HE.out.rd.tab).mono ?_
 rintro e w1 ⟨bt, bm, rfl, hT, -, -, -, hb1⟩
 have HA : Hid (Al7 w w1 bt bm) := Lib.hid ⟨hb1, hT, HE.out.later hb1⟩
 clear hT hb1
 obtain ⟨arr, harr⟩ : ∃ arr : Value, arr = .agg #[.string ⟨#[97, 58, 45, 98, 44, 99, 46]⟩, .string ⟨#[97, 32, 58, 45, 32, 98, 44, 99]⟩, .string ⟨#[45, 32, 49, 46]⟩, .string ⟨#[45, 32, 49]⟩, .string ⟨#[45, 32, 45, 49, 46]⟩, .string ⟨#[45, 32, 40, 45, 49, 41]⟩, .string ⟨#[45, 32, 97, 46]⟩, .string ⟨#[45, 32, 97]⟩, .string ⟨#[102, 40, 45, 41, 46]⟩, .string ⟨#[102, 40, 45, 41]⟩, .string ⟨#[45, 32, 40, 45, 41, 46]⟩, .string ⟨#[45, 32, 40, 45, 41]⟩, .string ⟨#[49, 45, 40, 50, 45, 51, 41, 46]⟩, .string ⟨#[49, 32, 45, 32, 40, 50, 32, 45, 32, 51, 41]⟩] := ⟨_, rfl⟩
 have hix : ∀ k : Nat, k < 7 → ∀ u : World, (Instr.index 62 arr (.int .i64 (k : Int))).run Tryz.prog u = .ok (.agg #[.string ⟨(pairAt k).1.toArray⟩, .string ⟨(pairAt k).2.toArray⟩]) u := by
  rw [harr]
  refine pair_cases ?_ ?_ ?_ ?_ ?_ ?_ ?_ <;> intro u <;> kernel_rfl
 rw [harr] at hix
 have HIX := Lib.hid hix
 clear hix
 go_upto_region 3 with fail
 clear harr
 go_loopw [22] (fun i wr => ∃ k : Nat, k ≤ 7 ∧ i = .int .i64 k ∧ Hid (Al7 w wr bt bm)) (fun i _ => 7 - (intOf i).toNat)
 case atStart => exact ⟨0, by omega, rfl, HA⟩
 case round =>
  obtain ⟨k, hk, rfl, HI⟩ := hrel
  clear HA HE
  by_cases hk7 : k < 7
  case neg =>
   have b1 : decide ((k : Int) < 7) = false := by simp; omega
   go_wp2_with fail
   refine (wput_nil wr _ 0 rfl).mono ?_
   rintro e w2 ⟨rfl, hb2⟩
   have HB := Lib.hid (HI.out.below.trans (hb2.mono HI.out.below.size))
   clear hb2
   go_wp2_with fail
   go_ret
   exact ⟨rfl, HB.out⟩
  have b1 : decide ((k : Int) < 7) = true := by simp; omega
  have hixk := HIX.out k hk7
  have hlex := pair_lex k hk7
  have hlen := pair_len k hk7
  have hrd := pair_read k hk7
  have hsm := pair_small k hk7
  have hpt := pair_put k hk7
  obtain ⟨X, hX⟩ : ∃ X, X = (pairAt k).1 := ⟨_, rfl⟩
  obtain ⟨Y, hY⟩ : ∃ Y, Y = (pairAt k).2 := ⟨_, rfl⟩
  obtain ⟨ts, hts⟩ : ∃ ts, ts = pairTs k := ⟨_, rfl⟩
  obtain ⟨C, hC⟩ : ∃ C, C = pairC k := ⟨_, rfl⟩
  have hlx : lexB X = (ts, 0, 0) := by rw [hX, hts]; exact Prod.ext rfl hlex
  have hrr : readF (opsOf opsInit) ts 0 = (C, 0) := by rw [hC, hts]; exact Prod.ext rfl hrd
  rw [← hY, ← hC] at hpt
  rw [← hC] at hsm
  rw [← hX, ← hY] at hlen hixk
  have HLX := Lib.hid hlx
  have HRR := Lib.hid hrr
  have HPT := Lib.hid hpt
  have HSM := Lib.hid hsm
  have HLN := Lib.hid hlen
  have hw2 : IntKind.i64.wrap ((k : Int) + 1) = (k : Int) + 1 := IntWalk.i64_in _ (by omega)
  clear hX hY hts hC hlx hrr hpt hsm hlen hlex hrd
  obtain ⟨V, hV⟩ : ∃ V, V = wr.alloc (.cells #[.string ⟨X.toArray⟩, .string ⟨Y.toArray⟩] 61) := ⟨_, rfl⟩
  obtain ⟨bx, hbx⟩ : ∃ bx, bx = wr.heap.size := ⟨_, rfl⟩
  have hbV : Below wr.heap.size wr V := by rw [hV]; exact (Below.refl _ _).alloc (Nat.le_refl _) _
  have hx0 : V.heap[bx]? = some (.cells #[.string ⟨X.toArray⟩, .string ⟨Y.toArray⟩] 61 (0, 0)) := by rw [hV, hbx]; exact heap_alloc_new _ _
  have HV := Lib.hid (HI.out.later hbV)
  have HX0 := Lib.hid hx0
  clear hbV hx0
  go_upto_region 5 with fail
  rw [← hV, ← hbx]
  clear hV hbx
  have x0 : V.cell? ⟨bx, 0, none⟩ = some (.string ⟨X.toArray⟩) := by rw [cell_of_row V bx 0 _ _ (0, 0) HX0.out]; rfl
  have x1 : V.cell? ⟨bx, 1, none⟩ = some (.string ⟨Y.toArray⟩) := by rw [cell_of_row V bx 1 _ _ (0, 0) HX0.out]; rfl
  go_wp2_with fail
  refine (lex_any V X (by have := HLN.out.1; omega) HV.out.env.rd.max).mono ?_
  rintro e w2 ⟨v2, rfl, hr2, hb2⟩
  rw [HLX.out] at hr2 ⊢
  dsimp only at hr2 ⊢
  obtain ⟨An, cn, rfl⟩ := hr2.shape
  have HV2 := Lib.hid (HV.out.later hb2)
  have HX2 := Lib.hid ((hb2.block bx (Array.getElem?_eq_some_iff.1 HX0.out).1).trans HX0.out)
  have HRD := Lib.hid (read_any w2 An ts.length cn ts (toks_row hr2) (by have := tokOk_w (T := X) (by have := HLN.out.1; omega); rwa [HLX.out] at this) 0 bt bm opsInit HV2.out.tab HV2.out.env.rd.kinds)
  clear hr2 hb2 x0 x1
  go_wp2_with fail
  refine HRD.out.mono ?_
  rintro e w3 ho
  rw [HRR.out] at ho
  obtain ⟨x, N0, m0, rfl, hU⟩ := clause_put ho
  have hb3 := ho.1
  dsimp only at hU ⊢
  unfold clV
  go_upto_region 7 with fail
  obtain ⟨U, hUU⟩ : ∃ U, U = w3.alloc (.cells #[.int .i64 x.k, .int .i64 x.n, .string ⟨x.s.toArray⟩, .slice x.A x.len x.cap, .slice N0 C.names.length m0, .int .i64 C.line, .int .i64 C.next] 50) := ⟨_, rfl⟩
  rw [← hUU]
  obtain ⟨hb, ht, hc⟩ := hU U hUU
  clear hUU hU ho hb3
  generalize w3.heap.size = g0 at hc ⊢
  have HVU := Lib.hid (HV2.out.later hb)
  have HXU := Lib.hid ((hb.block bx (Array.getElem?_eq_some_iff.1 HX2.out).1).trans HX2.out)
  have HPU := Lib.hid (wput_any U x C.t bt bm opsInit 1 ht HSM.out.1 (by have := HSM.out.2; omega) (by have := HSM.out.2; omega) HVU.out.env.wr HVU.out.tab)
  obtain ⟨y0, y1, y2, y3, -⟩ := clause_at hc
  rw [HPT.out, tvV_lit] at HPU
  clear hb ht hc
  go_wp2_with fail
  refine HPU.out.mono ?_
  rintro e w4 ⟨rfl, hb4⟩
  have x1 : w4.cell? ⟨bx, 1, none⟩ = some (.string ⟨Y.toArray⟩) := by rw [cell_of_row w4 bx 1 _ _ (0, 0) ((hb4.block bx (Array.getElem?_eq_some_iff.1 HXU.out).1).trans HXU.out)]; rfl
  have HV4 := Lib.hid (HVU.out.later hb4)
  have hyy : (Y != Y) = false := by simp
  have hyy' : (Y == Y) = true := by simp
  clear y0 y1 y2 y3 hb4
  go_wp2_with fail
  go_roundw
  case rel => exact ⟨k + 1, by omega, rfl, HV4⟩
  all_goals (simp [intOf]; omega)
section
variable {P : Program} {α : Type}
end
def Fz (B : Nat) (w : World) (v : Value) (b : Nat) : Prop := B ≤ b ∧ b < w.heap.size ∧ v.ownBlock ≠ some b
def newB (B : Nat) (w : World) (b : Nat) : Prop := B ≤ b ∧ b < w.heap.size
structure BldAt (B bt : Nat) (k n : Int) (s : List UInt8) (l : List Tm) (A : Option Addr) (c : Nat) (xs : List TV) (w : World) : Prop where
 box : w.heap[bt]? = some (.cells #[.int .i64 k, .int .i64 n, .string ⟨s.toArray⟩, .slice A l.length c] 28 (0, 0))
 row : Row w B 28 4 encTV (.slice A l.length c) xs
 tms : TermsS w (Fz B w (.slice A l.length c)) xs l
 lt : bt < B
 name : s.length ≤ maxLen
section
variable {B bt : Nat} {k n : Int} {s : List UInt8} {l : List Tm} {A : Option Addr} {c : Nat} {xs : List TV} {w w' : World}
theorem BldAt.len (h : BldAt B bt k n s l A c xs w) : xs.length = l.length := h.tms.1
theorem BldAt.later (h : BldAt B bt k n s l A c xs w) (hb : Below w.heap.size w w') : BldAt B bt k n s l A c xs w' :=
 ⟨(hb.block bt (Array.getElem?_eq_some_iff.1 h.box).1).trans h.box, h.row.later hb, h.tms.keep (fun _ hb' => ⟨hb'.1, Nat.lt_of_lt_of_le hb'.2.1 hb.size, hb'.2.2⟩) (fun b hb' => hb.block b hb'.2.1), h.lt, h.name⟩
theorem BldAt.cells (h : BldAt B bt k n s l A c xs w) : w.cell? ⟨bt, 0, none⟩ = some (.int .i64 k) ∧ w.cell? ⟨bt, 1, none⟩ = some (.int .i64 n) ∧ w.cell? ⟨bt, 2, none⟩ = some (.string ⟨s.toArray⟩) ∧ w.cell? ⟨bt, 3, none⟩ = some (.slice A l.length c) ∧ (∀ o, w.frozen? ⟨bt, o, none⟩ = false) := four_at h.box
theorem BldAt.done (h : BldAt B bt k n s l A c xs w) : TermS w (newB B w) ⟨k, n, s, A, l.length, c⟩ (.mk k n s l) :=
 (h.tms.keep (S' := newB B w) (fun _ hb => ⟨hb.1, hb.2.1⟩) (fun _ _ => rfl)).comp h.row rfl (fun g hg => h.row.lt g hg) s h.name k n
theorem BldAt.push {V : World} {x : TV} {t : Tm} {g cap : Nat} (h : BldAt B bt k n s l A c xs w) (hb : Below w.heap.size w V) (hx : TermS V (newB w.heap.size V) x t) (hB : B ≤ w.heap.size)
    (hR : Row w' B 28 4 encTV (.slice (some ⟨g, 0, none⟩) (l.length + 1) cap) (xs ++ [x])) (hg : V.grownBy w' (Value.slice A l.length c).ownBlock) (hl : (Value.slice A l.length c).ownBlock = some g ∨ g = V.heap.size) :
    BldAt B bt k n s (l ++ [t]) (some ⟨g, 0, none⟩) cap (xs ++ [x]) (w'.setCell ⟨bt, 3, none⟩ (.slice (some ⟨g, 0, none⟩) (l.length + 1) cap)) := by
 have hV := h.later hb
 have hbtV : bt < V.heap.size := (Array.getElem?_eq_some_iff.1 hV.box).1
 have hown : ∀ q, (Value.slice A l.length c).ownBlock = some q → B ≤ q ∧ q < w.heap.size := fun q hq => h.row.lt q hq
 have hkeep : ∀ b, b < V.heap.size → (Value.slice A l.length c).ownBlock ≠ some b → w'.heap[b]? = V.heap[b]? := fun b hb1 hb2 => hg.block b hb1 (fun e => hb2 e.symm)
 have hbox' : w'.heap[bt]? = some (.cells #[.int .i64 k, .int .i64 n, .string ⟨s.toArray⟩, .slice A l.length c] 28 (0, 0)) := by
  rw [hkeep bt hbtV (fun e => by have := (hown bt e).1; have := h.lt; omega)]
  exact hV.box
 have hgB := hR.lt g rfl
 have hset : ∀ b, b ≠ bt → (w'.setCell ⟨bt, 3, none⟩ (.slice (some ⟨g, 0, none⟩) (l.length + 1) cap)).heap[b]? = w'.heap[b]? := fun b hb1 => Below.heap_setCell _ _ _ _ hb1
 have hsz : V.heap.size ≤ w'.heap.size := hg.size
 have hS : ∀ b, (Fz B V (.slice A l.length c) b ∨ newB w.heap.size V b) → Fz B (w'.setCell ⟨bt, 3, none⟩ (.slice (some ⟨g, 0, none⟩) (l.length + 1) cap)) (.slice (some ⟨g, 0, none⟩) (l.length + 1) cap) b ∧ (w'.setCell ⟨bt, 3, none⟩ (.slice (some ⟨g, 0, none⟩) (l.length + 1) cap)).heap[b]? = V.heap[b]? := fun b hb1 => by
  have h1 : B ≤ b ∧ b < V.heap.size ∧ (Value.slice A l.length c).ownBlock ≠ some b := by
   rcases hb1 with h1 | h1
   ·exact h1
   ·have := h1.1
    exact ⟨by omega, h1.2, fun e => by have := (hown b e).2; omega⟩
  have hbt : b ≠ bt := by have := h.lt; omega
  refine ⟨⟨h1.1, ?_, fun e => ?_⟩, (hset b hbt).trans (hkeep b h1.2.1 h1.2.2)⟩
  ·rw [World.size_setCell]
   omega
  ·have e : g = b := by simpa [Value.ownBlock] using e
   rcases hl with h2 | h2
   ·exact h1.2.2 (by rw [h2, e])
   ·omega
 refine ⟨?_, ?_, ?_, h.lt, h.name⟩
 ·rw [List.length_append]
  exact blk_put hbox' _
 ·rw [List.length_append]
  exact hR.away _ fun q hq => by
   have e : g = q := by simpa [Value.ownBlock] using hq
   have := h.lt
   simp only
   omega
 ·rw [List.length_append]
  refine TermsS.snoc ?_ ?_
  ·exact hV.tms.keep (fun b hb1 => (hS b (.inl hb1)).1) (fun b hb1 => (hS b (.inl hb1)).2)
  ·exact hx.keep (fun b hb1 => (hS b (.inr hb1)).1) (fun b hb1 => (hS b (.inr hb1)).2)
end
end Go.Proofs.YtcallkljcjimiaaGreatDoor
