import Derived.Test.YtjdnigepnfeboaaGreatDoorJG14
import Derived.Test.YtjdnigepnfeboaaGreatDoorJG36
namespace Go.Proofs.YtjdnigepnfeboaaGreatDoor
open Go.RowKit Go.Maps
set_option maxRecDepth 100000
structure DbP (B db mb pb : Nat) (A : Option Addr) (c : Nat) (cls : List ClV) (ver : Int) (ov : Value) (u : World) : Prop where
 at' : DbAt u db mb 2 [(keyP, pb)] (.slice A 2 c)
 pr : PrAt u pb 2 ver ov 0
 cl : Row u B 163 10 encCl (.slice A 2 c) cls
 od : Row u B 3 1 encI ov [0, 1]
 len : cls.length = 2
 age : ∀ (i : Nat) (cc : ClV), cls[i]? = some cc → cc.birth = (i : Int) + 1 ∧ cc.death = -1
 facts : ∀ (i : Nat) (cc : ClV), cls[i]? = some cc → PFact u B cc (i + 1)
def dbTypes : List TypeId := [146, 159, 163, 3, 27]
section
variable {B db mb pb : Nat} {A : Option Addr} {c : Nat} {cls : List ClV} {ver : Int} {ov : Value} {u u' : World}
theorem DbP.keep (h : DbP B db mb pb A c cls ver ov u) (hb : ∀ t k, t ∈ dbTypes → TyB u t k → u'.heap[k]? = u.heap[k]?) (hm : u'.heap[mb]? = u.heap[mb]?) : DbP B db mb pb A c cls ver ov u' :=
 ⟨h.at'.keep (hb 146 _ (by decide) ⟨_, h.at'.blk⟩) hm, (hb 159 _ (by decide) ⟨_, h.pr⟩).trans h.pr, h.cl.keep fun k hk => hb 163 k (by decide) (h.cl.ty hk), h.od.keep fun k hk => hb 3 k (by decide) (h.od.ty hk), h.len, h.age,
  fun i cc hi => (h.facts i cc hi).keep fun g cs hg => hb 27 g (by decide) ⟨_, hg⟩⟩
theorem DbP.later (h : DbP B db mb pb A c cls ver ov u) (hb : Below u.heap.size u u') : DbP B db mb pb A c cls ver ov u' := h.keep (fun _ k _ hk => hb.block k hk.lt) (hb.block _ h.at'.map.lt)
theorem DbP.tf {N : Nat} {tys : List TypeId} (h : DbP B db mb pb A c cls ver ov u) (hf : TFB N tys u u') (ht : ∀ t ∈ dbTypes, t ∉ tys) : DbP B db mb pb A c cls ver ov u' :=
 h.keep (fun t _ h1 hk => hf.block hk (ht t h1)) ((hf.map h.at'.map).blk |> fun _ => hf.fr.block _ h.at'.map.lt fun e => h.at'.map.ne e.2.choose_spec.2 rfl)
theorem p_ok : okPK (([112], 1) : PK) := by unfold okPK; decide
theorem p_get (pb : Nat) : mget [(keyP, pb)] (([112], 1) : PK) = some pb := by simp [mget, keyP]
theorem DbP.kind (h : DbP B db mb pb A c cls ver ov u) : Calls Tryz.prog 139 #[.pointer (some ⟨db, 0, none⟩), .string ⟨#[112]⟩, .int .i64 1] u fun e w' => e = .returned (.int .i64 2) ∧ u = w' :=
 dbkind_any u db mb pb 2 _ _ h.at' [112] 1 p_ok (p_get pb) 2 ver ov 0 h.pr
theorem DbP.alive (h : DbP B db mb pb A c cls ver ov u) : Calls Tryz.prog 144 #[.pointer (some ⟨db, 0, none⟩), .string ⟨#[112]⟩, .int .i64 1, .int .i64 2] u fun e w' => ∃ v, e = .returned v ∧ Row w' u.heap.size 3 1 encI v [0, 1] ∧ Below u.heap.size u w' := by
 obtain ⟨c0, c1, rfl⟩ : ∃ c0 c1, cls = [c0, c1] := by
  have hl := h.len
  match cls, hl with
  | [c0, c1], _ => exact ⟨c0, c1, rfl⟩
 have a0 := h.age 0 c0 rfl
 have a1 := h.age 1 c1 rfl
 refine (dbalive_any u B db mb pb 2 _ A 2 c [c0, c1] h.at' [112] 1 p_ok (p_get pb) 2 ver ov [0, 1] h.pr h.cl h.od (by simp) (by simp) 2).mono ?_
 rintro e w' ⟨v, h1, h2, h3⟩
 refine ⟨v, h1, ?_, h3⟩
 have e : aliveL [c0, c1] 2 [0, 1] = [0, 1] := by
  simp [aliveL, liveC, a0.1, a0.2, a1.1, a1.2]
 rwa [e] at h2
theorem DbP.time (h : DbP B db mb pb A c cls ver ov u) : Calls Tryz.prog 145 #[.pointer (some ⟨db, 0, none⟩)] u fun e w' => e = .returned (.int .i64 2) ∧ u = w' := dbtime_any u db mb 2 _ _ h.at'
end
end Go.Proofs.YtjdnigepnfeboaaGreatDoor
namespace Go.Proofs.YtjdnigepnfeboaaGreatDoor
open Go.RowKit Go.Maps
set_option maxRecDepth 100000
def claA (A : Option Addr) (bi de : Int) : Array Value := #[.int .i64 4, .int .i64 0, .string ⟨#[112]⟩, .slice A 1 1, .int .i64 3, .int .i64 0, .string ⟨#[116, 114, 117, 101]⟩, .slice none 0 0, .int .i64 bi, .int .i64 de]
def numA (z : Int) : Array Value := #[.int .i64 2, .int .i64 z, .string ⟨#[]⟩, .slice none 0 0]
theorem ten_at {w1 : World} {b : Nat} {A : Option Addr} {bi de : Int} {t : TypeId} (h : w1.heap[b]? = some (.cells (claA A bi de) t (0, 0))) :
    (w1.cell? ⟨b, 0, none⟩ = some (.int .i64 4) ∧ w1.cell? ⟨b, 1, none⟩ = some (.int .i64 0) ∧ w1.cell? ⟨b, 2, none⟩ = some (.string ⟨#[112]⟩) ∧ w1.cell? ⟨b, 3, none⟩ = some (.slice A 1 1)) ∧ (w1.cell? ⟨b, 4, none⟩ = some (.int .i64 3) ∧ w1.cell? ⟨b, 5, none⟩ = some (.int .i64 0) ∧ w1.cell? ⟨b, 6, none⟩ = some (.string ⟨#[116, 114, 117, 101]⟩) ∧ w1.cell? ⟨b, 7, none⟩ = some (.slice none 0 0)) ∧ w1.cell? ⟨b, 8, none⟩ = some (.int .i64 bi) ∧ w1.cell? ⟨b, 9, none⟩ = some (.int .i64 de) ∧ ∀ o, w1.frozen? ⟨b, o, none⟩ = false := by
 have hc : ∀ k, w1.cell? ⟨b, k, none⟩ = (claA A bi de)[k]? := fun k => cell_of_row _ _ k _ _ _ h
 exact ⟨⟨(hc 0).trans rfl, (hc 1).trans rfl, (hc 2).trans rfl, (hc 3).trans rfl⟩, ⟨(hc 4).trans rfl, (hc 5).trans rfl, (hc 6).trans rfl, (hc 7).trans rfl⟩, (hc 8).trans rfl, (hc 9).trans rfl, fun o => by simp [World.frozen?, h]⟩
theorem zero_at {w1 : World} {b : Nat} {t : TypeId} (h : w1.heap[b]? = some (.cells #[.int .i64 0, .int .i64 0, .string ⟨#[]⟩, .slice none 0 0, .int .i64 0, .int .i64 0, .string ⟨#[]⟩, .slice none 0 0, .int .i64 0, .int .i64 0] t (0, 0))) :
    w1.cell? ⟨b, 0, none⟩ = some (.int .i64 0) ∧ w1.cell? ⟨b, 1, none⟩ = some (.int .i64 0) ∧ w1.cell? ⟨b, 2, none⟩ = some (.string ⟨#[]⟩) ∧ w1.cell? ⟨b, 3, none⟩ = some (.slice none 0 0) ∧ w1.cell? ⟨b, 4, none⟩ = some (.int .i64 0) ∧ w1.cell? ⟨b, 5, none⟩ = some (.int .i64 0) ∧ w1.cell? ⟨b, 6, none⟩ = some (.string ⟨#[]⟩) ∧ w1.cell? ⟨b, 7, none⟩ = some (.slice none 0 0) ∧ w1.cell? ⟨b, 8, none⟩ = some (.int .i64 0) ∧ w1.cell? ⟨b, 9, none⟩ = some (.int .i64 0) ∧ ∀ o, w1.frozen? ⟨b, o, none⟩ = false := by
 have hc := fun k => cell_of_row w1 b k _ _ _ h
 exact ⟨(hc 0).trans rfl, (hc 1).trans rfl, (hc 2).trans rfl, (hc 3).trans rfl, (hc 4).trans rfl, (hc 5).trans rfl, (hc 6).trans rfl, (hc 7).trans rfl, (hc 8).trans rfl, (hc 9).trans rfl, fun o => by simp [World.frozen?, h]⟩
theorem put_cl2 (A : Option Addr) (bi de : Int) : putAll #[.int .i64 0, .int .i64 0, .string ⟨#[]⟩, .slice none 0 0, .int .i64 0, .int .i64 0, .string ⟨#[]⟩, .slice none 0 0, .int .i64 0, .int .i64 0] 0 (claA A bi de).toList = claA A bi de := by kernel_rfl
structure ClW (w : World) (X Y : Nat) (z bi de : Int) (q : Nat) (u : World) : Prop where
 bx : u.heap[X]? = some (.cells (claA (some ⟨q, 0, none⟩) bi de) 163 (0, 0))
 bo : u.heap[Y]? = some (.cells #[.int .i64 0, .int .i64 0, .string ⟨#[]⟩, .slice none 0 0, .int .i64 0, .int .i64 0, .string ⟨#[]⟩, .slice none 0 0, .int .i64 0, .int .i64 0] 163 (0, 0))
 num : u.heap[q]? = some (.cells (numA z) 27 (0, 0))
 below : Below w.heap.size w u
def hbL (q : Nat) : List Value := [.int .i64 4, .int .i64 0, .string ⟨#[112]⟩, .slice (some ⟨q, 0, none⟩) 1 1, .int .i64 3, .int .i64 0, .string ⟨#[116, 114, 117, 101]⟩, .slice none 0 0]
theorem put_cl (A : Option Addr) (bi de : Int) (q : Nat) : putAll (claA A bi de) 0 (hbL q) = claA (some ⟨q, 0, none⟩) bi de := by kernel_rfl
theorem ClW.put {w V : World} {X Y q ag : Nat} {z bi de : Int} (h : ClW w X Y z bi de ag V) (hq : V.heap[q]? = some (.cells (numA z) 27 (0, 0))) (hXY : X ≠ Y) (hX : w.heap.size ≤ X) :
    ClW w X Y z bi de q (V.setCells X 0 (hbL q)) := by
 have hf := fr_setCells (S := (· = X)) (w := V) (.inl rfl) (hbL q) V 0 (Fr.refl _ _)
 have hqX : q ≠ X := TyB.ne (t := 27) ⟨_, hq⟩ (t' := 163) ⟨_, h.bx⟩ (by decide)
 have hk := blk_setCells (hbL q) V 0 _ h.bx
 rw [put_cl] at hk
 exact ⟨hk, (hf.block _ (Array.getElem?_eq_some_iff.1 h.bo).1 (Ne.symm hXY)).trans h.bo, (hf.block _ (Array.getElem?_eq_some_iff.1 hq).1 hqX).trans hq, h.below.trans (hf.below h.below.size fun k hk e => by have e : k = X := e; omega)⟩
set_option maxHeartbeats 8000000 in
theorem clause_any {B db mb pb : Nat} {A : Option Addr} {c : Nat} {cls : List ClV} {ver : Int} {ov : Value} (w : World) (h : DbP B db mb pb A c cls ver ov w) (i : Nat) (hi : i < 2) :
    Calls Tryz.prog 259 #[.pointer (some ⟨db, 0, none⟩), .int .i64 (i : Nat)] w fun e w' => ∃ (g : Nat) (bi de : Int), e = .returned (.tuple #[.agg (claA (some ⟨g, 0, none⟩) bi de), .int .i64 0]) ∧ w.heap.size ≤ g ∧ w'.heap[g]? = some (.cells (numA ((i + 1 : Nat) : Int)) 27 (0, 0)) ∧ Below w.heap.size w w' := by
 obtain ⟨P, hP⟩ : ∃ P : Ending → World → Prop, P = fun e w' => ∃ (g : Nat) (bi de : Int), e = .returned (.tuple #[.agg (claA (some ⟨g, 0, none⟩) bi de), .int .i64 0]) ∧ w.heap.size ≤ g ∧ w'.heap[g]? = some (.cells (numA ((i + 1 : Nat) : Int)) 27 (0, 0)) ∧ Below w.heap.size w w' := ⟨_, rfl⟩
 rw [← hP]
 have HP := Lib.hid hP
 obtain ⟨W, hW⟩ : ∃ W, W = w.alloc (.cells #[.int .i64 0, .int .i64 0, .string ⟨#[]⟩, .slice none 0 0, .int .i64 0, .int .i64 0, .string ⟨#[]⟩, .slice none 0 0, .int .i64 0, .int .i64 0] 163) := ⟨_, rfl⟩
 have hbW : Below w.heap.size w W := by rw [hW]; exact (Below.refl _ _).alloc (Nat.le_refl _) _
 have hz : W.heap[w.heap.size]? = some (.cells #[.int .i64 0, .int .i64 0, .string ⟨#[]⟩, .slice none 0 0, .int .i64 0, .int .i64 0, .string ⟨#[]⟩, .slice none 0 0, .int .i64 0, .int .i64 0] 163 (0, 0)) := by rw [hW]; exact heap_alloc_new _ _
 have hD := h.later hbW
 obtain ⟨d0, d1, d2, df⟩ := hD.at'.cells
 have hdl := hD.at'.lt
 obtain ⟨cc, hcc⟩ : ∃ cc, cls[i]? = some cc := ⟨_, List.getElem?_eq_getElem (by have := h.len; omega)⟩
 obtain ⟨g, e1, e2, e3, e4, e5, hc⟩ := cl_cells hD.cl hcc
 have hf := hD.facts i cc hcc
 obtain ⟨f1, ag, f2, f3, f4⟩ := hf
 obtain ⟨hd, bd, bi, de⟩ := cc
 simp only at f1 f2
 subst f1 f2 e1
 have k0 := (hc 0 _ rfl).1
 have k1 := (hc 1 _ rfl).1
 have k2 := (hc 2 _ rfl).1
 have k3 := (hc 3 _ rfl).1
 have k4 := (hc 4 _ rfl).1
 have k5 := (hc 5 _ rfl).1
 have k6 := (hc 6 _ rfl).1
 have k7 := (hc 7 _ rfl).1
 have k8 := (hc 8 _ rfl).1
 have k9 := (hc 9 _ rfl).1
 simp only [leafTV, Nat.add_zero] at k0 k1 k2 k3 k4 k5 k6 k7 k8 k9
 obtain ⟨U, hU⟩ : ∃ U, U = W.alloc (.cells #[.int .i64 4, .int .i64 0, .string ⟨#[112]⟩, .slice (some ⟨ag, 0, none⟩) 1 1, .int .i64 3, .int .i64 0, .string ⟨#[116, 114, 117, 101]⟩, .slice none 0 0, .int .i64 bi, .int .i64 de] 163) := ⟨_, rfl⟩
 have hbU : Below W.heap.size W U := by rw [hU]; exact (Below.refl _ _).alloc (Nat.le_refl _) _
 have hzU : U.heap[W.heap.size]? = some (.cells (claA (some ⟨ag, 0, none⟩) bi de) 163 (0, 0)) := by rw [hU]; exact heap_alloc_new _ _
 have hi2 : (i : Int) < 2 := by omega
 have hi0 : (0 : Int) ≤ (i : Int) := by omega
 have hzW := (hbU.block _ (Array.getElem?_eq_some_iff.1 hz).1).trans hz
 have hag := (hbU.block _ (Array.getElem?_eq_some_iff.1 f4).1).trans f4
 obtain ⟨z, hzz⟩ : ∃ z : Int, z = ((i + 1 : Nat) : Int) := ⟨_, rfl⟩
 rw [← hzz] at hag
 have HZZ := Lib.hid hzz
 have hag' : U.heap[ag]? = some (.cells (numA z) 27 (0, 0)) := hag
 obtain ⟨X, hX⟩ : ∃ X, X = W.heap.size := ⟨_, rfl⟩
 obtain ⟨Y, hY⟩ : ∃ Y, Y = w.heap.size := ⟨_, rfl⟩
 have HOA : Hid (∀ V, Below U.heap.size U V → Calls Tryz.prog 329 #[.agg #[.int .i64 4, .int .i64 0, .string ⟨#[112]⟩, .slice (some ⟨ag, 0, none⟩) 1 1]] V fun e w' => ∃ q, e = .returned (.agg #[.int .i64 4, .int .i64 0, .string ⟨#[112]⟩, .slice (some ⟨q, 0, none⟩) 1 1]) ∧ (V.heap.size ≤ q ∧ w'.heap[q]? = some (.cells (numA z) 27 (0, 0))) ∧ Below V.heap.size V w' ∧ Below U.heap.size U w') := Lib.hid fun V hV => by
  have hblk := (hV.block _ (Array.getElem?_eq_some_iff.1 hag').1).trans hag'
  refine (own_src V ⟨4, 0, [112], some ⟨ag, 0, none⟩, 1, 1⟩ (some (2, z, [])) ⟨(by decide : (4 : Int) ≠ 1), (by decide : ([112] : List UInt8).length ≤ maxLen), rfl, (by decide : (2 : Int) ≠ 1), (by decide : ([] : List UInt8).length ≤ maxLen), ag, 0, none, 0, rfl, (Array.getElem?_eq_some_iff.1 hblk).1, fun j v hj => ?_⟩).mono ?_
  ·rw [Nat.zero_add]
   rw [cell_of_row _ _ j _ _ _ hblk, ← hj, ← Array.getElem?_toList]
   rfl
  ·rintro e w' ⟨x', rfl, ⟨q, rfl, h1, h2⟩, h3⟩
   exact ⟨q, rfl, ⟨h1, h2⟩, h3, hV.trans (h3.mono hV.size)⟩
 have HOB : Hid (∀ V, Below U.heap.size U V → Calls Tryz.prog 329 #[.agg #[.int .i64 3, .int .i64 0, .string ⟨#[116, 114, 117, 101]⟩, .slice none 0 0]] V fun e w' => e = .returned (.agg #[.int .i64 3, .int .i64 0, .string ⟨#[116, 114, 117, 101]⟩, .slice none 0 0]) ∧ Below V.heap.size V w' ∧ Below U.heap.size U w') := Lib.hid fun V hV => by
  refine (own_src V ⟨3, 0, [116, 114, 117, 101], none, 0, 0⟩ none ⟨by decide, by decide, rfl⟩).mono ?_
  rintro e w' ⟨x', rfl, rfl, h3⟩
  exact ⟨rfl, h3, hV.trans (h3.mono hV.size)⟩
 have hbwU := below_call hbW hbU
 have HCL : Hid (∀ V, Below U.heap.size U V → ClW w X Y z bi de ag V) := Lib.hid fun V hV => by
  rw [hX, hY]
  exact ⟨(hV.block _ (Array.getElem?_eq_some_iff.1 hzU).1).trans hzU, (hV.block _ (Array.getElem?_eq_some_iff.1 hzW).1).trans hzW, (hV.block _ (Array.getElem?_eq_some_iff.1 hag').1).trans hag', below_call hbwU hV⟩
 have hlt := (Array.getElem?_eq_some_iff.1 hz).1
 have HXY : Hid (X ≠ Y) := Lib.hid (by rw [hX, hY]; omega)
 have HYW : Hid (Y = w.heap.size) := Lib.hid hY
 have HXW : Hid (w.heap.size ≤ X) := Lib.hid (by rw [hX]; omega)
 have HLE : Hid (∀ n, U.heap.size ≤ n → w.heap.size ≤ n) := Lib.hid fun n hn => Nat.le_trans hbwU.size hn
 clear hP hbW hz h hD hc hcc f3 f4 e2 e4 hag hag' hzz hzW hbU hzU hi
 go_enter Tryz.func259, Tryz.ntmps259
 go_upto_region 1 with fail
 rw [← hW]
 clear hW
 go_upto_region 6 with fail
 rw [← hU, ← hX, ← hY]
 clear hU hX hY k0 k1 k2 k3 k4 k5 k6 k7 k8 k9 d0 d1 d2 df
 have hb0 := (Below.refl U.heap.size U).drew
 obtain ⟨⟨u0, u1, u2, u3⟩, ⟨u4, u5, u6, u7⟩, u8, u9, uf⟩ := ten_at (HCL.out _ hb0).bx
 go_cut [] from 29 to 37 (fun v => Hid (∃ q, w.heap.size ≤ q ∧ ClW w X Y z bi de q v))
 case first =>
  go_region_with (first | (go_at_call 329; with_reducible refine (HOA.out _ (by assumption)).mono ?_; rintro e wa ⟨q, rfl, gq, ha1, ha2⟩; obtain ⟨⟨p0, p1, p2, p3⟩, ⟨p4, p5, p6, p7⟩, p8, p9, pf⟩ := ten_at (HCL.out _ ha2).bx; have HA := Lib.hid (And.intro gq ha1)) | (go_at_call 329; with_reducible refine (HOB.out _ (by assumption)).mono ?_; rintro e wb ⟨rfl, hb1, hb2⟩; obtain ⟨⟨r0, r1, r2, r3⟩, ⟨r4, r5, r6, r7⟩, r8, r9, rf⟩ := ten_at (HCL.out _ hb2).bx))
  all_goals
   go_wp2_with fail
   go_meet
   first
    | exact Lib.hid ⟨q, HLE.out _ (Nat.le_trans hb0.size HA.out.1.1), (HCL.out _ hb2).put ((hb1.block q (Array.getElem?_eq_some_iff.1 HA.out.1.2).1).trans HA.out.1.2) HXY.out HXW.out⟩
    | exact Lib.hid ⟨q, HLE.out _ (Nat.le_trans hb2.size HA.out.1.1), (HCL.out _ ha2).put HA.out.1.2 HXY.out HXW.out⟩
 case rest =>
  obtain ⟨v, rfl⟩ : ∃ v : World, v = wc := ⟨_, rfl⟩
  have HC := hcut
  clear hcut u0 u1 u2 u3 u4 u5 u6 u7 u8 u9 uf
  obtain ⟨q, hq, hc⟩ := HC.out
  obtain ⟨⟨u0, u1, u2, u3⟩, ⟨u4, u5, u6, u7⟩, u8, u9, uf⟩ := ten_at hc.bx
  obtain ⟨y0, y1, y2, y3, y4, y5, y6, y7, y8, y9, yf⟩ := zero_at hc.bo
  have hylt := (Array.getElem?_eq_some_iff.1 hc.bo).1
  have HCC := Lib.hid hc
  have HQ := Lib.hid hq
  clear hc hq HC HOA HOB HCL
  go_wp2_with fail
  obtain ⟨WF, hWF⟩ : ∃ WF, WF = v.setCells Y 0 (claA (some ⟨q, 0, none⟩) bi de).toList := ⟨_, rfl⟩
  show bodyPost _ _ _ _ _ (v.setCells Y 0 (claA (some ⟨q, 0, none⟩) bi de).toList)
  rw [← hWF]
  have hf : Fr (· = Y) v WF := by rw [hWF]; exact fr_setCells (S := (· = Y)) (w := v) (.inl rfl) _ v 0 (Fr.refl _ _)
  have hY := blk_setCells (claA (some ⟨q, 0, none⟩) bi de).toList v 0 _ HCC.out.bo
  rw [← hWF, put_cl2] at hY
  have hqY : q ≠ Y := TyB.ne (t := 27) ⟨_, HCC.out.num⟩ (t' := 163) ⟨_, HCC.out.bo⟩ (by decide)
  have hPF : P (.returned (.tuple #[.agg (claA (some ⟨q, 0, none⟩) bi de), .int .i64 0])) WF := by
   rw [HP.out]
   exact ⟨q, bi, de, rfl, HQ.out, by rw [← HZZ.out]; exact (hf.block _ (Array.getElem?_eq_some_iff.1 HCC.out.num).1 hqY).trans HCC.out.num, HCC.out.below.trans (hf.below HCC.out.below.size fun k hk e => by have e : k = Y := e; have := HYW.out; omega)⟩
  obtain ⟨⟨z0, z1, z2, z3⟩, ⟨z4, z5, z6, z7⟩, z8, z9, -⟩ := ten_at hY
  clear y0 y1 y2 y3 y4 y5 y6 y7 y8 y9 yf u0 u1 u2 u3 u4 u5 u6 u7 u8 u9 uf hWF hf hY
  exact bodyPost_ret (v := .tuple #[.agg (claA (some ⟨q, 0, none⟩) bi de), .int .i64 0]) (by simp [results, Tryz.results259, go_sem, z0, z1, z2, z3, z4, z5, z6, z7, z8, z9, claA]) rfl hPF
variable [Base]
set_option linter.unusedSectionVars false
def chL (A : Option Addr) (c : Nat) (nv : Value) (mk ce tried : Int) : List Value := [.int .i64 2, .int .i64 mk, .int .i64 ce, .pointer none, .int .i64 0, .int .i64 0, .slice A 1 c, .slice none 0 0, nv, .int .i64 tried, .slice none 0 0, .int .i64 0, .bool false]
structure ChAt (B : Nat) (u : World) (hb : Nat) (A : Option Addr) (c : Nat) (nv : Value) (tried : Int) : Prop where
 blk : u.heap[hb]? = some (.cells (chL A c nv 0 2 tried).toArray 229 (0, 0))
 args : ArgsAt u A [1]
 nums : Row u B 3 1 encI nv [0, 1]
 low : Base.b ≤ hb
section
variable {B hb c : Nat} {u u' : World} {A : Option Addr} {nv : Value} {tried : Int}
theorem ChAt.lt (h : ChAt B u hb A c nv tried) : hb < u.heap.size := (Array.getElem?_eq_some_iff.1 h.blk).1
theorem ChAt.ty (h : ChAt B u hb A c nv tried) : TyB u 229 hb := ⟨_, h.blk⟩
theorem ChAt.tf {N : Nat} {tys : List TypeId} (h : ChAt B u hb A c nv tried) (hf : TFB N tys u u') (h1 : 229 ∉ tys) (h2 : 3 ∉ tys) : ChAt B u' hb A c nv tried :=
 ⟨(hf.block h.ty h1).trans h.blk, h.args.keep fun _ hb => hf.block hb h2, hf.row h.nums h2, h.low⟩
theorem ChAt.later (h : ChAt B u hb A c nv tried) (hb' : Below u.heap.size u u') : ChAt B u' hb A c nv tried := h.tf (TF.of_below [] hb') (by simp) (by simp)
theorem ChAt.get (h : ChAt B u hb A c nv tried) (k : Nat) : u.cell? ⟨hb, k, none⟩ = (chL A c nv 0 2 tried).toArray[k]? := cell_of_row _ _ k _ _ _ h.blk
end
section
variable {rb room : Nat} {r : RC} {u : World} {cv bv : Value} {xs : List ScM} {cs : List Sc} {ys : List (Nat × Int)}
set_option maxHeartbeats 2000000 in
theorem unlike_var (h : RunAt u rb r) (hs : StAt r.sb room u cv bv xs cs ys) (hc : cs[1]? = some pvS) (z : Int) :
    Calls Tryz.prog 320 #[.pointer (some ⟨rb, 0, none⟩), .agg (numA z), .int .i64 1] u fun e u' => e = .returned (.bool false) ∧ Below u.heap.size u u' := by
 obtain ⟨W, hW⟩ : ∃ W, W = u.alloc (.cells #[.int .i64 2, .int .i64 z, .string ⟨#[]⟩, .slice none 0 0] 27) := ⟨_, rfl⟩
 have hb : Below u.heap.size u W := by rw [hW]; exact (Below.refl _ _).alloc (Nat.le_refl _) _
 have hz : W.heap[u.heap.size]? = some (.cells #[.int .i64 2, .int .i64 z, .string ⟨#[]⟩, .slice none 0 0] 27 (0, 0)) := by rw [hW]; exact heap_alloc_new _ _
 have c1 : W.cell? ⟨rb, 1, none⟩ = some (.pointer (some ⟨r.sb, 0, none⟩)) := (h.later hb).get 1
 have HL := Lib.hid (look_st (hs.later hb) (.here hc rfl) hc (by decide))
 have HB := Lib.hid hb
 have HZ := Lib.hid hz
 clear h hs hc hb hz
 unfold numA
 go_enter Tryz.func320, Tryz.ntmps320
 go_upto_region 1 with fail
 rw [← hW]
 clear hW
 go_wp2_with fail
 refine HL.out.mono ?_
 rintro e w1 ⟨A', c', rfl, -, -, hb1⟩
 have hz1 := (hb1.block _ (Array.getElem?_eq_some_iff.1 HZ.out).1).trans HZ.out
 obtain ⟨y0, -, -, -, -⟩ := four_at hz1
 have hlt1 := (Array.getElem?_eq_some_iff.1 hz1).1
 have HB1 := Lib.hid (HB.out.trans (hb1.mono HB.out.size))
 rw [show tvV (shF 1 pvS) = .agg #[.int .i64 1, .int .i64 1, .string ⟨#[]⟩, .slice none 0 0] from rfl]
 clear hb1 hz1 HL c1
 go_wp2_with fail
 go_ret
 exact ⟨rfl, HB1.out.alloc HB1.out.size _⟩
end
theorem head_term {W : World} {g : Nat} {z : Int} (h : W.heap[g]? = some (.cells (numA z) 27 (0, 0))) : TermS W (TyB W 27) ⟨4, 0, [112], some ⟨g, 0, none⟩, 1, 1⟩ (factT z) :=
 ((TermsS.nil W (TyB W 27)).snoc (TermS.leaf W _ 2 z [] none 0 (by decide))).block h ⟨_, h⟩ [112] (by decide) 4 0 1
def FitO (sb room : Nat) (u : World) (cs : List Sc) (z : Int) (e : Ending) (u' : World) : Prop :=
 e = .returned (.tuple #[.int .i64 (-1), .bool true, .int .i64 0]) ∧ (∃ cv bv xs tp, StAt sb room u' cv bv xs (boundC cs z) [(1, tp)]) ∧ TF unS u u'
theorem unify_p {sb room : Nat} {u : World} {cv bv : Value} {xs : List ScM} {cs : List Sc} {z : Int} (hs : StAt sb room u cv bv xs (moreC cs z) []) (hp : PCs cs) :
    Calls Tryz.prog 160 #[.pointer (some ⟨sb, 0, none⟩), .int .i64 (cs.length : Nat), .int .i64 0] u fun e u' => e = .returned (.tuple #[.bool true, .int .i64 0]) ∧ (∃ cv bv xs tp, StAt sb room u' cv bv xs (boundC cs z) [(1, tp)]) ∧ TF unS u u' := by
 refine (Unify_any hs cs.length 0 (by rw [more_len]; omega) (by rw [more_len]; omega) (by simp)).mono ?_
 rintro e u' ⟨ok, z', cv', bv', xs', cs', ys', csF, bsF, rfl, h1, h2, ⟨-, -, -⟩, h4, h5⟩
 obtain ⟨e1, rfl, rfl⟩ := hp.uni h4
 injection e1 with e1 e2
 subst e1 e2
 obtain ⟨rfl, h6⟩ := h5 rfl
 refine ⟨rfl, ?_, h2⟩
 obtain ⟨y, rfl⟩ : ∃ y, ys' = [y] := List.length_eq_one_iff.1 (by have := congrArg List.length h6; simpa using this)
 obtain ⟨v, tp⟩ := y
 obtain rfl : v = 1 := by simpa using h6
 exact ⟨cv', bv', xs', tp, h1⟩
end Go.Proofs.YtjdnigepnfeboaaGreatDoor
