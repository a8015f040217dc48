import Derived.Test.YtjdnigepnfeboaaGreatDoorJG10
import Derived.Test.YtjdnigepnfeboaaGreatDoorJG11
namespace Go.Proofs.YtjdnigepnfeboaaGreatDoor
open Go.RowKit Go.Maps
set_option maxRecDepth 100000
def pv (b : Nat) : Value := .pointer (some ⟨b, 0, none⟩)
theorem dbLaid : laidOutB Tryz.prog = true := by kernel_rfl
theorem pkRow : (211 : TypeId) < Tryz.prog.types.size := of_decide_eq_true (by kernel_rfl)
theorem pkWide : (match Tryz.prog.underlying 211 with | some (.array _ _) | some (.struct _) => true | _ => false) = true := by kernel_rfl
theorem pkLaw : WideMaps.KeyLaw Tryz.prog 211 := deep_law_laid dbLaid (m := 2) (by omega) pkRow (by kernel_rfl) pkWide
theorem pkIs : Tryz.prog.keyType 211 = true := by kernel_rfl
theorem pkFields : ∃ f g, Tryz.prog.underlying 211 = some (.struct #[f, g]) ∧ f.type = 9 ∧ g.type = 3 ∧ f.offset = 0 ∧ g.offset = 1 ∧ (f.name != "_") = true ∧ (g.name != "_") = true := ⟨_, _, Tryz.underlying211, rfl, rfl, rfl, rfl, by decide, by decide⟩
theorem pkCells : Tryz.prog.cellsOf 211 = 2 := by kernel_rfl
theorem pkTypes : ∃ m, Tryz.prog.types.size = m + 1 := ⟨Tryz.prog.types.size - 1, (Nat.succ_pred_eq_of_pos (Nat.lt_of_le_of_lt (Nat.zero_le _) pkRow)).symm⟩
theorem db_int_wf {a : Int} (h1 : -9223372036854775808 ≤ a) (h2 : a ≤ 9223372036854775807) : (Lit.int .i64 a).wf = true := by
 have e1 : IntKind.i64.min = -9223372036854775808 := by decide
 have e2 : IntKind.i64.max = 9223372036854775807 := by decide
 simp only [Lit.wf, Bool.and_eq_true, e1, e2]
 exact ⟨decide_eq_true h1, decide_eq_true h2⟩
theorem pkReads (k : PK) (h : okPK k) : ∃ l, keyOf Tryz.prog 211 (pk k) = some l := by
 obtain ⟨f, g, hu, f1, g1, f2, g2, f3, g3⟩ := pkFields
 obtain ⟨m, hm⟩ := pkTypes
 obtain ⟨h3, ⟨h1, h2⟩⟩ := h
 have hw := db_int_wf h1 h2
 unfold keyOf
 simp only [hu]
 rw [if_pos (by simp [pkIs, pk, Value.formed, hu, pkCells]), hm]
 refine ⟨.string (keyBytes [.string k.1, .int .i64 k.2]), ?_⟩
 unfold Program.keyLits
 simp only [hu, pk, Value.cells]
 rw [if_pos ⟨by rw [pkCells]; rfl, by simp [f3, g3]⟩]
 simp only [List.mapM_cons, List.mapM_nil, f1, g1, f2, g2, kIntCells, kStrCells]
 simp [Program.keyLits, Tryz.underlying3, Tryz.underlying9, hw, ByteArray.size, h3]
theorem pkKE : KE Tryz.prog 211 pk okPK := ⟨Keyed.of_law pkLaw, pkReads, pk_inj⟩
structure DbAt (w : World) (db mb : Nat) (time : Int) (es : List (PK × Nat)) (cv : Value) : Prop where
 blk : w.heap[db]? = some (.cells #[.int .i64 time, .map (some mb), cv] 146 (0, 0))
 map : MapAt w mb pk pv es
 ok : ∀ x ∈ es, okPK x.1
theorem DbAt.ne {w : World} {db mb : Nat} {time : Int} {es : List (PK × Nat)} {cv : Value} (h : DbAt w db mb time es cv) : db ≠ mb := by
 rintro rfl
 obtain ⟨es', clock, hb, _⟩ := h.map.blk
 rw [h.blk] at hb
 cases hb
theorem DbAt.keep {w w' : World} {db mb : Nat} {time : Int} {es : List (PK × Nat)} {cv : Value} (h : DbAt w db mb time es cv) (h1 : w'.heap[db]? = w.heap[db]?) (h2 : w'.heap[mb]? = w.heap[mb]?) : DbAt w' db mb time es cv := ⟨h1.trans h.blk, h.map.keep h2, h.ok⟩
theorem DbAt.lt {w : World} {db mb : Nat} {time : Int} {es : List (PK × Nat)} {cv : Value} (h : DbAt w db mb time es cv) : db < w.heap.size := (Array.getElem?_eq_some_iff.1 h.blk).1
theorem DbAt.later {w w' : World} {db mb : Nat} {time : Int} {es : List (PK × Nat)} {cv : Value} (h : DbAt w db mb time es cv) (hb : Below w.heap.size w w') : DbAt w' db mb time es cv := h.keep (hb.block _ h.lt) (hb.block _ h.map.lt)
theorem DbAt.cells {w : World} {db mb : Nat} {time : Int} {es : List (PK × Nat)} {cv : Value} (h : DbAt w db mb time es cv) :
    w.cell? ⟨db, 0, none⟩ = some (.int .i64 time) ∧ w.cell? ⟨db, 1, none⟩ = some (.map (some mb)) ∧ w.cell? ⟨db, 2, none⟩ = some cv ∧ (∀ o, w.frozen? ⟨db, o, none⟩ = false) := meas_cells h.blk
theorem db_lookup {u : World} {mb : Nat} {es : List (PK × Nat)} (h : MapAt u mb pk pv es) (hok : ∀ x ∈ es, okPK x.1) (n : List UInt8) (a : Int) (hk : okPK (n, a)) :
    (Instr.lookup 143 (.map (some mb)) (.agg #[.string ⟨n.toArray⟩, .int .i64 a]) false).run Tryz.prog u = .ok (((mget es (n, a)).map pv).getD (.pointer none)) u := by
 have := h.lookup (t := 143) pkKE Tryz.underlying143 (z := .pointer none) (fun u => by kernel_rfl) hok hk false
 rw [show pk (n, a) = .agg #[.string ⟨n.toArray⟩, .int .i64 a] from rfl] at this
 rw [this]
 rfl
set_option maxHeartbeats 2000000 in
theorem get_old (w : World) (db mb pb : Nat) (time : Int) (es : List (PK × Nat)) (cv : Value) (h : DbAt w db mb time es cv) (n : List UInt8) (a : Int) (hk : okPK (n, a)) (hg : mget es (n, a) = some pb) :
    Calls Tryz.prog 65 #[.pointer (some ⟨db, 0, none⟩), .string ⟨n.toArray⟩, .int .i64 a] w fun e w' => e = .returned (.pointer (some ⟨pb, 0, none⟩)) ∧ Below w.heap.size w w' := by
 obtain ⟨c0, c1, c2, cf⟩ := h.cells
 have hl := fun (u : World) (hb : Below w.heap.size w u) => db_lookup (h.later hb).map h.ok n a hk
 simp only [hg, Option.map_some, Option.getD_some, pv] at hl
 have hl1 := hl ((w.alloc (.cells #[.string ⟨n.toArray⟩, .int .i64 a] 211)).drew) (((Below.refl _ _).alloc (Nat.le_refl _) _).drew)
 have hdb := h.lt
 clear hl hg hk h
 go_enter Tryz.func65, Tryz.ntmps65
 go_wp2_with fail
 go_region
 go_wp2_with fail
 go_ret
 exact ⟨rfl, ((Below.refl _ _).alloc (Nat.le_refl _) _).drew⟩
def PrAt (w : World) (pb : Nat) (kind ver : Int) (ov : Value) (now : Int) : Prop := w.heap[pb]? = some (.cells #[.int .i64 kind, .int .i64 ver, ov, .int .i64 now] 159 (0, 0))
theorem PrAt.cells {w : World} {pb : Nat} {kind ver : Int} {ov : Value} {now : Int} (h : PrAt w pb kind ver ov now) :
    w.cell? ⟨pb, 0, none⟩ = some (.int .i64 kind) ∧ w.cell? ⟨pb, 1, none⟩ = some (.int .i64 ver) ∧ w.cell? ⟨pb, 2, none⟩ = some ov ∧ w.cell? ⟨pb, 3, none⟩ = some (.int .i64 now) ∧ (∀ o, w.frozen? ⟨pb, o, none⟩ = false) := four_cells h
theorem PrAt.lt {w : World} {pb : Nat} {kind ver : Int} {ov : Value} {now : Int} (h : PrAt w pb kind ver ov now) : pb < w.heap.size := (Array.getElem?_eq_some_iff.1 h).1
theorem PrAt.later {w w' : World} {pb : Nat} {kind ver : Int} {ov : Value} {now : Int} (h : PrAt w pb kind ver ov now) (hb : Below w.heap.size w w') : PrAt w' pb kind ver ov now := (hb.block _ h.lt).trans h
set_option maxHeartbeats 4000000 in
theorem get_new (w : World) (db mb : Nat) (time : Int) (es : List (PK × Nat)) (cv : Value) (h : DbAt w db mb time es cv) (n : List UInt8) (a : Int) (hk : okPK (n, a)) (hg : mget es (n, a) = none) :
    Calls Tryz.prog 65 #[.pointer (some ⟨db, 0, none⟩), .string ⟨n.toArray⟩, .int .i64 a] w fun e w' => ∃ pb, e = .returned (.pointer (some ⟨pb, 0, none⟩)) ∧ w.heap.size ≤ pb ∧ DbAt w' db mb time (es ++ [((n, a), pb)]) cv ∧ PrAt w' pb 0 0 (.slice none 0 0) 0 ∧ Fr (· = mb) w w' := by
 obtain ⟨c0, c1, c2, cf⟩ := h.cells
 have hl := fun (u : World) (hb : Below w.heap.size w u) => db_lookup (h.later hb).map h.ok n a hk
 simp only [hg, Option.map_none, Option.getD_none] at hl
 have hl1 := hl ((w.alloc (.cells #[.string ⟨n.toArray⟩, .int .i64 a] 211)).drew) (((Below.refl _ _).alloc (Nat.le_refl _) _).drew)
 have hmn := fun (u : World) => run_eql_map_nil (P := Tryz.prog) u 143 211 155 (some mb) Tryz.underlying143
 have hdb := h.lt
 have hbb : Below w.heap.size w ((((w.alloc (.cells #[.string ⟨n.toArray⟩, .int .i64 a] 211)).alloc (.cells #[.int .i64 0, .int .i64 0, .slice none 0 0, .int .i64 0] 159)).drew).drew) := ((((Below.refl _ _).alloc (Nat.le_refl _) _).alloc (by simp) _).drew).drew
 obtain ⟨w9, hup, hM, hG, -⟩ := MapAt.update (P := Tryz.prog) (t := 143) pkKE Tryz.underlying143 (h.later hbb).map h.ok (k := (n, a)) hk (w.heap.size + 1)
 rw [show pk (n, a) = .agg #[.string ⟨n.toArray⟩, .int .i64 a] from rfl, show pv (w.heap.size + 1) = .pointer (some ⟨w.heap.size + 1, 0, none⟩) from rfl] at hup
 have hF : Fr (· = mb) w w9 := (Fr.of_below (· = mb) hbb).grown hG (fun k e => .inl (Option.some.inj e).symm)
 have hpu : mput es (n, a) (w.heap.size + 1) = es ++ [((n, a), w.heap.size + 1)] := by unfold mput; rw [hg]; simp
 rw [hpu] at hM
 have hD : DbAt w9 db mb time (es ++ [((n, a), w.heap.size + 1)]) cv := ⟨(hF.block _ h.lt (by simpa using h.ne)).trans h.blk, hM, fun x hx => by
  rcases List.mem_append.1 hx with hx | hx
  ·exact h.ok x hx
  ·have : x = ((n, a), w.heap.size + 1) := by simpa using hx
   rw [this]
   exact hk⟩
 have hP : PrAt w9 (w.heap.size + 1) 0 0 (.slice none 0 0) 0 := by
  unfold PrAt
  rw [hG.block _ (by simp) (fun e => by have := Option.some.inj e; have := h.map.lt; omega)]
  have := heap_alloc_new (w.alloc (.cells #[.string ⟨n.toArray⟩, .int .i64 a] 211)) (.cells #[.int .i64 0, .int .i64 0, .slice none 0 0, .int .i64 0] 159)
  rw [show (w.alloc (.cells #[.string ⟨n.toArray⟩, .int .i64 a] 211)).heap.size = w.heap.size + 1 by simp] at this
  exact this
 have HR := Lib.hid (And.intro hD (And.intro hP hF))
 clear hl hg hk h hM hG hF hpu hD hP hbb
 go_enter Tryz.func65, Tryz.ntmps65
 go_wp2_with fail
 go_region
 go_wp2_with fail
 go_region
 go_wp2_with fail
 go_ret
 exact ⟨_, rfl, by omega, HR.out.1, HR.out.2.1, HR.out.2.2⟩
set_option maxHeartbeats 4000000 in
theorem dbmay_ok (w : World) (db mb : Nat) (time : Int) (es : List (PK × Nat)) (A : Option Addr) (N c : Nat) (h : DbAt w db mb time es (.slice A N c)) (hN : N < 4096) (x y : TV) (ax ay : Option (Int × Int × List UInt8)) (hx : SrcAt w x ax) (hy : SrcAt w y ay)
    (hcx : checkT (tmOf x ax) = 0) (hcy : checkT (tmOf y ay) = 0) (hk : x.k = 3 ∨ x.k = 4) :
    Calls Tryz.prog 64 #[.pointer (some ⟨db, 0, none⟩), tvV x, tvV y] w fun e w' => e = .returned (.int .i64 0) ∧ Below w.heap.size w w' := by
 have HCX : Hid (∀ u, SrcAt u x ax → Calls Tryz.prog 30 #[.agg #[.int .i64 x.k, .int .i64 x.n, .string ⟨x.s.toArray⟩, .slice x.A x.len x.cap]] u fun e w' => e = .returned (.int .i64 0) ∧ Below u.heap.size u w') :=
  Lib.hid fun u h => by rw [← hcx]; exact check_any u x _ h.tm (by have := h.noVar.2.1; omega) (by have := h.noVar.2.2; omega)
 have HCY : Hid (∀ u, SrcAt u y ay → Calls Tryz.prog 30 #[.agg #[.int .i64 y.k, .int .i64 y.n, .string ⟨y.s.toArray⟩, .slice y.A y.len y.cap]] u fun e w' => e = .returned (.int .i64 0) ∧ Below u.heap.size u w') :=
  Lib.hid fun u h => by rw [← hcy]; exact check_any u y _ h.tm (by have := h.noVar.2.1; omega) (by have := h.noVar.2.2; omega)
 have HSX : Hid (∀ u, SrcAt u x ax → Calls Tryz.prog 128 #[.agg #[.int .i64 x.k, .int .i64 x.n, .string ⟨x.s.toArray⟩, .slice x.A x.len x.cap]] u fun e w' => e = .returned (.int .i64 ((tmOf x ax).size : Nat)) ∧ Below u.heap.size u w') :=
  Lib.hid fun u h => size_any u x _ h.tm (by have := h.noVar.2.1; omega)
 have HSY : Hid (∀ u, SrcAt u y ay → Calls Tryz.prog 128 #[.agg #[.int .i64 y.k, .int .i64 y.n, .string ⟨y.s.toArray⟩, .slice y.A y.len y.cap]] u fun e w' => e = .returned (.int .i64 ((tmOf y ay).size : Nat)) ∧ Below u.heap.size u w') :=
  Lib.hid fun u h => size_any u y _ h.tm (by have := h.noVar.2.1; omega)
 have hzx := hx.noVar.2.1
 have hzy := hy.noVar.2.1
 generalize (tmOf x ax).size = zx at *
 generalize (tmOf y ay).size = zy at *
 obtain ⟨W0, hW0⟩ : ∃ W0, allocs w [.cells (encTV x).toArray 27, .cells (encTV y).toArray 27] = W0 := ⟨_, rfl⟩
 have hb0 : Below w.heap.size w W0 := by rw [← hW0]; exact allocs_below _ _
 have h0 : W0.heap[w.heap.size]? = some (.cells (encTV x).toArray 27 (0, 0)) := by rw [← hW0]; exact allocs_at w _ 0 _ rfl
 have h1 : W0.heap[w.heap.size + 1]? = some (.cells (encTV y).toArray 27 (0, 0)) := by rw [← hW0]; exact allocs_at w _ 1 _ rfl
 have HF := Lib.hid (flat_of h0 h1)
 have HX := Lib.hid (hx.later hb0)
 have HY := Lib.hid (hy.later hb0)
 have HD := Lib.hid (h.later hb0)
 have HB0 := Lib.hid hb0
 have HW0 := Lib.hid hW0
 have HK := Lib.hid hk
 have hwr : IntKind.i64.wrap ((zx : Int) + (zy : Int)) = (zx : Int) + (zy : Int) := IntWalk.i64_in _ (by omega)
 have hgt : decide (20000 < (zx : Int) + (zy : Int)) = false := decide_eq_false (by omega)
 have hgt' : ¬ (20000 < (zx : Int) + (zy : Int)) := by omega
 have hN' : (N : Int) < 4096 := by omega
 clear hx hy hb0 h0 h1 hW0 hcx hcy h hk hzx hzy
 rw [tvV_lit, tvV_lit]
 go_enter Tryz.func64, Tryz.ntmps64
 obtain ⟨b0, b1, b2, b3, b4, b5, b6, b7⟩ := HF.out
 go_wp2_with fail
 change Calls _ _ _ (allocs w [.cells (encTV x).toArray 27, .cells (encTV y).toArray 27]) _
 rw [HW0.out]
 clear HW0
 refine (HCX.out _ HX.out).mono ?_
 rintro e u1 ⟨rfl, hb1⟩
 obtain ⟨b0, b1, b2, b3, b4, b5, b6, b7⟩ := flat_later HF.out hb1
 go_wp2_with fail
 refine (HCY.out _ (HY.out.later hb1)).mono ?_
 rintro e u2 ⟨rfl, hb2⟩
 have HB2 := Lib.hid (hb1.trans (hb2.mono hb1.size))
 have HF2 := Lib.hid (flat_later HF.out HB2.out)
 have HX2 := Lib.hid (HX.out.later HB2.out)
 have HY2 := Lib.hid (HY.out.later HB2.out)
 have HD2 := Lib.hid (HD.out.later HB2.out)
 clear b0 b1 b2 b3 b4 b5 b6 b7 hb1 hb2 HX HY HD HF
 go_wp2_with fail
 go_region_held3 (fun u => u.cell? ⟨w.heap.size, 0, none⟩ = some (.int .i64 x.k) ∧ u.cell? ⟨w.heap.size, 1, none⟩ = some (.int .i64 x.n) ∧ u.cell? ⟨w.heap.size, 2, none⟩ = some (.string ⟨x.s.toArray⟩) ∧ u.cell? ⟨w.heap.size, 3, none⟩ = some (.slice x.A x.len x.cap) ∧
  u.cell? ⟨w.heap.size + 1, 0, none⟩ = some (.int .i64 y.k) ∧ u.cell? ⟨w.heap.size + 1, 1, none⟩ = some (.int .i64 y.n) ∧ u.cell? ⟨w.heap.size + 1, 2, none⟩ = some (.string ⟨y.s.toArray⟩) ∧ u.cell? ⟨w.heap.size + 1, 3, none⟩ = some (.slice y.A y.len y.cap))
  (first | (with_reducible exact flat_drew HF2.out) | (with_reducible exact HF2.out) | (with_reducible exact flat_later (flat_drew HF2.out) hb3) | (with_reducible exact flat_later (flat_later (flat_drew HF2.out) hb3) hb4))
  (first | (go_at_call 128; with_reducible refine (HSX.out _ (HX2.out.later (Below.refl _ _).drew)).mono ?_; rintro e u3 ⟨rfl, hb3⟩) | (go_at_call 128; with_reducible refine (HSY.out u3 ((HY2.out.later (Below.refl _ _).drew).later hb3)).mono ?_; rintro e u4 ⟨rfl, hb4⟩))
 have HB4 := Lib.hid (HB2.out.trans (((Below.refl u2.heap.size u2).drew.trans (hb3.trans (hb4.mono hb3.size))).mono HB2.out.size))
 obtain ⟨b0, b1, b2, b3, b4, b5, b6, b7⟩ := flat_later (flat_later (flat_drew HF2.out) hb3) hb4
 have HD4 := Lib.hid (((HD2.out.later (Below.refl _ _).drew).later hb3).later hb4)
 obtain ⟨c0, c1, c2, cf⟩ := HD4.out.cells
 clear hb3 hb4
 rcases HK.out with hk | hk
 all_goals
  rw [hk] at b0
  go_wp2_with fail
  go_ret
  exact ⟨rfl, HB0.out.trans (HB4.out.mono HB0.out.size)⟩
structure ClV where
 head : TV
 body : TV
 birth : Int
 death : Int
def encCl (c : ClV) : List Value := encTV c.head ++ encTV c.body ++ [.int .i64 c.birth, .int .i64 c.death]
theorem encCl_len (c : ClV) : (encCl c).length = 10 := rfl
theorem encCl_one (c : ClV) : ∀ u ∈ encCl c, u.oneCell' = true := by
 intro u hu
 simp [encCl, encTV] at hu
 rcases hu with rfl | rfl | rfl | rfl | rfl | rfl | rfl | rfl | rfl | rfl <;> rfl
theorem cl_info : ∃ i z, Tryz.prog.info? 163 = some i ∧ i.zero = some z ∧ i.size = 10 ∧ i.bytes = 128 ∧ z.cells.size = 10 := by
 refine ⟨_, _, rfl, rfl, ?_, ?_, ?_⟩ <;> kernel_rfl
theorem ne_types {u : World} {a b : Nat} {c1 c2 : Array Value} {t1 t2 : TypeId} {f1 f2 : Nat × Nat} (h1 : u.heap[a]? = some (.cells c1 t1 f1)) (h2 : u.heap[b]? = some (.cells c2 t2 f2)) (ht : t1 ≠ t2) : a ≠ b := by
 rintro rfl
 rw [h1] at h2
 injection h2 with h2
 injection h2 with _ h3
 exact ht h3
theorem ne_map {u : World} {a mb : Nat} {c1 : Array Value} {t1 : TypeId} {f1 : Nat × Nat} {es : List (PK × Nat)} (h1 : u.heap[a]? = some (.cells c1 t1 f1)) (h2 : MapAt u mb pk pv es) : a ≠ mb := by
 rintro rfl
 obtain ⟨es', clock, hb, _⟩ := h2.blk
 rw [h1] at hb
 cases hb
theorem Row.block {α : Type} {u : World} {B sz g : Nat} {e : TypeId} {enc : α → List Value} {v : Value} {l : List α} (h : Row u B e sz enc v l) (hg : v.ownBlock = some g) : B ≤ g ∧ ∃ cur, u.heap[g]? = some (.cells cur e (0, 0)) := by
 rcases h.own.2 with ⟨rfl, _⟩ | ⟨g', cap, cur, rfl, hb, hgg, _⟩
 ·cases hg
 ·have : g' = g := by simpa [Value.ownBlock] using hg
  subst this
  exact ⟨hb, cur, hgg⟩
structure DbAddSt (w : World) (S : Nat → Prop) (B db mb pb bx bz : Nat) (time : Int) (es : List (PK × Nat)) (cv : Value) (cls : List ClV) (kind ver : Int) (ov : Value) (ord : List Int) (x y : TV) (u : World) : Prop where
 db' : DbAt u db mb time es cv
 pr : PrAt u pb kind ver ov 0
 cl : Row u B 163 10 encCl cv cls
 od : Row u B 3 1 encI ov ord
 hx : u.heap[bx]? = some (.cells (encTV x).toArray 27 (0, 0))
 hz : u.heap[bz]? = some (.cells (encTV y).toArray 27 (0, 0))
 xz : bx ≠ bz
 fr : Fr S w u
 scv : ∀ g, cv.ownBlock = some g → S g ∨ w.heap.size ≤ g
 sov : ∀ g, ov.ownBlock = some g → S g ∨ w.heap.size ≤ g
 sdb : S db
 smb : S mb
 spb : S pb ∨ w.heap.size ≤ pb
 sbx : w.heap.size ≤ bx
 sbz : w.heap.size ≤ bz
section
variable {w u u' : World} {S : Nat → Prop} {B db mb pb bx bz : Nat} {time : Int} {es : List (PK × Nat)} {cv : Value} {cls : List ClV} {kind ver : Int} {ov : Value} {ord : List Int} {x y : TV}
theorem DbAddSt.later (h : DbAddSt w S B db mb pb bx bz time es cv cls kind ver ov ord x y u) (hb : Below u.heap.size u u') : DbAddSt w S B db mb pb bx bz time es cv cls kind ver ov ord x y u' :=
 ⟨h.db'.later hb, h.pr.later hb, h.cl.later hb, h.od.later hb, (hb.block _ (Array.getElem?_eq_some_iff.1 h.hx).1).trans h.hx, (hb.block _ (Array.getElem?_eq_some_iff.1 h.hz).1).trans h.hz, h.xz, h.fr.step hb, h.scv, h.sov, h.sdb, h.smb, h.spb, h.sbx, h.sbz⟩
theorem DbAddSt.flat (h : DbAddSt w S B db mb pb bx bz time es cv cls kind ver ov ord x y u) : Flat bx bz x y u := flat_of h.hx h.hz
theorem DbAddSt.dp (h : DbAddSt w S B db mb pb bx bz time es cv cls kind ver ov ord x y u) : db ≠ pb := ne_types h.db'.blk h.pr (by decide)
theorem DbAddSt.setDb (h : DbAddSt w S B db mb pb bx bz time es cv cls kind ver ov ord x y u) (t' : Int) : DbAddSt w S B db mb pb bx bz t' es cv cls kind ver ov ord x y (u.setCell ⟨db, 0, none⟩ (.int .i64 t')) := by
 have k : ∀ c, c ≠ db → (u.setCell ⟨db, 0, none⟩ (.int .i64 t')).heap[c]? = u.heap[c]? := fun c hc => Deep.blk_setCell_other _ _ _ _ hc
 refine ⟨⟨blk_put h.db'.blk _, h.db'.map.keep (k _ (ne_map h.db'.blk h.db'.map).symm), h.db'.ok⟩, (k _ h.dp.symm).trans h.pr, h.cl.keep fun g hg => k _ ?_, h.od.keep fun g hg => k _ ?_,
  (k _ (ne_types h.hx h.db'.blk (by decide))).trans h.hx, (k _ (ne_types h.hz h.db'.blk (by decide))).trans h.hz, h.xz, h.fr.setCell (.inl h.sdb) _, h.scv, h.sov, h.sdb, h.smb, h.spb, h.sbx, h.sbz⟩
 ·obtain ⟨_, cur, hc⟩ := h.cl.block hg
  exact ne_types hc h.db'.blk (by decide)
 ·obtain ⟨_, cur, hc⟩ := h.od.block hg
  exact ne_types hc h.db'.blk (by decide)
theorem DbAddSt.setPr (h : DbAddSt w S B db mb pb bx bz time es cv cls kind ver ov ord x y u) (i : Nat) (v : Value) {kind' ver' : Int} (he : (#[Value.int .i64 kind, .int .i64 ver, ov, .int .i64 0] : Array Value).setIfInBounds i v = #[.int .i64 kind', .int .i64 ver', ov, .int .i64 0]) :
    DbAddSt w S B db mb pb bx bz time es cv cls kind' ver' ov ord x y (u.setCell ⟨pb, i, none⟩ v) := by
 have k : ∀ c, c ≠ pb → (u.setCell ⟨pb, i, none⟩ v).heap[c]? = u.heap[c]? := fun c hc => Deep.blk_setCell_other _ _ _ _ hc
 have hp : PrAt (u.setCell ⟨pb, i, none⟩ v) pb kind' ver' ov 0 := by
  have := blk_put (i := i) h.pr v
  rw [he] at this
  exact this
 refine ⟨⟨(k _ h.dp).trans h.db'.blk, h.db'.map.keep (k _ (ne_map h.pr h.db'.map).symm), h.db'.ok⟩, hp, h.cl.keep fun g hg => k _ ?_, h.od.keep fun g hg => k _ ?_,
  (k _ (ne_types h.hx h.pr (by decide))).trans h.hx, (k _ (ne_types h.hz h.pr (by decide))).trans h.hz, h.xz, h.fr.setCell h.spb _, h.scv, h.sov, h.sdb, h.smb, h.spb, h.sbx, h.sbz⟩
 ·obtain ⟨_, cur, hc⟩ := h.cl.block hg
  exact ne_types hc h.pr (by decide)
 ·obtain ⟨_, cur, hc⟩ := h.od.block hg
  exact ne_types hc h.pr (by decide)
theorem DbAddSt.setX (h : DbAddSt w S B db mb pb bx bz time es cv cls kind ver ov ord x y u) (x' : TV) :
    DbAddSt w S B db mb pb bx bz time es cv cls kind ver ov ord x' y ((((u.setCell ⟨bx, 0, none⟩ (.int .i64 x'.k)).setCell ⟨bx, 1, none⟩ (.int .i64 x'.n)).setCell ⟨bx, 2, none⟩ (.string ⟨x'.s.toArray⟩)).setCell ⟨bx, 3, none⟩ (.slice x'.A x'.len x'.cap)) := by
 have k : ∀ c, c ≠ bx → ((((u.setCell ⟨bx, 0, none⟩ (.int .i64 x'.k)).setCell ⟨bx, 1, none⟩ (.int .i64 x'.n)).setCell ⟨bx, 2, none⟩ (.string ⟨x'.s.toArray⟩)).setCell ⟨bx, 3, none⟩ (.slice x'.A x'.len x'.cap)).heap[c]? = u.heap[c]? := fun c hc => by
  rw [Deep.blk_setCell_other _ _ _ _ hc, Deep.blk_setCell_other _ _ _ _ hc, Deep.blk_setCell_other _ _ _ _ hc, Deep.blk_setCell_other _ _ _ _ hc]
 refine ⟨⟨(k _ (ne_types h.db'.blk h.hx (by decide))).trans h.db'.blk, h.db'.map.keep (k _ (ne_map h.hx h.db'.map).symm), h.db'.ok⟩, (k _ (ne_types h.pr h.hx (by decide))).trans h.pr, h.cl.keep fun g hg => k _ ?_, h.od.keep fun g hg => k _ ?_,
  blk_put (blk_put (blk_put (blk_put h.hx _) _) _) _, (k _ h.xz.symm).trans h.hz, h.xz, (((h.fr.setCell (.inr h.sbx) _).setCell (.inr h.sbx) _).setCell (.inr h.sbx) _).setCell (.inr h.sbx) _, h.scv, h.sov, h.sdb, h.smb, h.spb, h.sbx, h.sbz⟩
 ·obtain ⟨_, cur, hc⟩ := h.cl.block hg
  exact ne_types hc h.hx (by decide)
 ·obtain ⟨_, cur, hc⟩ := h.od.block hg
  exact ne_types hc h.hx (by decide)
theorem DbAddSt.setY (h : DbAddSt w S B db mb pb bx bz time es cv cls kind ver ov ord x y u) (y' : TV) :
    DbAddSt w S B db mb pb bx bz time es cv cls kind ver ov ord x y' ((((u.setCell ⟨bz, 0, none⟩ (.int .i64 y'.k)).setCell ⟨bz, 1, none⟩ (.int .i64 y'.n)).setCell ⟨bz, 2, none⟩ (.string ⟨y'.s.toArray⟩)).setCell ⟨bz, 3, none⟩ (.slice y'.A y'.len y'.cap)) := by
 have k : ∀ c, c ≠ bz → ((((u.setCell ⟨bz, 0, none⟩ (.int .i64 y'.k)).setCell ⟨bz, 1, none⟩ (.int .i64 y'.n)).setCell ⟨bz, 2, none⟩ (.string ⟨y'.s.toArray⟩)).setCell ⟨bz, 3, none⟩ (.slice y'.A y'.len y'.cap)).heap[c]? = u.heap[c]? := fun c hc => by
  rw [Deep.blk_setCell_other _ _ _ _ hc, Deep.blk_setCell_other _ _ _ _ hc, Deep.blk_setCell_other _ _ _ _ hc, Deep.blk_setCell_other _ _ _ _ hc]
 refine ⟨⟨(k _ (ne_types h.db'.blk h.hz (by decide))).trans h.db'.blk, h.db'.map.keep (k _ (ne_map h.hz h.db'.map).symm), h.db'.ok⟩, (k _ (ne_types h.pr h.hz (by decide))).trans h.pr, h.cl.keep fun g hg => k _ ?_, h.od.keep fun g hg => k _ ?_,
  (k _ h.xz).trans h.hx, blk_put (blk_put (blk_put (blk_put h.hz _) _) _) _, h.xz, (((h.fr.setCell (.inr h.sbz) _).setCell (.inr h.sbz) _).setCell (.inr h.sbz) _).setCell (.inr h.sbz) _, h.scv, h.sov, h.sdb, h.smb, h.spb, h.sbx, h.sbz⟩
 ·obtain ⟨_, cur, hc⟩ := h.cl.block hg
  exact ne_types hc h.hz (by decide)
 ·obtain ⟨_, cur, hc⟩ := h.od.block hg
  exact ne_types hc h.hz (by decide)
theorem DbAddSt.setCl {w9 : World} {cv' : Value} {c : ClV} (h : DbAddSt w S B db mb pb bx bz time es cv cls kind ver ov ord x y u) (hr : Row w9 B 163 10 encCl cv' (cls ++ [c])) (hg : u.grownBy w9 cv.ownBlock) (ho : cv'.ownBlock = cv.ownBlock ∨ ∃ g, cv'.ownBlock = some g ∧ u.heap.size ≤ g) :
    (w9.cell? ⟨db, 2, none⟩ = some cv ∧ w9.frozen? ⟨db, 2, none⟩ = false) ∧ DbAddSt w S B db mb pb bx bz time es cv' (cls ++ [c]) kind ver ov ord x y (w9.setCell ⟨db, 2, none⟩ cv') := by
 have hcb : ∀ (d : Nat) (cs : Array Value) (t : TypeId), u.heap[d]? = some (.cells cs t (0, 0)) → t ≠ 163 → w9.heap[d]? = u.heap[d]? := fun d cs t hd ht => hg.block d (Array.getElem?_eq_some_iff.1 hd).1 (fun e => by
  obtain ⟨_, cur, hc⟩ := h.cl.block e.symm
  exact ne_types hd hc ht rfl)
 have hb := (hcb db _ _ h.db'.blk (by decide)).trans h.db'.blk
 have hmbl : w9.heap[mb]? = u.heap[mb]? := hg.block mb h.db'.map.lt (fun e => by
  obtain ⟨_, cur, hc⟩ := h.cl.block e.symm
  exact ne_map hc h.db'.map rfl)
 have hm9 := h.db'.map.keep hmbl
 have hp9 : PrAt w9 pb kind ver ov 0 := (hcb pb _ _ h.pr (by decide)).trans h.pr
 have hx9 := (hcb bx _ _ h.hx (by decide)).trans h.hx
 have hz9 := (hcb bz _ _ h.hz (by decide)).trans h.hz
 have ho9 : Row w9 B 3 1 encI ov ord := h.od.keep fun g hg' => by
  obtain ⟨_, cur, hc⟩ := h.od.block hg'
  exact hcb g _ _ hc (by decide)
 have hf9 : Fr S w w9 := h.fr.grown hg h.scv
 have k : ∀ d, d ≠ db → (w9.setCell ⟨db, 2, none⟩ cv').heap[d]? = w9.heap[d]? := fun d hd => Deep.blk_setCell_other _ _ _ _ hd
 obtain ⟨_, _, c2, cf⟩ := meas_cells hb
 refine ⟨⟨c2, cf 2⟩, ⟨blk_put hb _, hm9.keep (k _ (ne_map hb hm9).symm), h.db'.ok⟩, (k _ (ne_types hp9 hb (by decide))).trans hp9, hr.keep fun g hg' => k _ ?_, ho9.keep fun g hg' => k _ ?_,
  (k _ (ne_types hx9 hb (by decide))).trans hx9, (k _ (ne_types hz9 hb (by decide))).trans hz9, h.xz, hf9.setCell (.inl h.sdb) _, ?_, h.sov, h.sdb, h.smb, h.spb, h.sbx, h.sbz⟩
 ·obtain ⟨_, cur, hc⟩ := hr.block hg'
  exact ne_types hc hb (by decide)
 ·obtain ⟨_, cur, hc⟩ := ho9.block hg'
  exact ne_types hc hb (by decide)
 ·intro g hg'
  rcases ho with h1 | ⟨g2, h1, h2⟩
  ·exact h.scv g (by rw [← h1]; exact hg')
  ·right
   have : g = g2 := by rw [h1] at hg'; exact (Option.some.inj hg').symm
   have := h.fr.size
   omega
theorem DbAddSt.setOd {w9 : World} {ov' : Value} {ord' : List Int} (h : DbAddSt w S B db mb pb bx bz time es cv cls kind ver ov ord x y u) (hr : Row w9 B 3 1 encI ov' ord') (hF : Fr (fun k => ov.ownBlock = some k) u w9) (ho : ov'.ownBlock = ov.ownBlock ∨ ∃ g, ov'.ownBlock = some g ∧ u.heap.size ≤ g) :
    (w9.cell? ⟨pb, 2, none⟩ = some ov ∧ w9.frozen? ⟨pb, 2, none⟩ = false) ∧ DbAddSt w S B db mb pb bx bz time es cv cls kind ver ov' ord' x y (w9.setCell ⟨pb, 2, none⟩ ov') := by
 have hcb : ∀ (d : Nat) (cs : Array Value) (t : TypeId), u.heap[d]? = some (.cells cs t (0, 0)) → t ≠ 3 → w9.heap[d]? = u.heap[d]? := fun d cs t hd ht => hF.block d (Array.getElem?_eq_some_iff.1 hd).1 (fun e => by
  obtain ⟨_, cur, hc⟩ := h.od.block e
  exact ne_types hd hc ht rfl)
 have hb := (hcb db _ _ h.db'.blk (by decide)).trans h.db'.blk
 have hmbl : w9.heap[mb]? = u.heap[mb]? := hF.block mb h.db'.map.lt (fun e => by
  obtain ⟨_, cur, hc⟩ := h.od.block e
  exact ne_map hc h.db'.map rfl)
 have hm9 := h.db'.map.keep hmbl
 have hp9 : PrAt w9 pb kind ver ov 0 := (hcb pb _ _ h.pr (by decide)).trans h.pr
 have hx9 := (hcb bx _ _ h.hx (by decide)).trans h.hx
 have hz9 := (hcb bz _ _ h.hz (by decide)).trans h.hz
 have hc9 : Row w9 B 163 10 encCl cv cls := h.cl.keep fun g hg' => by
  obtain ⟨_, cur, hc⟩ := h.cl.block hg'
  exact hcb g _ _ hc (by decide)
 have hf9 : Fr S w w9 := ⟨hF.os.trans h.fr.os, hF.tape.trans h.fr.tape, hF.output.trans h.fr.output, Nat.le_trans h.fr.size hF.size, fun i hi hn => (hF.block i (Nat.lt_of_lt_of_le hi h.fr.size) (fun e => (h.sov i e).elim hn (fun h' => by omega))).trans (h.fr.block i hi hn)⟩
 have k : ∀ d, d ≠ pb → (w9.setCell ⟨pb, 2, none⟩ ov').heap[d]? = w9.heap[d]? := fun d hd => Deep.blk_setCell_other _ _ _ _ hd
 obtain ⟨_, _, c2, _, cf⟩ := four_cells hp9
 refine ⟨⟨c2, cf 2⟩, ⟨(k _ (ne_types hb hp9 (by decide))).trans hb, hm9.keep (k _ (ne_map hp9 hm9).symm), h.db'.ok⟩, blk_put hp9 _, hc9.keep fun g hg' => k _ ?_, hr.keep fun g hg' => k _ ?_,
  (k _ (ne_types hx9 hp9 (by decide))).trans hx9, (k _ (ne_types hz9 hp9 (by decide))).trans hz9, h.xz, hf9.setCell h.spb _, h.scv, ?_, h.sdb, h.smb, h.spb, h.sbx, h.sbz⟩
 ·obtain ⟨_, cur, hc⟩ := hc9.block hg'
  exact ne_types hc hp9 (by decide)
 ·obtain ⟨_, cur, hc⟩ := hr.block hg'
  exact ne_types hc hp9 (by decide)
 ·intro g hg'
  rcases ho with h1 | ⟨g2, h1, h2⟩
  ·exact h.sov g (by rw [← h1]; exact hg')
  ·right
   have : g = g2 := by rw [h1] at hg'; exact (Option.some.inj hg').symm
   have := h.fr.size
   omega
end
end Go.Proofs.YtjdnigepnfeboaaGreatDoor
