import Derived.Test.YtjdnigepnfeboaaGreatDoorJG13
namespace Go.Proofs.YtjdnigepnfeboaaGreatDoor
open Go.RowKit Go.Maps
set_option maxRecDepth 100000
theorem dbtime_any (w : World) (db mb : Nat) (time : Int) (es : List (PK × Nat)) (cv : Value) (h : DbAt w db mb time es cv) :
    Calls Tryz.prog 145 #[.pointer (some ⟨db, 0, none⟩)] w fun e w' => e = .returned (.int .i64 time) ∧ w = w' := by
 obtain ⟨c0, c1, c2, cf⟩ := h.cells
 clear h
 go_enter Tryz.func145, Tryz.ntmps145
 go_wp2_with fail
 go_ret
 exact ⟨rfl, rfl⟩
set_option maxHeartbeats 2000000 in
theorem dbkind_any (w : World) (db mb pb : Nat) (time : Int) (es : List (PK × Nat)) (cv : Value) (h : DbAt w db mb time es cv) (n : List UInt8) (a : Int) (hk : okPK (n, a)) (hg : mget es (n, a) = some pb) (kind ver : Int) (ov : Value) (now : Int) (hp : PrAt w pb kind ver ov now) :
    Calls Tryz.prog 139 #[.pointer (some ⟨db, 0, none⟩), .string ⟨n.toArray⟩, .int .i64 a] w fun e w' => e = .returned (.int .i64 kind) ∧ w = w' := by
 obtain ⟨c0, c1, c2, cf⟩ := h.cells
 obtain ⟨p0, p1, p2, p3, pf⟩ := hp.cells
 have hl := db_lookup h.map h.ok n a hk
 simp only [hg, Option.map_some, Option.getD_some, pv] at hl
 clear h hp hg hk
 go_enter Tryz.func139, Tryz.ntmps139
 go_wp2_with fail
 go_ret
 exact ⟨rfl, rfl⟩
set_option maxHeartbeats 2000000 in
theorem dbnew_any (w : World) : Calls Tryz.prog 26 #[] w fun e w' => e = .returned (.pointer (some ⟨w.heap.size + 1, 0, none⟩)) ∧ DbAt w' (w.heap.size + 1) w.heap.size 0 [] (.slice none 0 0) ∧ Below w.heap.size w w' := by
 have hmm := @run_makeMap Tryz.prog
 go_enter Tryz.func26, Tryz.ntmps26
 go_wp2_with fail
 go_ret
 refine ⟨rfl, ?_, ?_⟩
 ·refine ⟨?_, (MapAt.made w).alloc _, fun x hx => by cases hx⟩
  have h := heap_alloc_new (w.alloc (Obj.map #[] 0)) (Obj.cells #[.int .i64 0, .map (some w.heap.size), .slice none 0 0] 146)
  rwa [show (w.alloc (Obj.map #[] 0)).heap.size = w.heap.size + 1 by simp] at h
 ·exact ((Below.refl _ _).alloc (Nat.le_refl _) _).alloc (by simp) _
def liveC (t : Int) (c : ClV) : Bool := decide (c.birth ≤ t) && (decide (c.death < 0) || decide (t < c.death))
def aliveL (cls : List ClV) (t : Int) (ord : List Int) : List Int := ord.filter (fun x => (cls[x.toNat]?).any (liveC t))
theorem aliveL_snoc (cls : List ClV) (t : Int) (l : List Int) (x : Int) (c : ClV) (h : cls[x.toNat]? = some c) : aliveL cls t (l ++ [x]) = aliveL cls t l ++ (if liveC t c = true then [x] else []) := by
 unfold aliveL
 rw [List.filter_append]
 congr 1
 rw [List.filter_cons, h]
 rfl
theorem aliveL_len (cls : List ClV) (t : Int) (l : List Int) : (aliveL cls t l).length ≤ l.length := List.length_filter_le _ _
theorem cl_cells {u : World} {B : Nat} {A : Option Addr} {N c : Nat} {cls : List ClV} (h : Row u B 163 10 encCl (.slice A N c) cls) {i : Nat} {x : ClV} (hi : cls[i]? = some x) :
    ∃ g, A = some ⟨g, 0, none⟩ ∧ N = cls.length ∧ i < N ∧ B ≤ g ∧ g < u.heap.size ∧ ∀ j v, (encCl x)[j]? = some v → u.cell? ⟨g, i * 10 + j, none⟩ = some v ∧ u.frozen? ⟨g, i * 10 + j, none⟩ = false := by
 have hne : cls ≠ [] := by rintro rfl; cases hi
 obtain ⟨g, cap, e1, hB, hg, _, hc⟩ := h.cells encCl_len hne
 injection e1 with e1 e2 e3
 exact ⟨g, e1, e2, by rw [e2]; exact (List.getElem?_eq_some_iff.1 hi).1, hB, hg, fun j v hv => hc i x hi j v hv⟩
set_option maxHeartbeats 8000000 in
theorem dbalive_any (w : World) (B db mb pb : Nat) (time : Int) (es : List (PK × Nat)) (A : Option Addr) (N c : Nat) (cls : List ClV) (h : DbAt w db mb time es (.slice A N c)) (n : List UInt8) (a : Int) (hk : okPK (n, a)) (hg : mget es (n, a) = some pb) (kind ver : Int) (ov : Value) (ord : List Int) (hp : PrAt w pb kind ver ov 0)
    (hcl : Row w B 163 10 encCl (.slice A N c) cls) (hod : Row w B 3 1 encI ov ord) (hin : ∀ x ∈ ord, 0 ≤ x ∧ x < (cls.length : Int)) (ho : ord.length ≤ 10000) (t : Int) :
    Calls Tryz.prog 144 #[.pointer (some ⟨db, 0, none⟩), .string ⟨n.toArray⟩, .int .i64 a, .int .i64 t] w fun e w' => ∃ v, e = .returned v ∧ Row w' w.heap.size 3 1 encI v (aliveL cls t ord) ∧ Below w.heap.size w w' := by
 obtain ⟨c0, c1, c2, cf⟩ := h.cells
 obtain ⟨p0, p1, p2, p3, pf⟩ := hp.cells
 have hl := db_lookup h.map h.ok n a hk
 simp only [hg, Option.map_some, Option.getD_some, pv] at hl
 obtain ⟨Ao, co, rfl⟩ := hod.shape
 have hdl := h.lt
 have HCL := Lib.hid hcl
 have HOD := Lib.hid hod
 have HIN := Lib.hid hin
 have ho' : (ord.length : Int) ≤ 10000 := by omega
 have HC := Lib.hid (And.intro c0 (And.intro c1 c2))
 obtain ⟨i1, z1, hi1, hz4, hz5, hz6, hz7⟩ := dbint_info
 clear h hp hg hk hcl hod hin
 go_enter Tryz.func144, Tryz.ntmps144
 go_wp2_with fail
 clear hl c0 c1 c2 cf p0 p1 p2 p3 pf
 go_loopw [9, 38] (fun v i wr => ∃ k : Nat, k ≤ ord.length ∧ i = .int .i64 k ∧ Hid (Row wr w.heap.size 3 1 encI v (aliveL cls t (ord.take k))) ∧ Hid (Below w.heap.size w wr)) (fun _ i _ => ord.length - (intOf i).toNat)
 case atStart => exact ⟨0, Nat.zero_le _, rfl, Lib.hid (Row.nil _ _ _ _ _), Lib.hid (Below.refl _ _)⟩
 case round =>
  obtain ⟨k, hk, rfl, HR, HB⟩ := hrel
  have hwr := HB.out.size
  by_cases hlt : k < ord.length
  ·have hx := List.getElem?_eq_getElem hlt
   have hsn := List.take_succ_eq_append_getElem hlt
   have htk := aliveL_len cls t (ord.take k)
   rw [List.length_take] at htk
   have hmem := HIN.out _ (List.getElem_mem hlt)
   generalize ord[k] = x at hx hsn hmem
   obtain ⟨m, rfl⟩ : ∃ m : Nat, x = (m : Int) := ⟨x.toNat, by omega⟩
   have hm : m < cls.length := by omega
   have hcm := List.getElem?_eq_getElem hm
   generalize cls[m] = cc at hcm
   obtain ⟨go, e1, hgo, hgo2, hco⟩ : ∃ go, Ao = some ⟨go, 0, none⟩ ∧ B ≤ go ∧ go < w.heap.size ∧ w.cell? ⟨go, k, none⟩ = some (.int .i64 (m : Int)) := by
    obtain ⟨g, cap, e1, hB, hg, _, hc⟩ := HOD.out.cells encI_len (by rintro rfl; cases hx)
    injection e1 with e1 e2 e3
    exact ⟨g, e1, hB, hg, by have := (hc k _ hx 0 (.int .i64 (m : Int)) rfl).1; simpa using this⟩
   subst e1
   obtain ⟨g, e2, hN, hmN, hgB, hgl, hcc⟩ := cl_cells HCL.out hcm
   subst e2
   have q8 := (hcc 8 (.int .i64 cc.birth) rfl).1
   have q9 := (hcc 9 (.int .i64 cc.death) rfl).1
   have hco' := (HB.out.cell (p := ⟨go, k, none⟩) hgo2).trans hco
   have q8' := (HB.out.cell (p := ⟨g, m * 10 + 8, none⟩) hgl).trans q8
   have q9' := (HB.out.cell (p := ⟨g, m * 10 + 9, none⟩) hgl).trans q9
   have c2 := (HB.out.cell (p := ⟨db, 2, none⟩) hdl).trans HC.out.2.2
   have hsn2 := aliveL_snoc cls t (ord.take k) (m : Int) cc hcm
   rw [← hsn] at hsn2
   have HSN := Lib.hid hsn2
   have hlt' : (k : Int) < (ord.length : Int) := by omega
   have hmN' : (m : Int) < (N : Int) := by omega
   clear hx hsn hsn2 hcm hcc q8 q9 hco hmem
   obtain ⟨hd, bd, bi, de⟩ := cc
   simp only at q8' q9'
   unfold liveC at HSN
   simp only at HSN
   have hq : (bi ≤ t ∧ de < 0) ∨ (bi ≤ t ∧ ¬ de < 0 ∧ t < de) ∨ (bi ≤ t ∧ ¬ de < 0 ∧ ¬ t < de) ∨ ¬ bi ≤ t := by
    by_cases h1 : bi ≤ t <;> by_cases h2 : de < 0 <;> by_cases h3 : t < de <;> simp [h1, h2, h3]
   rcases hq with ⟨hb1, hb2⟩ | ⟨hb1, hb2, hb3⟩ | ⟨hb1, hb2, hb3⟩ | hb1
   ·have HBS := Lib.hid (And.intro hb1 hb2)
    have HSA : Hid (aliveL cls t (ord.take (k + 1)) = aliveL cls t (ord.take k) ++ [(m : Int)]) := Lib.hid (by rw [HSN.out]; simp [HBS.out])
    clear HSN HBS
    go_wp2_with (at_builtin; refine wpList_row rfl _ _ 157 rfl _ w.heap.size 3 i1 z1 1 8 encI Tryz.underlying157 hi1 hz4 hz5 hz6 hz7 (by decide) encI_len encI_one _ (aliveL cls t (ord.take k)) (m : Int) rfl (HR.out.alloc _) _ _ rfl (fun j u hu => cell_made _ _ _ j u (by simpa [encI] using hu)) (by unfold maxLen; omega) (by omega) (Nat.le_trans hwr (by simp)) ?_)
    intro v' w5 hrow5 hg5
    have HR5 : Hid (Row w5 w.heap.size 3 1 encI v' (aliveL cls t (ord.take (k + 1)))) := Lib.hid (by rw [HSA.out]; exact hrow5)
    have HB5 : Hid (Below w.heap.size w w5) := Lib.hid (((Fr.of_below (fun k => w.heap.size ≤ k) HB.out).alloc _ |>.grown hg5 fun g e => .inl (HR.out.lt g e).1).below (Nat.le_refl _) (fun k hk => by omega))
    clear hrow5 hg5
    go_wp2_with fail
    go_roundw
    case rel => exact ⟨k + 1, hlt, by go_num, HR5, HB5⟩
    case measure => simp [intOf]; omega
   ·have HBS := Lib.hid (And.intro hb1 (And.intro hb2 hb3))
    have HSA : Hid (aliveL cls t (ord.take (k + 1)) = aliveL cls t (ord.take k) ++ [(m : Int)]) := Lib.hid (by rw [HSN.out]; simp [HBS.out])
    clear HSN HBS
    go_wp2_with (at_builtin; refine wpList_row rfl _ _ 157 rfl _ w.heap.size 3 i1 z1 1 8 encI Tryz.underlying157 hi1 hz4 hz5 hz6 hz7 (by decide) encI_len encI_one _ (aliveL cls t (ord.take k)) (m : Int) rfl (HR.out.alloc _) _ _ rfl (fun j u hu => cell_made _ _ _ j u (by simpa [encI] using hu)) (by unfold maxLen; omega) (by omega) (Nat.le_trans hwr (by simp)) ?_)
    intro v' w5 hrow5 hg5
    have HR5 : Hid (Row w5 w.heap.size 3 1 encI v' (aliveL cls t (ord.take (k + 1)))) := Lib.hid (by rw [HSA.out]; exact hrow5)
    have HB5 : Hid (Below w.heap.size w w5) := Lib.hid (((Fr.of_below (fun k => w.heap.size ≤ k) HB.out).alloc _ |>.grown hg5 fun g e => .inl (HR.out.lt g e).1).below (Nat.le_refl _) (fun k hk => by omega))
    clear hrow5 hg5
    go_wp2_with fail
    go_roundw
    case rel => exact ⟨k + 1, hlt, by go_num, HR5, HB5⟩
    case measure => simp [intOf]; omega
   ·have HBS := Lib.hid (And.intro hb1 (And.intro hb2 hb3))
    have HSA : Hid (aliveL cls t (ord.take (k + 1)) = aliveL cls t (ord.take k)) := Lib.hid (by rw [HSN.out]; simp [HBS.out])
    clear HSN HBS
    go_wp2_with fail
    go_roundw
    case rel => exact ⟨k + 1, hlt, by go_num, Lib.hid (by rw [HSA.out]; exact HR.out), HB⟩
    case measure => simp [intOf]; omega
   ·have HBS := Lib.hid hb1
    have HSA : Hid (aliveL cls t (ord.take (k + 1)) = aliveL cls t (ord.take k)) := Lib.hid (by rw [HSN.out]; simp [HBS.out])
    clear HSN HBS
    go_wp2_with fail
    go_roundw
    case rel => exact ⟨k + 1, hlt, by go_num, Lib.hid (by rw [HSA.out]; exact HR.out), HB⟩
    case measure => simp [intOf]; omega
  ·have hkn : k = ord.length := by omega
   subst hkn
   rw [List.take_length] at HR
   go_wp2_with fail
   go_ret
   exact ⟨_, rfl, HR.out, HB.out⟩
theorem Row.by_fr {α : Type} {S : Nat → Prop} {w w' : World} {B sz : Nat} {e : TypeId} {enc : α → List Value} {v : Value} {l : List α} (h : Row w B e sz enc v l) (hF : Fr S w w') (hS : ∀ g, v.ownBlock = some g → ¬ S g) : Row w' B e sz enc v l :=
 h.keep fun k hk => hF.block k (h.lt k hk).2 (hS k hk)
theorem below_call {w E u : World} (h : Below w.heap.size w E) (hb : Below E.heap.size E u) : Below w.heap.size w u := h.trans (hb.mono h.size)
def keyP : PK := ([112], 1)
def PFact (u : World) (B : Nat) (c : ClV) (i : Nat) : Prop :=
 c.body = leafTV 3 0 [116, 114, 117, 101] ∧ ∃ g, c.head = ⟨4, 0, [112], some ⟨g, 0, none⟩, 1, 1⟩ ∧ B ≤ g ∧ u.heap[g]? = some (.cells (encTV (leafTV 2 (i : Int) [])).toArray 27 (0, 0))
theorem PFact.keep {u u' : World} {B : Nat} {c : ClV} {i : Nat} (h : PFact u B c i) (hk : ∀ (g : Nat) cs, u.heap[g]? = some (Obj.cells cs 27 (0, 0)) → u'.heap[g]? = u.heap[g]?) : PFact u' B c i := by
 obtain ⟨hb, g, e1, e2, e3⟩ := h
 exact ⟨hb, g, e1, e2, (hk g _ e3).trans e3⟩
theorem ne_map' {u : World} {a mb : Nat} {c1 : Array Value} {t1 : TypeId} {f1 : Nat × Nat} {es : List (PK × Nat)} (h1 : u.heap[a]? = some (.cells c1 t1 f1)) (h2 : MapAt u mb pk pv es) : a ≠ mb := by
 rintro rfl
 obtain ⟨es', clock, hb, _⟩ := h2.blk
 rw [h1] at hb
 cases hb
structure LawSt (w : World) (db mb : Nat) (time : Int) (es : List (PK × Nat)) (A : Option Addr) (c : Nat) (cls : List ClV) (ov : Value) (ord : List Int) (wv : Value) (want : List Int) (u : World) : Prop where
 db' : DbAt u db mb time es (.slice A cls.length c)
 cl : Row u w.heap.size 163 10 encCl (.slice A cls.length c) cls
 od : Row u w.heap.size 3 1 encI ov ord
 wt : Row u w.heap.size 3 1 encI wv want
 sep : ∀ g, wv.ownBlock = some g → ov.ownBlock ≠ some g
 pr : (es = [] ∧ ov = .slice none 0 0 ∧ cls = [] ∧ ord = []) ∨ ∃ pb ver, es = [(keyP, pb)] ∧ PrAt u pb 2 ver ov 0 ∧ w.heap.size ≤ pb
 facts : ∀ i cc, cls[i]? = some cc → PFact u w.heap.size cc (i + 1)
 sdb : w.heap.size ≤ db
 smb : w.heap.size ≤ mb
 below : Below w.heap.size w u
section
variable {w u u' : World} {db mb : Nat} {time : Int} {es : List (PK × Nat)} {A : Option Addr} {c : Nat} {cls : List ClV} {ov : Value} {ord : List Int} {wv : Value} {want : List Int}
theorem LawSt.later (h : LawSt w db mb time es A c cls ov ord wv want u) (hb : Below u.heap.size u u') : LawSt w db mb time es A c cls ov ord wv want u' :=
 ⟨h.db'.later hb, h.cl.later hb, h.od.later hb, h.wt.later hb, h.sep, h.pr.imp id (fun ⟨pb, ver, h1, h2, h3⟩ => ⟨pb, ver, h1, h2.later hb, h3⟩),
  fun i cc hi => (h.facts i cc hi).keep fun g _ hg => hb.block g (Array.getElem?_eq_some_iff.1 hg).1, h.sdb, h.smb, below_call h.below hb⟩
end
def setS (db mb : Nat) (cv ov : Value) (es : List (PK × Nat)) (k : Nat) : Prop := k = db ∨ k = mb ∨ cv.ownBlock = some k ∨ ov.ownBlock = some k ∨ es = [(keyP, k)]
theorem LawSt.added {w W4 w5 : World} {db mb : Nat} {time : Int} {es : List (PK × Nat)} {A : Option Addr} {c : Nat} {cls : List ClV} {ov : Value} {ord : List Int} {wv : Value} {want : List Int} (h : LawSt w db mb time es A c cls ov ord wv want W4)
    {kind : Int} {pb bx bz : Nat} {x y x' y' : TV} {cv' ov' : Value} {ord' : List Int} (hk2 : kindOf kind true = 2) (hpb : w.heap.size ≤ pb) (hx : x.k = 4 ∧ x.n = 0 ∧ x.s = [112]) (hy : y.k = 3 ∧ y.n = 0 ∧ y.s = [116, 114, 117, 101])
    (hS : DbAddSt W4 (setS db mb (.slice A cls.length c) ov es) w.heap.size db mb pb bx bz (time + 1) [(keyP, pb)] cv' (cls ++ [⟨x', y', time + 1, -1⟩]) (kindOf kind true) (time + 1) ov' ord' x' y' w5)
    (hcx : CopyAt W4.heap.size w5 x x' (some (2, ((cls.length + 1 : Nat) : Int), []))) (hcy : CopyAt W4.heap.size w5 y y' none) :
    ∃ A' c', LawSt w db mb (time + 1) [(keyP, pb)] A' c' (cls ++ [⟨x', y', time + 1, -1⟩]) ov' ord' wv want w5 := by
 obtain ⟨A', c', rfl⟩ := hS.cl.shape
 have hB4 := h.below.size
 have hty : ∀ g cs t fr, W4.heap[g]? = some (.cells cs t fr) → t ≠ 146 → t ≠ 163 → t ≠ 3 → t ≠ 159 → ¬ setS db mb (.slice A cls.length c) ov es g := fun g cs t fr hg h1 h2 h3 h4 e => by
  rcases e with e | e | e | e | e
  ·subst e
   rw [h.db'.blk] at hg
   cases hg
   exact h1 rfl
  ·exact ne_map' hg h.db'.map e
  ·obtain ⟨_, cur, hc⟩ := h.cl.block e
   rw [hg] at hc
   cases hc
   exact h2 rfl
  ·obtain ⟨_, cur, hc⟩ := h.od.block e
   rw [hg] at hc
   cases hc
   exact h3 rfl
  ·rcases h.pr with ⟨h5, _⟩ | ⟨pb', ver, h5, h6, _⟩
   ·rw [h5] at e
    cases e
   ·rw [h5] at e
    have e' : pb' = g := by simpa using e
    subst e'
    unfold PrAt at h6
    rw [hg] at h6
    cases h6
    exact h4 rfl
 have hwS : ∀ g, wv.ownBlock = some g → ¬ setS db mb (.slice A cls.length c) ov es g := fun g hg e => by
  obtain ⟨_, cur, hc⟩ := h.wt.block hg
  rcases e with e | e | e | e | e
  ·subst e
   rw [h.db'.blk] at hc
   cases hc
  ·exact ne_map hc h.db'.map e
  ·obtain ⟨_, cur2, hc2⟩ := h.cl.block e
   rw [hc] at hc2
   cases hc2
  ·exact h.sep g hg e
  ·rcases h.pr with ⟨h5, _⟩ | ⟨pb', ver, h5, h6, _⟩
   ·rw [h5] at e
    cases e
   ·rw [h5] at e
    have e' : pb' = g := by simpa using e
    subst e'
    unfold PrAt at h6
    rw [hc] at h6
    cases h6
 have hlen : (cls ++ [(⟨x', y', time + 1, -1⟩ : ClV)]).length = cls.length + 1 := by simp
 refine ⟨A', c', hS.db', hS.cl, hS.od, h.wt.by_fr hS.fr hwS, fun g hg e => ?_, .inr ⟨pb, time + 1, rfl, by have := hS.pr; rw [hk2] at this; exact this, hpb⟩, fun i cc hi => ?_, h.sdb, h.smb, ?_⟩
 ·rcases hS.sov g e with h1 | h1
  ·exact hwS g hg h1
  ·have := (h.wt.lt g hg).2
   omega
 ·by_cases hlt : i < cls.length
  ·rw [List.getElem?_append_left hlt] at hi
   exact (h.facts i cc hi).keep fun g cs hg => hS.fr.block g (Array.getElem?_eq_some_iff.1 hg).1 (hty _ _ _ _ hg (by decide) (by decide) (by decide) (by decide))
  ·have hi2 : i = cls.length := by
    have := (List.getElem?_eq_some_iff.1 hi).1
    rw [hlen] at this
    omega
   subst hi2
   rw [List.getElem?_append_right (Nat.le_refl _), Nat.sub_self] at hi
   have hc : cc = ⟨x', y', time + 1, -1⟩ := by simpa using hi.symm
   subst hc
   obtain ⟨g, e1, e2, e3⟩ := hcx
   refine ⟨?_, g, ?_, by omega, e3⟩
   ·have : y' = leafTV y.k y.n y.s := hcy
    rw [this, hy.1, hy.2.1, hy.2.2]
   ·rw [e1, hx.1, hx.2.1, hx.2.2]
 ·refine ((Fr.of_below (fun k => w.heap.size ≤ k) h.below).trans (hS.fr.mono fun k _ hk => ?_)).below (Nat.le_refl _) (fun k hk => by omega)
  have hsd := h.sdb
  have hsm := h.smb
  rcases hk with e | e | e | e | e
  ·omega
  ·omega
  ·exact (h.cl.lt k e).1
  ·exact (h.od.lt k e).1
  ·rcases h.pr with ⟨h5, _⟩ | ⟨pb', ver, h5, h6, h7⟩
   ·rw [h5] at e
    cases e
   ·rw [h5] at e
    have e' : pb' = k := by simpa using e
    omega
end Go.Proofs.YtjdnigepnfeboaaGreatDoor
namespace Go.Proofs.YtjdnigepnfeboaaGreatDoor
open Go.RowKit Go.Maps
set_option maxRecDepth 100000
def trB : List UInt8 := [116, 114, 117, 101]
theorem head_src {W : World} {x : TV} {z : Int} (h : TermS W (TyB W 27) x (.mk 4 0 [112] [.mk 2 z [] []])) : ∃ A c b off, x = ⟨4, 0, [112], A, 1, c⟩ ∧ A = some ⟨b, off, none⟩ ∧ TyB W 27 b ∧ ∀ u, u.heap[b]? = W.heap[b]? → SrcAt u x (some (2, z, [])) := by
 generalize hg : Tm.mk 4 0 [112] [.mk 2 z [] []] = G at h
 cases h with
 | mk _ args xs h1 h2 h3 hc ht =>
  obtain ⟨k, n, s, A, l, c⟩ := x
  injection hg with q1 q2 q3 q4
  simp only at q1 q2 q3 h1 h2 hc
  subst q1 q2 q3 q4
  obtain rfl : l = 1 := h2.symm
  obtain ⟨y, rfl⟩ := List.length_eq_one_iff.1 h1
  obtain ⟨b, off, e1, e2, e3⟩ := hc 0 y rfl
  have hy := ht 0 y _ rfl rfl
  refine ⟨A, c, b, off, rfl, e1, e2, fun u hu => ⟨(by decide : (4 : Int) ≠ 1), (by decide : ([112] : List UInt8).length ≤ maxLen), rfl, (by decide : (2 : Int) ≠ 1), (by decide : ([] : List UInt8).length ≤ maxLen), b, off, y.A, y.cap, e1, ?_, fun j v hv => ?_⟩⟩
  ·rcases Nat.lt_or_ge b u.heap.size with h | h
   ·exact h
   ·obtain ⟨cs, e2⟩ := e2
    rw [Array.getElem?_eq_none h, e2] at hu
    cases hu
  ·have hyt : y = ⟨2, z, [], y.A, 0, y.cap⟩ := by
    generalize hg2 : Tm.mk 2 z [] [] = G at hy
    cases hy with
    | mk _ a2 x2 k1 k2 k3 _ _ =>
     obtain ⟨yk, yn, ys, yA, yl, yc⟩ := y
     injection hg2 with r1 r2 r3 r4
     simp only at r1 r2 r3 k2
     subst r1 r2 r3 r4
     obtain rfl : yl = 0 := k2.symm
     rfl
   rw [← hyt] at hv
   have := e3 j v hv
   rw [Nat.zero_mul, Nat.add_zero] at this
   exact (World.cell?_of_block (a := ⟨b, off + j, none⟩) hu).trans this
theorem body_src {W : World} {S : Nat → Prop} {y : TV} (h : TermS W S y (.mk 3 0 trB [])) : y.k = 3 ∧ y.n = 0 ∧ y.s = trB ∧ ∀ u, SrcAt u y none := by
 generalize hg : Tm.mk 3 0 trB [] = G at h
 cases h with
 | mk _ args xs h1 h2 h3 hc ht =>
  injection hg with q1 q2 q3 q4
  refine ⟨q1.symm, q2.symm, q3.symm, fun u => ⟨?_, h3, ?_⟩⟩
  ·rw [← q1]; decide
  ·rw [← q4] at h2
   exact h2.symm
def AddP (w W4 : World) (db mb : Nat) (time : Int) (es : List (PK × Nat)) (A : Option Addr) (c : Nat) (cls : List ClV) (ov : Value) (ord : List Int) (wv : Value) (want : List Int) (e : Ending) (u' : World) : Prop :=
 e = .returned (.tuple #[.int .i64 (cls.length : Int), .int .i64 0]) ∧ (∃ es' A' c' cc ov', cc.birth = time + 1 ∧ cc.death = -1 ∧ LawSt w db mb (time + 1) es' A' c' (cls ++ [cc]) ov' (ord ++ [(cls.length : Int)]) wv want u') ∧ Fr (setS db mb (.slice A cls.length c) ov es) W4 u'
theorem setS_ty {w W4 : World} {db mb : Nat} {time : Int} {es : List (PK × Nat)} {A : Option Addr} {c : Nat} {cls : List ClV} {ov : Value} {ord : List Int} {wv : Value} {want : List Int} (h : LawSt w db mb time es A c cls ov ord wv want W4) {t : TypeId} {b : Nat} (hb : TyB W4 t b) (ht : t ∉ [146, 163, 3, 159]) : ¬ setS db mb (.slice A cls.length c) ov es b := fun e => by
 simp only [List.mem_cons, List.mem_nil_iff, or_false, not_or] at ht
 rcases e with e | e | e | e | e
 ·exact hb.ne ⟨_, h.db'.blk⟩ ht.1 e
 ·exact h.db'.map.ne hb e.symm
 ·exact hb.ne (h.cl.ty e) ht.2.1 rfl
 ·exact hb.ne (h.od.ty e) ht.2.2.1 rfl
 ·rcases h.pr with ⟨h5, _⟩ | ⟨pb', ver, h5, h6, _⟩
  ·rw [h5] at e
   cases e
  ·rw [h5] at e
   have e' : pb' = b := by simpa using e
   exact hb.ne (t' := 159) ⟨_, h6⟩ ht.2.2.2 e'.symm
set_option maxHeartbeats 4000000 in
theorem db_addp (w W4 : World) (db mb : Nat) (time : Int) (es : List (PK × Nat)) (A : Option Addr) (c : Nat) (cls : List ClV) (ov : Value) (ord : List Int) (wv : Value) (want : List Int) (h : LawSt w db mb time es A c cls ov ord wv want W4) (x y : TV)
    (hx : TermS W4 (TyB W4 27) x (.mk 4 0 [112] [.mk 2 ((cls.length + 1 : Nat) : Int) [] []])) (hy : TermS W4 (TyB W4 27) y (.mk 3 0 trB [])) (hl : cls.length ≤ 200) (ho : ord.length ≤ 200) (ht : 0 ≤ time ∧ time ≤ 1000) :
    Calls Tryz.prog 29 #[.pointer (some ⟨db, 0, none⟩), tvV x, tvV y, .bool false, .bool true] W4 (AddP w W4 db mb time es A c cls ov ord wv want) := by
 obtain ⟨Ax, cx, b, off, rfl, eA, hb, hsx⟩ := head_src hx
 obtain ⟨y1, y2, y3, hsy⟩ := body_src hy
 have hbS := setS_ty h hb (by decide)
 have hSx : ∀ u, Fr (setS db mb (.slice A cls.length c) ov es) W4 u → SrcAt u ⟨4, 0, [112], Ax, 1, cx⟩ (some (2, ((cls.length + 1 : Nat) : Int), [])) := fun u hu => hsx u (hu.block b hb.lt hbS)
 have hck : checkT (tmOf ⟨4, 0, [112], Ax, 1, cx⟩ (some (2, ((cls.length + 1 : Nat) : Int), []))) = 0 := by
  simp [checkT, tmOf, Tm.may, Tm.mays, mayP, Tm.deep, Tm.deeps, Tm.size, Tm.sizes]
 have hcy : checkT (tmOf y none) = 0 := by
  unfold tmOf
  rw [y1, y2, y3]
  decide +kernel
 have hB4 := h.below.size
 rcases h.pr with ⟨h5, h6, h7, h8⟩ | ⟨pb0, ver, h5, h6, h7⟩
 ·refine (dbadd_any W4 (setS db mb (.slice A cls.length c) ov es) w.heap.size db mb time es A cls.length c cls 0 0 ov ord h.db' h.cl h.od hB4 ⟨4, 0, [112], Ax, 1, cx⟩ y (some (2, ((cls.length + 1 : Nat) : Int), [])) none
   (hSx W4 (Fr.refl _ _)) (hsy W4) hck hcy (.inr rfl) hSx (fun u _ => hsy u) (by omega) (by omega) (by omega) false true (.inl rfl) (.inr (.inl rfl)) (fun g hg => .inr (.inr (.inl hg))) (fun g hg => .inr (.inr (.inr (.inl hg))))
   (fun pb => W4.heap.size ≤ pb) (fun pb => [(keyP, pb)]) (fun pb h => .inr h) (fun u hu => (get_new u db mb time es _ (h.db'.later hu) [112] 1 ⟨by decide, by decide⟩ (by rw [h5]; rfl)).mono fun e u' ⟨pb, g1, g2, g3, g4, g5⟩ => ⟨pb, g1, Nat.le_trans hu.size g2, by rw [h5] at g3; exact g3, by rw [h6]; exact g4, g5⟩)).mono ?_
  rintro e w5 ⟨pb, bx, bz, x', y', cv', ov', rfl, hpb, hS, hcx, hcy⟩
  obtain ⟨A', c', hL⟩ := h.added (kind := 0) rfl (Nat.le_trans hB4 hpb) ⟨rfl, rfl, rfl⟩ ⟨y1, y2, y3⟩ hS hcx hcy
  exact ⟨rfl, ⟨_, A', c', _, ov', rfl, rfl, hL⟩, hS.fr⟩
 ·refine (dbadd_any W4 (setS db mb (.slice A cls.length c) ov es) w.heap.size db mb time es A cls.length c cls 2 ver ov ord h.db' h.cl h.od hB4 ⟨4, 0, [112], Ax, 1, cx⟩ y (some (2, ((cls.length + 1 : Nat) : Int), [])) none
   (hSx W4 (Fr.refl _ _)) (hsy W4) hck hcy (.inr rfl) hSx (fun u _ => hsy u) (by omega) (by omega) (by omega) false true (.inl rfl) (.inr (.inl rfl)) (fun g hg => .inr (.inr (.inl hg))) (fun g hg => .inr (.inr (.inr (.inl hg))))
   (fun pb => pb = pb0) (fun pb => [(keyP, pb)]) (fun pb h => .inl (by rw [h]; exact .inr (.inr (.inr (.inr h5))))) (fun u hu => (get_old u db mb pb0 time es _ (h.db'.later hu) [112] 1 ⟨by decide, by decide⟩ (by rw [h5]; rfl)).mono fun e u' ⟨g1, g2⟩ => ⟨pb0, g1, rfl, by rw [← h5]; exact (h.db'.later hu).later g2, (h6.later hu).later g2, Fr.of_below _ g2⟩)).mono ?_
  rintro e w5 ⟨pb, bx, bz, x', y', cv', ov', rfl, hpb, hS, hcx, hcy⟩
  obtain ⟨A', c', hL⟩ := h.added (kind := 2) rfl (by rw [hpb]; exact h7) ⟨rfl, rfl, rfl⟩ ⟨y1, y2, y3⟩ hS hcx hcy
  exact ⟨rfl, ⟨_, A', c', _, ov', rfl, rfl, hL⟩, hS.fr⟩
end Go.Proofs.YtjdnigepnfeboaaGreatDoor
