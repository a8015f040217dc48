/-
  What db.Time, Kind, Alive, Kill and New answer. Conditions: the database's block, rows and procedure are as named; the sizes that are named.
-/
import Derived.Test.YtiaajpfebcccfaaDbS
namespace Go.Proofs.Ytiaajpfebcccfaa
open Go.RowKit Go.Maps
set_option maxRecDepth 100000

theorem time_any (w : World) (db mb : Nat) (time : Int) (es : List (PK × Nat)) (cv : Value) (h : DbAt w db mb time es cv) :
    Calls Try.prog 11 #[.pointer (some ⟨db, 0, none⟩)] w fun e w' => e = .returned (.int .i64 time) ∧ w = w' := by
  obtain ⟨c0, c1, c2, cf⟩ := h.cells
  clear h
  go_enter Try.func11, Try.ntmps11
  go_wp2_with fail
  go_ret
  exact ⟨rfl, rfl⟩
set_option maxHeartbeats 2000000 in
theorem kind_any (w : World) (db mb pb : Nat) (time : Int) (es : List (PK × Nat)) (cv : Value) (h : DbAt w db mb time es cv) (n : List UInt8) (a : Int) (hk : okPK (n, a)) (hg : mget es (n, a) = some pb) (kind ver : Int) (ov : Value) (now : Int) (hp : PrAt w pb kind ver ov now) :
    Calls Try.prog 12 #[.pointer (some ⟨db, 0, none⟩), .string ⟨n.toArray⟩, .int .i64 a] w fun e w' => e = .returned (.int .i64 kind) ∧ w = w' := by
  obtain ⟨c0, c1, c2, cf⟩ := h.cells
  obtain ⟨p0, p1, p2, p3, pf⟩ := hp.cells
  have hl := db_lookup h.map h.ok n a hk
  simp only [hg, Option.map_some, Option.getD_some, pv] at hl
  clear h hp hg hk
  go_enter Try.func12, Try.ntmps12
  go_wp2_with fail
  go_ret
  exact ⟨rfl, rfl⟩
set_option maxHeartbeats 2000000 in
theorem new_any (w : World) : Calls Try.prog 5 #[] w fun e w' => e = .returned (.pointer (some ⟨w.heap.size + 1, 0, none⟩)) ∧ DbAt w' (w.heap.size + 1) w.heap.size 0 [] (.slice none 0 0) ∧ Below w.heap.size w w' := by
  have hmm := @run_makeMap Try.prog
  go_enter Try.func5, Try.ntmps5
  go_wp2_with fail
  go_ret
  refine ⟨rfl, ?_, ?_⟩
  · refine ⟨?_, (MapAt.made w).alloc _, fun x hx => by cases hx⟩
    have h := heap_alloc_new (w.alloc (Obj.map #[] 0)) (Obj.cells #[.int .i64 0, .map (some w.heap.size), .slice none 0 0] 44)
    rwa [show (w.alloc (Obj.map #[] 0)).heap.size = w.heap.size + 1 by simp] at h
  · exact ((Below.refl _ _).alloc (Nat.le_refl _) _).alloc (by simp) _
theorem kill_nil (w : World) (n : Int) : Calls Try.prog 7 #[.pointer none, .int .i64 n] w fun e w' => e = .returned (.int .i64 1) ∧ w = w' := by
  go_enter Try.func7, Try.ntmps7
  go_wp2_with fail
  go_ret
  exact ⟨rfl, rfl⟩

def liveC (t : Int) (c : ClV) : Bool := decide (c.birth ≤ t) && (decide (c.death < 0) || decide (t < c.death))
def aliveL (cls : List ClV) (t : Int) (ord : List Int) : List Int := ord.filter (fun x => (cls[x.toNat]?).any (liveC t))
theorem aliveL_snoc (cls : List ClV) (t : Int) (l : List Int) (x : Int) (c : ClV) (h : cls[x.toNat]? = some c) : aliveL cls t (l ++ [x]) = aliveL cls t l ++ (if liveC t c = true then [x] else []) := by
  unfold aliveL
  rw [List.filter_append]
  congr 1
  rw [List.filter_cons, h]
  rfl
theorem aliveL_len (cls : List ClV) (t : Int) (l : List Int) : (aliveL cls t l).length ≤ l.length := List.length_filter_le _ _
theorem cl_cells {u : World} {B : Nat} {A : Option Addr} {N c : Nat} {cls : List ClV} (h : Row u B 53 10 encCl (.slice A N c) cls) {i : Nat} {x : ClV} (hi : cls[i]? = some x) :
    ∃ g, A = some ⟨g, 0, none⟩ ∧ N = cls.length ∧ i < N ∧ B ≤ g ∧ g < u.heap.size ∧ ∀ j v, (encCl x)[j]? = some v → u.cell? ⟨g, i * 10 + j, none⟩ = some v ∧ u.frozen? ⟨g, i * 10 + j, none⟩ = false := by
  have hne : cls ≠ [] := by rintro rfl; cases hi
  obtain ⟨g, cap, e1, hB, hg, _, hc⟩ := h.cells encCl_len hne
  injection e1 with e1 e2 e3
  exact ⟨g, e1, e2, by rw [e2]; exact (List.getElem?_eq_some_iff.1 hi).1, hB, hg, fun j v hv => hc i x hi j v hv⟩

set_option maxHeartbeats 8000000 in
theorem alive_any (w : World) (B db mb pb : Nat) (time : Int) (es : List (PK × Nat)) (A : Option Addr) (N c : Nat) (cls : List ClV) (h : DbAt w db mb time es (.slice A N c)) (n : List UInt8) (a : Int) (hk : okPK (n, a)) (hg : mget es (n, a) = some pb) (kind ver : Int) (ov : Value) (ord : List Int) (hp : PrAt w pb kind ver ov 0)
    (hcl : Row w B 53 10 encCl (.slice A N c) cls) (hod : Row w B 3 1 encI ov ord) (hin : ∀ x ∈ ord, 0 ≤ x ∧ x < (cls.length : Int)) (ho : ord.length ≤ 10000) (t : Int) :
    Calls Try.prog 10 #[.pointer (some ⟨db, 0, none⟩), .string ⟨n.toArray⟩, .int .i64 a, .int .i64 t] w fun e w' => ∃ v, e = .returned v ∧ Row w' w.heap.size 3 1 encI v (aliveL cls t ord) ∧ Below w.heap.size w w' := by
  obtain ⟨c0, c1, c2, cf⟩ := h.cells
  obtain ⟨p0, p1, p2, p3, pf⟩ := hp.cells
  have hl := db_lookup h.map h.ok n a hk
  simp only [hg, Option.map_some, Option.getD_some, pv] at hl
  obtain ⟨Ao, co, rfl⟩ := hod.shape
  have hdl := h.lt
  have HCL := Lib.hid hcl
  have HOD := Lib.hid hod
  have HIN := Lib.hid hin
  have ho' : (ord.length : Int) ≤ 10000 := by omega
  have HC := Lib.hid (And.intro c0 (And.intro c1 c2))
  obtain ⟨i1, z1, hi1, hz4, hz5, hz6, hz7⟩ := int_info
  clear h hp hg hk hcl hod hin
  go_enter Try.func10, Try.ntmps10
  go_wp2_with fail
  clear hl c0 c1 c2 cf p0 p1 p2 p3 pf
  go_loopw [9, 38] (fun v i wr => ∃ k : Nat, k ≤ ord.length ∧ i = .int .i64 k ∧ Hid (Row wr w.heap.size 3 1 encI v (aliveL cls t (ord.take k))) ∧ Hid (Below w.heap.size w wr)) (fun _ i _ => ord.length - (intOf i).toNat)
  case atStart => exact ⟨0, Nat.zero_le _, rfl, Lib.hid (Row.nil _ _ _ _ _), Lib.hid (Below.refl _ _)⟩
  case round =>
    obtain ⟨k, hk, rfl, HR, HB⟩ := hrel
    have hwr := HB.out.size
    by_cases hlt : k < ord.length
    · have hx := List.getElem?_eq_getElem hlt
      have hsn := List.take_succ_eq_append_getElem hlt
      have htk := aliveL_len cls t (ord.take k)
      rw [List.length_take] at htk
      have hmem := HIN.out _ (List.getElem_mem hlt)
      generalize ord[k] = x at hx hsn hmem
      obtain ⟨m, rfl⟩ : ∃ m : Nat, x = (m : Int) := ⟨x.toNat, by omega⟩
      have hm : m < cls.length := by omega
      have hcm := List.getElem?_eq_getElem hm
      generalize cls[m] = cc at hcm
      obtain ⟨go, e1, hgo, hgo2, hco⟩ : ∃ go, Ao = some ⟨go, 0, none⟩ ∧ B ≤ go ∧ go < w.heap.size ∧ w.cell? ⟨go, k, none⟩ = some (.int .i64 (m : Int)) := by
        obtain ⟨g, cap, e1, hB, hg, _, hc⟩ := HOD.out.cells encI_len (by rintro rfl; cases hx)
        injection e1 with e1 e2 e3
        exact ⟨g, e1, hB, hg, by have := (hc k _ hx 0 (.int .i64 (m : Int)) rfl).1; simpa using this⟩
      subst e1
      obtain ⟨g, e2, hN, hmN, hgB, hgl, hcc⟩ := cl_cells HCL.out hcm
      subst e2
      have q8 := (hcc 8 (.int .i64 cc.birth) rfl).1
      have q9 := (hcc 9 (.int .i64 cc.death) rfl).1
      have hco' := (HB.out.cell (p := ⟨go, k, none⟩) hgo2).trans hco
      have q8' := (HB.out.cell (p := ⟨g, m * 10 + 8, none⟩) hgl).trans q8
      have q9' := (HB.out.cell (p := ⟨g, m * 10 + 9, none⟩) hgl).trans q9
      have c2 := (HB.out.cell (p := ⟨db, 2, none⟩) hdl).trans HC.out.2.2
      have hsn2 := aliveL_snoc cls t (ord.take k) (m : Int) cc hcm
      rw [← hsn] at hsn2
      have HSN := Lib.hid hsn2
      have hlt' : (k : Int) < (ord.length : Int) := by omega
      have hmN' : (m : Int) < (N : Int) := by omega
      clear hx hsn hsn2 hcm hcc q8 q9 hco hmem
      obtain ⟨hd, bd, bi, de⟩ := cc
      simp only at q8' q9'
      unfold liveC at HSN
      simp only at HSN
      have hq : (bi ≤ t ∧ de < 0) ∨ (bi ≤ t ∧ ¬ de < 0 ∧ t < de) ∨ (bi ≤ t ∧ ¬ de < 0 ∧ ¬ t < de) ∨ ¬ bi ≤ t := by
        by_cases h1 : bi ≤ t <;> by_cases h2 : de < 0 <;> by_cases h3 : t < de <;> simp [h1, h2, h3]
      rcases hq with ⟨hb1, hb2⟩ | ⟨hb1, hb2, hb3⟩ | ⟨hb1, hb2, hb3⟩ | hb1
      · have HBS := Lib.hid (And.intro hb1 hb2)
        have HSA : Hid (aliveL cls t (ord.take (k + 1)) = aliveL cls t (ord.take k) ++ [(m : Int)]) := Lib.hid (by rw [HSN.out]; simp [HBS.out])
        clear HSN HBS
        go_wp2_with (at_builtin; refine wpList_row rfl _ _ 27 rfl _ w.heap.size 3 i1 z1 1 8 encI Try.underlying27 hi1 hz4 hz5 hz6 hz7 (by decide) encI_len encI_one _ (aliveL cls t (ord.take k)) (m : Int) rfl (HR.out.alloc _) _ _ rfl (fun j u hu => cell_made _ _ _ j u (by simpa [encI] using hu)) (by unfold maxLen; omega) (by omega) (Nat.le_trans hwr (by simp)) ?_)
        intro v' w5 hrow5 hg5
        have HR5 : Hid (Row w5 w.heap.size 3 1 encI v' (aliveL cls t (ord.take (k + 1)))) := Lib.hid (by rw [HSA.out]; exact hrow5)
        have HB5 : Hid (Below w.heap.size w w5) := Lib.hid (((Fr.of_below (fun k => w.heap.size ≤ k) HB.out).alloc _ |>.grown hg5 fun g e => .inl (HR.out.lt g e).1).below (Nat.le_refl _) (fun k hk => by omega))
        clear hrow5 hg5
        go_wp2_with fail
        go_roundw
        case rel => exact ⟨k + 1, hlt, by go_num, HR5, HB5⟩
        case measure => simp [intOf]; omega
      · have HBS := Lib.hid (And.intro hb1 (And.intro hb2 hb3))
        have HSA : Hid (aliveL cls t (ord.take (k + 1)) = aliveL cls t (ord.take k) ++ [(m : Int)]) := Lib.hid (by rw [HSN.out]; simp [HBS.out])
        clear HSN HBS
        go_wp2_with (at_builtin; refine wpList_row rfl _ _ 27 rfl _ w.heap.size 3 i1 z1 1 8 encI Try.underlying27 hi1 hz4 hz5 hz6 hz7 (by decide) encI_len encI_one _ (aliveL cls t (ord.take k)) (m : Int) rfl (HR.out.alloc _) _ _ rfl (fun j u hu => cell_made _ _ _ j u (by simpa [encI] using hu)) (by unfold maxLen; omega) (by omega) (Nat.le_trans hwr (by simp)) ?_)
        intro v' w5 hrow5 hg5
        have HR5 : Hid (Row w5 w.heap.size 3 1 encI v' (aliveL cls t (ord.take (k + 1)))) := Lib.hid (by rw [HSA.out]; exact hrow5)
        have HB5 : Hid (Below w.heap.size w w5) := Lib.hid (((Fr.of_below (fun k => w.heap.size ≤ k) HB.out).alloc _ |>.grown hg5 fun g e => .inl (HR.out.lt g e).1).below (Nat.le_refl _) (fun k hk => by omega))
        clear hrow5 hg5
        go_wp2_with fail
        go_roundw
        case rel => exact ⟨k + 1, hlt, by go_num, HR5, HB5⟩
        case measure => simp [intOf]; omega
      · have HBS := Lib.hid (And.intro hb1 (And.intro hb2 hb3))
        have HSA : Hid (aliveL cls t (ord.take (k + 1)) = aliveL cls t (ord.take k)) := Lib.hid (by rw [HSN.out]; simp [HBS.out])
        clear HSN HBS
        go_wp2_with fail
        go_roundw
        case rel => exact ⟨k + 1, hlt, by go_num, Lib.hid (by rw [HSA.out]; exact HR.out), HB⟩
        case measure => simp [intOf]; omega
      · have HBS := Lib.hid hb1
        have HSA : Hid (aliveL cls t (ord.take (k + 1)) = aliveL cls t (ord.take k)) := Lib.hid (by rw [HSN.out]; simp [HBS.out])
        clear HSN HBS
        go_wp2_with fail
        go_roundw
        case rel => exact ⟨k + 1, hlt, by go_num, Lib.hid (by rw [HSA.out]; exact HR.out), HB⟩
        case measure => simp [intOf]; omega
    · have hkn : k = ord.length := by omega
      subst hkn
      rw [List.take_length] at HR
      go_wp2_with fail
      go_ret
      exact ⟨_, rfl, HR.out, HB.out⟩
end Go.Proofs.Ytiaajpfebcccfaa
