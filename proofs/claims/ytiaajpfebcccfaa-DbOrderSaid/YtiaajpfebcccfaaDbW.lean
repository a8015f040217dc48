/-
  What db.List answers of a database of at most one procedure, its clauses facts with one number each. Conditions: the database's block, rows and procedure are as named; the sizes that are named.
-/
import Derived.Test.YtiaajpfebcccfaaDbV
import Derived.Test.YtiaajpfebcccfaaRange
namespace Go.Proofs.Ytiaajpfebcccfaa
open Go.RowKit Go.Maps
set_option maxRecDepth 100000
attribute [local go_sem ↓] Go.wp_at_zero Go.wp_at_succ

def encPK (k : PK) : List Value := [.string ⟨k.1.toArray⟩, .int .i64 k.2]
theorem encPK_len (k : PK) : (encPK k).length = 2 := rfl
theorem encPK_one (k : PK) : ∀ u ∈ encPK k, u.oneCell' = true := by
  intro u hu
  simp [encPK] at hu
  rcases hu with rfl | rfl <;> rfl
theorem pk_info : ∃ i z, Try.prog.info? 58 = some i ∧ i.zero = some z ∧ i.size = 2 ∧ i.bytes = 24 ∧ z.cells.size = 2 := by
  refine ⟨_, _, rfl, rfl, ?_, ?_, ?_⟩ <;> kernel_rfl
theorem tv_info : ∃ i z, Try.prog.info? 33 = some i ∧ i.zero = some z ∧ i.size = 4 ∧ i.bytes = 56 ∧ z.cells.size = 4 := by
  refine ⟨_, _, rfl, rfl, ?_, ?_, ?_⟩ <;> kernel_rfl

theorem cell_alloc2 (w : World) (a : Obj) (cs : Array Value) (t : TypeId) (i : Nat) (u : Value) (h : cs[i]? = some u) :
    ((w.alloc a).alloc (.cells cs t)).cell? ⟨w.heap.size + 1, i, none⟩ = some u := by
  have := cell_made (w.alloc a) cs t i u h
  rwa [show (w.alloc a).heap.size = w.heap.size + 1 by simp] at this

theorem bcell {W w1 : World} (hb : Below W.heap.size W w1) : (∀ b o, b < W.heap.size → w1.cell? ⟨b, o, none⟩ = W.cell? ⟨b, o, none⟩) ∧ (∀ b o, b < W.heap.size → w1.frozen? ⟨b, o, none⟩ = W.frozen? ⟨b, o, none⟩) :=
  ⟨fun b o h => hb.cell (p := ⟨b, o, none⟩) h, fun b o h => hb.frozen (p := ⟨b, o, none⟩) h⟩

/-- A fact of one number. -/
structure FactAt (w : World) (c : ClV) (i : Nat) : Prop where
  head : SrcAt w c.head (some (2, (i : Int), []))
  body : SrcAt w c.body none
  kind : c.body.k = 3
  name : c.body.s = [116, 114, 117, 101]
theorem FactAt.later {w w' : World} {c : ClV} {i : Nat} (h : FactAt w c i) (hb : Below w.heap.size w w') : FactAt w' c i := ⟨h.head.later hb, h.body.later hb, h.kind, h.name⟩

/-- The two copies, in the two variables' blocks. -/
def TwoAt (wr : World) (c : ClV) (m : Nat) (bx bz : Nat) (x' : TV) (u : World) : Prop :=
  u.heap[bx]? = some (.cells #[.int .i64 x'.k, .int .i64 x'.n, .string ⟨x'.s.toArray⟩, .slice x'.A x'.len x'.cap] 33 (0, 0)) ∧ u.heap[bz]? = some (.cells #[.int .i64 c.body.k, .int .i64 c.body.n, .string ⟨c.body.s.toArray⟩, .slice none 0 0] 33 (0, 0)) ∧ CopyAt wr.heap.size u c.head x' (some (2, (m : Int), [])) ∧ Below wr.heap.size wr u

theorem below_call {w E u : World} (h : Below w.heap.size w E) (hb : Below E.heap.size E u) : Below w.heap.size w u := h.trans (hb.mono h.size)
theorem below_alloc {w E : World} (h : Below w.heap.size w E) (o : Obj) : Below w.heap.size w (E.alloc o) := h.alloc h.size o
theorem blk_new {w : World} {o : Obj} {n : Nat} (h : n = w.heap.size) : (w.alloc o).heap[n]? = some o := by rw [h]; exact heap_alloc_new w o
theorem blk_old {w : World} {o r : Obj} {n : Nat} (h : w.heap[n]? = some r) : (w.alloc o).heap[n]? = some r := (Below.heap_alloc w o n (Array.getElem?_eq_some_iff.1 h).1).trans h
theorem blk_call {E u : World} {n : Nat} {r : Obj} (hb : Below E.heap.size E u) (h : E.heap[n]? = some r) : u.heap[n]? = some r := (hb.block n (Array.getElem?_eq_some_iff.1 h).1).trans h
theorem blk_drew {w : World} {n : Nat} {r : Obj} (h : w.heap[n]? = some r) : w.drew.heap[n]? = some r := h
theorem blk_set4 {V : World} {b : Nat} {z0 z1 z2 z3 a0 a1 a2 a3 : Value} {t : TypeId} (h : V.heap[b]? = some (.cells #[z0, z1, z2, z3] t (0, 0))) : ((((V.setCell ⟨b, 0, none⟩ a0).setCell ⟨b, 1, none⟩ a1).setCell ⟨b, 2, none⟩ a2).setCell ⟨b, 3, none⟩ a3).heap[b]? = some (.cells #[a0, a1, a2, a3] t (0, 0)) :=
  blk_put (blk_put (blk_put (blk_put h _) _) _) _
theorem blk_set4o {V : World} {b k : Nat} {a0 a1 a2 a3 : Value} {r : Obj} (hne : k ≠ b) (h : V.heap[k]? = some r) : ((((V.setCell ⟨b, 0, none⟩ a0).setCell ⟨b, 1, none⟩ a1).setCell ⟨b, 2, none⟩ a2).setCell ⟨b, 3, none⟩ a3).heap[k]? = some r := by
  rw [Deep.blk_setCell_other _ _ _ _ hne, Deep.blk_setCell_other _ _ _ _ hne, Deep.blk_setCell_other _ _ _ _ hne, Deep.blk_setCell_other _ _ _ _ hne]
  exact h

/-- The heads of some clauses, in memory of their own. -/
def Heads (w : World) (cls : List ClV) (al : List Int) (xs : List TV) (v : Value) (u : World) : Prop :=
  xs.length = al.length ∧ ∀ (i : Nat) (x : Int), al[i]? = some x → ∃ (cc : ClV) (y : TV), cls[x.toNat]? = some cc ∧ xs[i]? = some y ∧ CopyAt w.heap.size u cc.head y (some (2, x, [])) ∧ ∀ g, y.A = some ⟨g, 0, none⟩ → v.ownBlock ≠ some g
/-- What List comes to. -/
def ListPost (w : World) (cls : List ClV) (al : List Int) (e : Ending) (w' : World) : Prop :=
  ∃ (v : Value) (xs : List TV), e = .returned v ∧ Row w' w.heap.size 33 4 encTV v xs ∧ Heads w cls al xs v w' ∧ Below w.heap.size w w'

theorem Heads.base {w w4 : World} {cls : List ClV} {al : List Int} {xs : List TV} {v : Value} {u : World} (h : Heads w4 cls al xs v u) (hB : w.heap.size ≤ w4.heap.size) : Heads w cls al xs v u :=
  ⟨h.1, fun i x hx => by
    obtain ⟨cc, y, h1, h2, h3, h4⟩ := h.2 i x hx
    exact ⟨cc, y, h1, h2, h3.keep hB (fun _ _ _ _ => rfl), h4⟩⟩
/-- What holds as the heads are gathered. -/
def HeadSt (w4 : World) (cls : List ClV) (al : List Int) (xs : List TV) (v : Value) (u : World) : Prop :=
  Row u w4.heap.size 33 4 encTV v xs ∧ Heads w4 cls al xs v u ∧ Below w4.heap.size w4 u
theorem HeadSt.step {w4 wr wc w9 : World} {cls : List ClV} {al a2 : List Int} {xs : List TV} {Av : Option Addr} {cv g9 cap9 m bx bz : Nat} {cc : ClV} {x' : TV} (h : HeadSt w4 cls al xs (.slice Av xs.length cv) wr) (hT : TwoAt wr cc m bx bz x' wc) (hcm : cls[m]? = some cc) (ha : a2 = al ++ [(m : Int)])
    (hR : Row w9 w4.heap.size 33 4 encTV (.slice (some ⟨g9, 0, none⟩) (xs.length + 1) cap9) (xs ++ [x'])) (hg : (wc.alloc (.cells (encTV x').toArray 33)).grownBy w9 (Value.slice Av xs.length cv).ownBlock) (ho : (Value.slice Av xs.length cv).ownBlock = some g9 ∨ g9 = (wc.alloc (.cells (encTV x').toArray 33)).heap.size) :
    HeadSt w4 cls a2 (xs ++ [x']) (.slice (some ⟨g9, 0, none⟩) (xs.length + 1) cap9) w9 := by
  obtain ⟨hr, hh, hb⟩ := h
  obtain ⟨_, _, hc, hw⟩ := hT
  have hs1 := hw.size
  have hs4 := hb.size
  have hsz : (wc.alloc (.cells (encTV x').toArray 33)).heap.size = wc.heap.size + 1 := by simp
  have keep : ∀ g, g < wc.heap.size → (Value.slice Av xs.length cv).ownBlock ≠ some g → w9.heap[g]? = wc.heap[g]? := fun g h1 h2 => by
    rw [hg.block g (by rw [hsz]; omega) (fun e => h2 e.symm)]
    exact Below.heap_alloc _ _ _ h1
  have own9 : ∀ g, g < wc.heap.size → (Value.slice Av xs.length cv).ownBlock ≠ some g → (Value.slice (some ⟨g9, 0, none⟩) (xs.length + 1) cap9).ownBlock ≠ some g := fun g h1 h2 e => by
    have e' : g9 = g := by simpa [Value.ownBlock] using e
    rcases ho with h | h
    · exact h2 (by rw [h, e'])
    · rw [hsz] at h
      omega
  subst ha
  refine ⟨hR, ⟨by rw [List.length_append, List.length_append, hh.1]; rfl, fun i x hx => ?_⟩, ?_⟩
  · by_cases hi : i < al.length
    · rw [List.getElem?_append_left hi] at hx
      obtain ⟨c2, y, h1, h2, h3, h4⟩ := hh.2 i x hx
      obtain ⟨g, e1, e2, e3⟩ := h3
      have hgl : g < wr.heap.size := (Array.getElem?_eq_some_iff.1 e3).1
      have hne := h4 g (by rw [e1])
      refine ⟨c2, y, h1, by rw [List.getElem?_append_left (by rw [hh.1]; exact hi)]; exact h2, ⟨g, e1, e2, ?_⟩, fun g' hg' => ?_⟩
      · rw [keep g (by omega) hne, hw.block g hgl]
        exact e3
      · rw [e1] at hg'
        have : g = g' := by simpa using hg'
        subst this
        exact own9 g (by omega) hne
    · have hi2 : i = al.length := by
        have := (List.getElem?_eq_some_iff.1 hx).1
        simp at this
        omega
      subst hi2
      rw [List.getElem?_append_right (Nat.le_refl _), Nat.sub_self] at hx
      have hxm : x = (m : Int) := by simpa using hx.symm
      subst hxm
      obtain ⟨g, e1, e2, e3⟩ := hc
      have hgl : g < wc.heap.size := (Array.getElem?_eq_some_iff.1 e3).1
      have hne : (Value.slice Av xs.length cv).ownBlock ≠ some g := fun e => by have := (hr.lt g e).2; omega
      refine ⟨cc, x', hcm, by rw [List.getElem?_append_right (by rw [hh.1]; exact Nat.le_refl _), hh.1, Nat.sub_self]; rfl, ⟨g, e1, by omega, ?_⟩, fun g' hg' => ?_⟩
      · rw [keep g hgl hne]
        exact e3
      · rw [e1] at hg'
        have : g = g' := by simpa using hg'
        subst this
        exact own9 g hgl hne
  · have f1 : Fr (fun k => w4.heap.size ≤ k) w4 (wc.alloc (.cells (encTV x').toArray 33)) := (Fr.of_below _ (hb.trans (hw.mono hs4))).alloc _
    exact (f1.grown hg (fun g e => .inl (hr.lt g e).1)).below (Nat.le_refl _) (fun k hk => by omega)

set_option maxHeartbeats 16000000 in
theorem list_one (w : World) (B db mb pb : Nat) (time : Int) (k0 : PK) (A : Option Addr) (N c : Nat) (cls : List ClV) (h : DbAt w db mb time [(k0, pb)] (.slice A N c)) (kind ver : Int) (ov : Value) (ord : List Int) (hp : PrAt w pb kind ver ov 0)
    (hcl : Row w B 53 10 encCl (.slice A N c) cls) (hod : Row w B 3 1 encI ov ord) (hin : ∀ x ∈ ord, 0 ≤ x ∧ x < (cls.length : Int)) (ho : ord.length ≤ 10000) (hf : ∀ i c, cls[i]? = some c → FactAt w c i) :
    Calls Try.prog 8 #[.pointer (some ⟨db, 0, none⟩)] w (ListPost w cls (aliveL cls time ord)) := by
  obtain ⟨c0, c1, c2, cf⟩ := h.cells
  have hdl := h.lt
  obtain ⟨w1, hrg, hit, hb1⟩ := h.map.range (P := Try.prog) Try.underlying41
  obtain ⟨j, x, w2, hnx, hjx, hit2, hg2, hsz2, hent⟩ := hit.next (P := Try.prog) (ty := 0) (by simp)
  have hj0 : j = 0 := by
    have := (List.getElem?_eq_some_iff.1 hjx).1
    simpa using this
  subst hj0
  have hx0 : x = (k0, pb) := by simpa using hjx.symm
  subst hx0
  simp only [List.eraseIdx_cons_zero] at hit2
  have hB2 : Below w.heap.size w w2 := (Fr.grown (Fr.of_below (fun k => w.heap.size ≤ k) hb1) hg2 (fun g e => by left; have := Option.some.inj e; omega)).below (Nat.le_refl _) (fun k hk => by omega)
  obtain ⟨i0, z0, hi0, hz0, hz1, hz2, hz3⟩ := pk_info
  have HH := Lib.hid (And.intro h (And.intro hp (And.intro hcl (And.intro hod (And.intro hin hf)))))
  have HIT := Lib.hid hit2
  have HB2 := Lib.hid hB2
  have hw2 := hB2.size
  obtain ⟨kn, ka⟩ := k0
  simp only [pk, pv] at hnx hent
  clear h hp hcl hod hin hf hit hb1 hit2 hg2 hB2 hjx hsz2
  go_enter Try.func8, Try.ntmps8
  go_wp2_with fail
  go_loopw [3] (fun v wr => (Hid (v = .slice none 0 0) ∧ wr = w1) ∨ (∃ A1 c1, v = .slice A1 1 c1 ∧ Hid (Row wr w.heap.size 58 2 encPK (.slice A1 1 c1) [(kn, ka)] ∧ RangeAt wr w.heap.size mb pk pv [((kn, ka), pb)] [] ∧ Below w.heap.size w wr))) (fun v _ => 1 - sliceLen v)
  case atStart => exact .inl ⟨Lib.hid rfl, rfl⟩
  case round =>
    rcases hrel with ⟨HV, rfl⟩ | ⟨A1, c1', rfl, HR⟩
    · go_wp2_with (at_builtin; refine wpList_row rfl _ _ 56 rfl _ w.heap.size 58 i0 z0 2 24 encPK Try.underlying56 hi0 hz0 hz1 hz2 hz3 (by decide) encPK_len encPK_one _ [] (kn, ka) rfl (by rw [HV.out]; exact Row.nil _ _ _ _ _) _ _ rfl (fun j u hu => cell_alloc2 _ _ _ _ j u (by simpa [encPK] using hu)) (by unfold maxLen; simp) (by simp) (Nat.le_trans hw2 (by simp <;> omega)) ?_)
      intro v' w5 hrow5 hg5
      obtain ⟨A1, c1', rfl⟩ := hrow5.shape
      have hb5 : Below w2.heap.size w2 w5 := (Fr.grown (((Fr.refl (fun k => w2.heap.size ≤ k) w2).alloc (.cells #[.string ⟨kn.toArray⟩, .int .i64 ka] 58)).alloc (.cells #[.string ⟨kn.toArray⟩, .int .i64 ka] 58)) hg5 (fun g e => by rw [HV.out] at e; cases e)).below (Nat.le_refl _) (fun k hk => by omega)
      have HR5 : Hid (Row w5 w.heap.size 58 2 encPK (.slice A1 1 c1') [(kn, ka)] ∧ RangeAt w5 w.heap.size mb pk pv [((kn, ka), pb)] [] ∧ Below w.heap.size w w5) := Lib.hid ⟨hrow5, HIT.out.later hb5, HB2.out.trans (hb5.mono hw2)⟩
      clear hrow5 hg5 hb5
      go_wp2_with fail
      go_roundw
      case rel => exact .inr ⟨_, _, rfl, HR5⟩
      case measure => rw [HV.out]; simp [sliceLen]
    · have hov := HR.out.2.1.over (P := Try.prog) (ty := 0)
      have hwr := HR.out.2.2.size
      go_wp2_with fail
      refine (sort_small wr A1 1 c1' (Nat.le_refl _) _).mono ?_
      rintro e u ⟨rfl, rfl⟩
      obtain ⟨gk, ek, hgk1, hgk2, k0c, k1c⟩ : ∃ gk, A1 = some ⟨gk, 0, none⟩ ∧ w.heap.size ≤ gk ∧ gk < wr.heap.size ∧ wr.cell? ⟨gk, 0, none⟩ = some (.string ⟨kn.toArray⟩) ∧ wr.cell? ⟨gk, 1, none⟩ = some (.int .i64 ka) := by
        obtain ⟨g, cap, e1, hB, hg, _, hc⟩ := HR.out.1.cells encPK_len (by simp)
        injection e1 with e1 e2 e3
        exact ⟨g, e1, hB, hg, (hc 0 _ rfl 0 _ rfl).1, (hc 0 _ rfl 1 _ rfl).1⟩
      subst ek
      have d0 := (HR.out.2.2.cell (p := ⟨db, 0, none⟩) hdl).trans c0
      have HDW := Lib.hid (And.intro (HH.out.1.later HR.out.2.2) (And.intro (HH.out.2.1.later HR.out.2.2) (And.intro (HH.out.2.2.1.later HR.out.2.2) (HH.out.2.2.2.1.later HR.out.2.2))))
      have HBW := Lib.hid HR.out.2.2
      clear hov hnx hent hrg c0 c1 c2 cf HR HIT HB2
      go_wp2_with fail
      go_loopw [5, 31] (fun v i u => (Hid (v = .slice none 0 0) ∧ i = .int .i64 0 ∧ u = wr) ∨ (i = .int .i64 1 ∧ Hid (ListPost w cls (aliveL cls time ord) (.returned v) u))) (fun _ i _ => 1 - (intOf i).toNat)
      case atStart => exact .inl ⟨Lib.hid rfl, rfl, rfl⟩
      case round =>
        rcases hrel with ⟨HV, rfl, rfl⟩ | ⟨rfl, HP⟩
        · obtain ⟨W1, hW1⟩ : ∃ W1, W1 = wr.alloc (.cells #[.string ⟨kn.toArray⟩, .int .i64 ka] 58) := ⟨_, rfl⟩
          have hb1 : Below wr.heap.size wr W1 := by rw [hW1]; exact (Below.refl _ _).alloc (Nat.le_refl _) _
          have hn0 : W1.cell? ⟨wr.heap.size, 0, none⟩ = some (.string ⟨kn.toArray⟩) := by rw [hW1]; exact cell_made wr _ _ 0 _ rfl
          have hn1 : W1.cell? ⟨wr.heap.size, 1, none⟩ = some (.int .i64 ka) := by rw [hW1]; exact cell_made wr _ _ 1 _ rfl
          have hd1 := (hb1.cell (p := ⟨db, 0, none⟩) (by have := HBW.out.size; simp only; omega)).trans d0
          have HAL := Lib.hid (alive_any W1.drew B db mb pb time [((kn, ka), pb)] A N c cls (HDW.out.1.later hb1.drew) kn ka (HH.out.1.ok ((kn, ka), pb) (by simp)) (by simp [mget]) kind ver ov ord (HDW.out.2.1.later hb1.drew) (HDW.out.2.2.1.later hb1.drew) (HDW.out.2.2.2.later hb1.drew) HH.out.2.2.2.2.1 ho time)
          have HB1 := Lib.hid hb1
          have hl1 : wr.heap.size < W1.drew.heap.size := World.block_lt_of_cell? W1 _ hn0
          have hl2 : db < W1.drew.heap.size := World.block_lt_of_cell? W1 _ hd1
          clear hb1
          go_wp2_with fail
          rw [← hW1]
          clear hW1
          go_region_held3 (fun u => u.cell? ⟨wr.heap.size, 0, none⟩ = some (.string ⟨kn.toArray⟩) ∧ u.cell? ⟨wr.heap.size, 1, none⟩ = some (.int .i64 ka) ∧ u.cell? ⟨db, 0, none⟩ = some (.int .i64 time)) (first | exact ⟨hn0, hn1, hd1⟩ | exact ⟨hm0, hm1, hm2⟩)
            ((go_at_call 10; (with_reducible refine HAL.out.mono ?_); rintro e w4 ⟨va, rfl, hra, hba⟩; obtain ⟨Aa, ca, rfl⟩ := hra.shape; have HRA := Lib.hid hra; have HBA := Lib.hid hba; have hm0 := (hba.cell (p := ⟨wr.heap.size, 0, none⟩) hl1).trans hn0; have hm1 := (hba.cell (p := ⟨wr.heap.size, 1, none⟩) hl1).trans hn1; have hm2 := (hba.cell (p := ⟨db, 0, none⟩) hl2).trans hd1; clear hra hba))
          obtain ⟨al, hal⟩ : ∃ al, aliveL cls time ord = al := ⟨_, rfl⟩
          have hmem : ∀ x ∈ al, 0 ≤ x ∧ x < (cls.length : Int) := fun x hx => HH.out.2.2.2.2.1 x (List.mem_filter.1 (by rw [← hal] at hx; exact hx : x ∈ aliveL cls time ord)).1
          have hall : al.length ≤ 10000 := by rw [← hal]; exact Nat.le_trans (aliveL_len cls time ord) ho
          rw [hal] at HRA ⊢
          have HBX : Hid (Below w.heap.size w w4) := Lib.hid (HBW.out.trans ((HB1.out.drew.trans (HBA.out.mono HB1.out.drew.size)).mono hwr))
          have HCL := Lib.hid (And.intro (HH.out.1.later HBX.out) (And.intro (HH.out.2.2.1.later HBX.out) (fun i c hc => (HH.out.2.2.2.2.2 i c hc).later HBX.out)))
          have HMEM := Lib.hid hmem
          have HAL' := Lib.hid hal
          have hall' : (al.length : Int) ≤ 10000 := by omega
          clear hmem hal HAL HBA hl1 hl2 hm0 hm1 hm2 hn0 hn1 hd1 HB1 hgk1 hgk2 k0c k1c d0 HDW hwr hi0 hz0 hz1 hz2 hz3 hw2 hdl
          go_wp2_with fail
          go_loopw [5, 46] (fun v i u => ∃ (k : Nat) (xs : List TV), k ≤ al.length ∧ i = .int .i64 k ∧ Hid (HeadSt w4 cls (al.take k) xs v u)) (fun _ i _ => al.length - (intOf i).toNat)
          case atStart => exact ⟨0, [], Nat.zero_le _, rfl, Lib.hid ⟨by rw [HV.out]; exact Row.nil _ _ _ _ _, ⟨by simp, fun i x h => by simp at h⟩, Below.refl _ _⟩⟩
          case round =>
            obtain ⟨k, xs, hk, rfl, HR⟩ := hrel
            by_cases hlt : k < al.length
            · have hx := List.getElem?_eq_getElem hlt
              have hsn := List.take_succ_eq_append_getElem hlt
              have hmem := HMEM.out _ (List.getElem_mem hlt)
              generalize al[k] = x at hx hsn hmem
              obtain ⟨m, rfl⟩ : ∃ m : Nat, x = (m : Int) := ⟨x.toNat, by omega⟩
              have hm : m < cls.length := by omega
              have hcm := List.getElem?_eq_getElem hm
              generalize cls[m] = cc at hcm
              obtain ⟨ga, e1, hga2, hca⟩ : ∃ ga, Aa = some ⟨ga, 0, none⟩ ∧ ga < w4.heap.size ∧ w4.cell? ⟨ga, k, none⟩ = some (.int .i64 (m : Int)) := by
                obtain ⟨g, cap, e1, hB, hg, _, hc⟩ := HRA.out.cells encI_len (by rintro rfl; cases hx)
                injection e1 with e1 e2 e3
                exact ⟨g, e1, hg, by have := (hc k _ hx 0 (.int .i64 (m : Int)) rfl).1; simpa using this⟩
              subst e1
              have hca' := (HR.out.2.2.cell (p := ⟨ga, k, none⟩) hga2).trans hca
              have hdw := HCL.out.1.later HR.out.2.2
              obtain ⟨c0, c1, c2, cf⟩ := hdw.cells
              obtain ⟨g, e2, hN, hmN, hgB, hgl, hcc⟩ := cl_cells (HCL.out.2.1.later HR.out.2.2) hcm
              subst e2
              have hfa := (HCL.out.2.2 m cc hcm).later HR.out.2.2
              have q0 := (hcc 0 (.int .i64 cc.head.k) rfl).1
              have q1 := (hcc 1 (.int .i64 cc.head.n) rfl).1
              have q2 := (hcc 2 (.string ⟨cc.head.s.toArray⟩) rfl).1
              have q3 := (hcc 3 (.slice cc.head.A cc.head.len cc.head.cap) rfl).1
              have q4 := (hcc 4 (.int .i64 cc.body.k) rfl).1
              have q5 := (hcc 5 (.int .i64 cc.body.n) rfl).1
              have q6 := (hcc 6 (.string ⟨cc.body.s.toArray⟩) rfl).1
              have q7 := (hcc 7 (.slice cc.body.A cc.body.len cc.body.cap) rfl).1
              have hdl := hdw.lt
              have hlt' : (k : Int) < (al.length : Int) := by omega
              have hmN' : (m : Int) < (N : Int) := by omega
              have HFA := Lib.hid (And.intro hfa (And.intro hcm hsn))
              clear hfa hcm hsn hcc hca hdw hmem hx hm
              go_wp2_with fail
              have HS : Hid (∀ u, Below wr.heap.size wr u → u.cell? ⟨db, 2, none⟩ = some (.slice (some ⟨g, 0, none⟩) N c) ∧ u.cell? ⟨g, m * 10, none⟩ = some (.int .i64 cc.head.k) ∧ u.cell? ⟨g, m * 10 + 1, none⟩ = some (.int .i64 cc.head.n) ∧ u.cell? ⟨g, m * 10 + 2, none⟩ = some (.string ⟨cc.head.s.toArray⟩) ∧ u.cell? ⟨g, m * 10 + 3, none⟩ = some (.slice cc.head.A cc.head.len cc.head.cap) ∧
                  u.cell? ⟨g, m * 10 + 4, none⟩ = some (.int .i64 cc.body.k) ∧ u.cell? ⟨g, m * 10 + 5, none⟩ = some (.int .i64 cc.body.n) ∧ u.cell? ⟨g, m * 10 + 6, none⟩ = some (.string ⟨cc.body.s.toArray⟩) ∧ u.cell? ⟨g, m * 10 + 7, none⟩ = some (.slice cc.body.A cc.body.len cc.body.cap)) := by
                refine Lib.hid fun u hb => ⟨(hb.cell (p := ⟨db, 2, none⟩) hdl).trans c2, (hb.cell (p := ⟨g, m * 10, none⟩) hgl).trans q0, (hb.cell (p := ⟨g, m * 10 + 1, none⟩) hgl).trans q1, (hb.cell (p := ⟨g, m * 10 + 2, none⟩) hgl).trans q2, (hb.cell (p := ⟨g, m * 10 + 3, none⟩) hgl).trans q3,
                  (hb.cell (p := ⟨g, m * 10 + 4, none⟩) hgl).trans q4, (hb.cell (p := ⟨g, m * 10 + 5, none⟩) hgl).trans q5, (hb.cell (p := ⟨g, m * 10 + 6, none⟩) hgl).trans q6, (hb.cell (p := ⟨g, m * 10 + 7, none⟩) hgl).trans q7⟩
              have HOX : Hid (∀ u, Below wr.heap.size wr u → Calls Try.prog 22 #[.agg #[.int .i64 cc.head.k, .int .i64 cc.head.n, .string ⟨cc.head.s.toArray⟩, .slice cc.head.A cc.head.len cc.head.cap]] u fun e u' => ∃ x', e = .returned (.agg #[.int .i64 x'.k, .int .i64 x'.n, .string ⟨x'.s.toArray⟩, .slice x'.A x'.len x'.cap]) ∧ CopyAt u.heap.size u' cc.head x' (some (2, (m : Int), [])) ∧ Below u.heap.size u u') :=
                Lib.hid fun u hb => own_src u cc.head _ (HFA.out.1.head.later hb)
              have HOY : Hid (∀ u, Below wr.heap.size wr u → Calls Try.prog 22 #[.agg #[.int .i64 cc.body.k, .int .i64 cc.body.n, .string ⟨cc.body.s.toArray⟩, .slice cc.body.A cc.body.len cc.body.cap]] u fun e u' => e = .returned (.agg #[.int .i64 cc.body.k, .int .i64 cc.body.n, .string ⟨cc.body.s.toArray⟩, .slice none 0 0]) ∧ Below u.heap.size u u') :=
                Lib.hid fun u hb => (own_src u cc.body none (HFA.out.1.body.later hb)).mono fun e u' ⟨x', h1, h2, h3⟩ => ⟨by rw [h1]; have h2 : x' = leafTV cc.body.k cc.body.n cc.body.s := h2; rw [h2]; rfl, h3⟩
              clear q0 q1 q2 q3 q4 q5 q6 q7 hca' c0 c1 c2 cf
              clear HH HCL HRA HMEM HAL' HBX HBW HV hN
              have hm0 : (0 : Int) ≤ (m : Int) := by omega
              go_cut [10, 11] from 50 to 87 (fun a b u => ∃ (bx bz : Nat) (x' : TV), a = .pointer (some ⟨bx, 0, none⟩) ∧ b = .pointer (some ⟨bz, 0, none⟩) ∧ Hid (TwoAt wr cc m bx bz x' u))
              case first =>
                go_region_held3 (fun u => u.cell? ⟨db, 2, none⟩ = some (.slice (some ⟨g, 0, none⟩) N c) ∧ u.cell? ⟨g, m * 10, none⟩ = some (.int .i64 cc.head.k) ∧ u.cell? ⟨g, m * 10 + 1, none⟩ = some (.int .i64 cc.head.n) ∧ u.cell? ⟨g, m * 10 + 2, none⟩ = some (.string ⟨cc.head.s.toArray⟩) ∧ u.cell? ⟨g, m * 10 + 3, none⟩ = some (.slice cc.head.A cc.head.len cc.head.cap) ∧
                  u.cell? ⟨g, m * 10 + 4, none⟩ = some (.int .i64 cc.body.k) ∧ u.cell? ⟨g, m * 10 + 5, none⟩ = some (.int .i64 cc.body.n) ∧ u.cell? ⟨g, m * 10 + 6, none⟩ = some (.string ⟨cc.body.s.toArray⟩) ∧ u.cell? ⟨g, m * 10 + 7, none⟩ = some (.slice cc.body.A cc.body.len cc.body.cap))
                  ((refine HS.out _ ?_; repeat (first | (with_reducible refine Below.setCell ?_ (by simp <;> omega) _) | (with_reducible refine below_alloc ?_ _) | (with_reducible refine Below.drew ?_) | (with_reducible exact Below.refl _ _) | (with_reducible refine below_call ?_ HB2.out) | (with_reducible refine below_call ?_ HB1.out))))
                  (first | (go_at_call 22; (with_reducible refine (HOX.out _ ?_).mono ?_); (· (repeat (first | (with_reducible refine Below.setCell ?_ (by simp <;> omega) _) | (with_reducible refine below_alloc ?_ _) | (with_reducible refine Below.drew ?_) | (with_reducible exact Below.refl _ _) | (with_reducible refine below_call ?_ HB2.out) | (with_reducible refine below_call ?_ HB1.out)))); rintro e u1 ⟨x', rfl, hcx, hb1⟩; have HCX := Lib.hid hcx; have HB1 := Lib.hid hb1; obtain ⟨hc1, hf1⟩ := bcell hb1; have hz1 := hb1.size; (try simp at hz1); (try have hz1a := Nat.lt_of_succ_le hz1); (try have hz1b := Nat.lt_of_succ_lt hz1a); clear hcx hb1) | (go_at_call 22; (with_reducible refine (HOY.out _ ?_).mono ?_); (· (repeat (first | (with_reducible refine Below.setCell ?_ (by simp <;> omega) _) | (with_reducible refine below_alloc ?_ _) | (with_reducible refine Below.drew ?_) | (with_reducible exact Below.refl _ _) | (with_reducible refine below_call ?_ HB2.out) | (with_reducible refine below_call ?_ HB1.out)))); rintro e u2 ⟨rfl, hb2⟩; have HB2 := Lib.hid hb2; obtain ⟨hc2, hf2⟩ := bcell hb2; have hz2 := hb2.size; (try simp at hz2); (try have hz2a := Nat.lt_of_succ_le hz2); (try have hz2b := Nat.lt_of_succ_lt hz2a); (try have hz2c := Nat.lt_of_lt_of_le hz1a hz2); (try have hz2d := Nat.lt_of_lt_of_le hz1b hz2); (try have hz2e := Nat.lt_of_le_of_lt (Nat.le_of_lt hz1a) hz2a); (try have hz2f := Nat.lt_of_lt_of_le hz1a (Nat.le_of_lt hz2a)); (try have hz2g := Nat.lt_of_lt_of_le hz1a (Nat.le_of_lt hz2b)); (try have hz2h := Nat.lt_of_lt_of_le hz1b (Nat.le_of_lt hz2a)); clear hb2))
                all_goals
                  go_wp2_with fail
                  go_meet
                  obtain ⟨gc, e1, e2, e3⟩ := HCX.out
                  have hgl := (Array.getElem?_eq_some_iff.1 e3).1
                  try simp at e2
                  refine ⟨_, _, x', rfl, rfl, Lib.hid ⟨?_, ?_, ⟨gc, e1, ?_, ?_⟩, ?_⟩⟩
                  · repeat (first | (with_reducible exact e3) | ((with_reducible refine blk_new ?_); (simp; done)) | (with_reducible refine blk_drew ?_) | (with_reducible refine blk_old ?_) | (with_reducible refine blk_set4 (z0 := .int .i64 0) (z1 := .int .i64 0) (z2 := .string ⟨#[]⟩) (z3 := .slice none 0 0) ?_) | ((with_reducible refine blk_set4o ?_ ?_); (first | omega | (simp <;> omega))) | (with_reducible refine blk_call HB2.out ?_) | (with_reducible refine blk_call HB1.out ?_))
                  · repeat (first | (with_reducible exact e3) | ((with_reducible refine blk_new ?_); (simp; done)) | (with_reducible refine blk_drew ?_) | (with_reducible refine blk_old ?_) | (with_reducible refine blk_set4 (z0 := .int .i64 0) (z1 := .int .i64 0) (z2 := .string ⟨#[]⟩) (z3 := .slice none 0 0) ?_) | ((with_reducible refine blk_set4o ?_ ?_); (first | omega | (simp <;> omega))) | (with_reducible refine blk_call HB2.out ?_) | (with_reducible refine blk_call HB1.out ?_))
                  · omega
                  · repeat (first | (with_reducible exact e3) | ((with_reducible refine blk_new ?_); (simp; done)) | (with_reducible refine blk_drew ?_) | (with_reducible refine blk_old ?_) | (with_reducible refine blk_set4 (z0 := .int .i64 0) (z1 := .int .i64 0) (z2 := .string ⟨#[]⟩) (z3 := .slice none 0 0) ?_) | ((with_reducible refine blk_set4o ?_ ?_); (first | omega | (simp <;> omega))) | (with_reducible refine blk_call HB2.out ?_) | (with_reducible refine blk_call HB1.out ?_))
                  · repeat (first | (with_reducible refine Below.setCell ?_ (by simp <;> omega) _) | (with_reducible refine below_alloc ?_ _) | (with_reducible refine Below.drew ?_) | (with_reducible exact Below.refl _ _) | (with_reducible refine below_call ?_ HB2.out) | (with_reducible refine below_call ?_ HB1.out))
              case rest =>
                obtain ⟨bx, bz, x', rfl, rfl, HT⟩ := hcut
                obtain ⟨t0, t1, t2, t3, tf⟩ := four_cells HT.out.1
                obtain ⟨r0, r1, r2, r3, rf⟩ := four_cells HT.out.2.1
                rw [HFA.out.1.kind] at r0
                rw [HFA.out.1.name] at r2
                obtain ⟨Av, cv, hv⟩ := HR.out.1.shape
                subst hv
                obtain ⟨i2, z2, hi2, hy0, hy1, hy2, hy3⟩ := tv_info
                have hxl : xs.length ≤ 10000 := by
                  have := HR.out.2.1.1
                  rw [this, List.length_take]
                  omega
                have hbw : Below wr.heap.size wr (wc.alloc (.cells (encTV x').toArray 33)) := below_alloc HT.out.2.2.2 _
                obtain ⟨g9, cap9, w9, hr9, hR9, hg9, ho9⟩ := Row.push (P := Try.prog) 31 Try.underlying31 hi2 hy0 hy1 hy2 hy3 (by decide) encTV_len encTV_one
                  (w := wc.alloc (.cells (encTV x').toArray 33)) (HR.out.1.later hbw) x' wc.heap.size 1 (fun j u hu => cell_made wc _ _ j u (by simpa using hu)) (by unfold maxLen; omega) (by omega) (Nat.le_trans HR.out.2.2.size hbw.size)
                have HR9 := Lib.hid (HR.out.step HT.out HFA.out.2.1 HFA.out.2.2 hR9 hg9 ho9)
                have hr9 : (Builtin.append_ #[31, 31] 31 #[.slice Av xs.length cv, .slice (some ⟨wc.heap.size, 0, none⟩) 1 1]).run Try.prog (wc.alloc (.cells #[.int .i64 x'.k, .int .i64 x'.n, .string ⟨x'.s.toArray⟩, .slice x'.A x'.len x'.cap] 33)) = .ok (.slice (some ⟨g9, 0, none⟩) (xs.length + 1) cap9) w9 := hr9
                clear hbw hR9 hg9 ho9 hi2 hy0 hy1 hy2 hy3 tf rf
                go_wp2_with (refine wpList_run (by rfl) (.tmp 76) (.tmp 78) 31 (by rfl) (by rfl) (by rfl) hr9 ?_)
                go_roundw
                case rel => exact ⟨k + 1, _, hlt, by go_num, HR9⟩
                case measure => simp [intOf]; omega
            · have hkn : k = al.length := by omega
              subst hkn
              rw [List.take_length] at HR
              have HP := Lib.hid (HR.out.2.1.base HBX.out.size)
              have HB9 : Hid (Below w.heap.size w wr) := Lib.hid (HBX.out.trans (HR.out.2.2.mono HBX.out.size))
              have HQ := Lib.hid (HR.out.1.down HBX.out.size)
              go_wp2_with fail
              go_roundw
              case rel => exact .inr ⟨rfl, Lib.hid ⟨_, xs, rfl, HQ.out, by rw [HAL'.out]; exact HP.out, HB9.out⟩⟩
              case measure => simp [intOf]
        · go_wp2_with fail
          go_ret
          exact HP.out
end Go.Proofs.Ytiaajpfebcccfaa
