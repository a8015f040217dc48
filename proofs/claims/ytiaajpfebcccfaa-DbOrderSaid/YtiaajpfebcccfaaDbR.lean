/-
  What db.Add keeps as it goes: the database's block, its map, the procedure's block, the rows of clauses and numbers, the boxed arguments. No condition.
-/
import Derived.Test.YtiaajpfebcccfaaDbQ
import Derived.Test.YtiaajpfebcccfaaDbI
namespace Go.Proofs.Ytiaajpfebcccfaa
open Go.RowKit Go.Maps
set_option maxRecDepth 100000

/-- A clause's ten cells. -/
structure ClV where
  head : TV
  body : TV
  birth : Int
  death : Int
def encCl (c : ClV) : List Value := encTV c.head ++ encTV c.body ++ [.int .i64 c.birth, .int .i64 c.death]
theorem encCl_len (c : ClV) : (encCl c).length = 10 := rfl
theorem encCl_one (c : ClV) : ∀ u ∈ encCl c, u.oneCell' = true := by
  intro u hu
  simp [encCl, encTV] at hu
  rcases hu with rfl | rfl | rfl | rfl | rfl | rfl | rfl | rfl | rfl | rfl <;> rfl
theorem cl_info : ∃ i z, Try.prog.info? 53 = some i ∧ i.zero = some z ∧ i.size = 10 ∧ i.bytes = 128 ∧ z.cells.size = 10 := by
  refine ⟨_, _, rfl, rfl, ?_, ?_, ?_⟩ <;> kernel_rfl

theorem ne_types {u : World} {a b : Nat} {c1 c2 : Array Value} {t1 t2 : TypeId} {f1 f2 : Nat × Nat} (h1 : u.heap[a]? = some (.cells c1 t1 f1)) (h2 : u.heap[b]? = some (.cells c2 t2 f2)) (ht : t1 ≠ t2) : a ≠ b := by
  rintro rfl
  rw [h1] at h2
  injection h2 with h2
  injection h2 with _ h3
  exact ht h3
theorem ne_map {u : World} {a mb : Nat} {c1 : Array Value} {t1 : TypeId} {f1 : Nat × Nat} {es : List (PK × Nat)} (h1 : u.heap[a]? = some (.cells c1 t1 f1)) (h2 : MapAt u mb pk pv es) : a ≠ mb := by
  rintro rfl
  obtain ⟨es', clock, hb, _⟩ := h2.blk
  rw [h1] at hb
  cases hb
theorem Row.block {α : Type} {u : World} {B sz g : Nat} {e : TypeId} {enc : α → List Value} {v : Value} {l : List α} (h : Row u B e sz enc v l) (hg : v.ownBlock = some g) : B ≤ g ∧ ∃ cur, u.heap[g]? = some (.cells cur e (0, 0)) := by
  rcases h.own.2 with ⟨rfl, _⟩ | ⟨g', cap, cur, rfl, hb, hgg, _⟩
  · cases hg
  · have : g' = g := by simpa [Value.ownBlock] using hg
    subst this
    exact ⟨hb, cur, hgg⟩

/-- What holds as Add goes. -/
structure AddSt (w : World) (S : Nat → Prop) (B db mb pb bx bz : Nat) (time : Int) (es : List (PK × Nat)) (cv : Value) (cls : List ClV) (kind ver : Int) (ov : Value) (ord : List Int) (x y : TV) (u : World) : Prop where
  db' : DbAt u db mb time es cv
  pr : PrAt u pb kind ver ov 0
  cl : Row u B 53 10 encCl cv cls
  od : Row u B 3 1 encI ov ord
  hx : u.heap[bx]? = some (.cells (encTV x).toArray 33 (0, 0))
  hz : u.heap[bz]? = some (.cells (encTV y).toArray 33 (0, 0))
  xz : bx ≠ bz
  fr : Fr S w u
  scv : ∀ g, cv.ownBlock = some g → S g ∨ w.heap.size ≤ g
  sov : ∀ g, ov.ownBlock = some g → S g ∨ w.heap.size ≤ g
  sdb : S db
  smb : S mb
  spb : S pb ∨ w.heap.size ≤ pb
  sbx : w.heap.size ≤ bx
  sbz : w.heap.size ≤ bz

section
variable {w u u' : World} {S : Nat → Prop} {B db mb pb bx bz : Nat} {time : Int} {es : List (PK × Nat)} {cv : Value} {cls : List ClV} {kind ver : Int} {ov : Value} {ord : List Int} {x y : TV}
theorem AddSt.later (h : AddSt w S B db mb pb bx bz time es cv cls kind ver ov ord x y u) (hb : Below u.heap.size u u') : AddSt w S B db mb pb bx bz time es cv cls kind ver ov ord x y u' :=
  ⟨h.db'.later hb, h.pr.later hb, h.cl.later hb, h.od.later hb, (hb.block _ (Array.getElem?_eq_some_iff.1 h.hx).1).trans h.hx, (hb.block _ (Array.getElem?_eq_some_iff.1 h.hz).1).trans h.hz, h.xz, h.fr.step hb, h.scv, h.sov, h.sdb, h.smb, h.spb, h.sbx, h.sbz⟩
theorem AddSt.drew (h : AddSt w S B db mb pb bx bz time es cv cls kind ver ov ord x y u) : AddSt w S B db mb pb bx bz time es cv cls kind ver ov ord x y u.drew := h.later (Below.refl _ _).drew
theorem AddSt.flat (h : AddSt w S B db mb pb bx bz time es cv cls kind ver ov ord x y u) : Flat bx bz x y u := flat_of h.hx h.hz
theorem AddSt.dp (h : AddSt w S B db mb pb bx bz time es cv cls kind ver ov ord x y u) : db ≠ pb := ne_types h.db'.blk h.pr (by decide)
/-- A store into the database's block. -/
theorem AddSt.setDb (h : AddSt w S B db mb pb bx bz time es cv cls kind ver ov ord x y u) (t' : Int) : AddSt w S B db mb pb bx bz t' es cv cls kind ver ov ord x y (u.setCell ⟨db, 0, none⟩ (.int .i64 t')) := by
  have k : ∀ c, c ≠ db → (u.setCell ⟨db, 0, none⟩ (.int .i64 t')).heap[c]? = u.heap[c]? := fun c hc => Deep.blk_setCell_other _ _ _ _ hc
  refine ⟨⟨blk_put h.db'.blk _, h.db'.map.keep (k _ (ne_map h.db'.blk h.db'.map).symm), h.db'.ok⟩, (k _ h.dp.symm).trans h.pr, h.cl.keep fun g hg => k _ ?_, h.od.keep fun g hg => k _ ?_,
    (k _ (ne_types h.hx h.db'.blk (by decide))).trans h.hx, (k _ (ne_types h.hz h.db'.blk (by decide))).trans h.hz, h.xz, h.fr.setCell (.inl h.sdb) _, h.scv, h.sov, h.sdb, h.smb, h.spb, h.sbx, h.sbz⟩
  · obtain ⟨_, cur, hc⟩ := h.cl.block hg
    exact ne_types hc h.db'.blk (by decide)
  · obtain ⟨_, cur, hc⟩ := h.od.block hg
    exact ne_types hc h.db'.blk (by decide)
theorem AddSt.setPr (h : AddSt w S B db mb pb bx bz time es cv cls kind ver ov ord x y u) (i : Nat) (v : Value) {kind' ver' : Int} (he : (#[Value.int .i64 kind, .int .i64 ver, ov, .int .i64 0] : Array Value).setIfInBounds i v = #[.int .i64 kind', .int .i64 ver', ov, .int .i64 0]) :
    AddSt w S B db mb pb bx bz time es cv cls kind' ver' ov ord x y (u.setCell ⟨pb, i, none⟩ v) := by
  have k : ∀ c, c ≠ pb → (u.setCell ⟨pb, i, none⟩ v).heap[c]? = u.heap[c]? := fun c hc => Deep.blk_setCell_other _ _ _ _ hc
  have hp : PrAt (u.setCell ⟨pb, i, none⟩ v) pb kind' ver' ov 0 := by
    have := blk_put (i := i) h.pr v
    rw [he] at this
    exact this
  refine ⟨⟨(k _ h.dp).trans h.db'.blk, h.db'.map.keep (k _ (ne_map h.pr h.db'.map).symm), h.db'.ok⟩, hp, h.cl.keep fun g hg => k _ ?_, h.od.keep fun g hg => k _ ?_,
    (k _ (ne_types h.hx h.pr (by decide))).trans h.hx, (k _ (ne_types h.hz h.pr (by decide))).trans h.hz, h.xz, h.fr.setCell h.spb _, h.scv, h.sov, h.sdb, h.smb, h.spb, h.sbx, h.sbz⟩
  · obtain ⟨_, cur, hc⟩ := h.cl.block hg
    exact ne_types hc h.pr (by decide)
  · obtain ⟨_, cur, hc⟩ := h.od.block hg
    exact ne_types hc h.pr (by decide)
/-- A store of a whole term into the first box. -/
theorem AddSt.setX (h : AddSt w S B db mb pb bx bz time es cv cls kind ver ov ord x y u) (x' : TV) :
    AddSt w S B db mb pb bx bz time es cv cls kind ver ov ord x' y ((((u.setCell ⟨bx, 0, none⟩ (.int .i64 x'.k)).setCell ⟨bx, 1, none⟩ (.int .i64 x'.n)).setCell ⟨bx, 2, none⟩ (.string ⟨x'.s.toArray⟩)).setCell ⟨bx, 3, none⟩ (.slice x'.A x'.len x'.cap)) := by
  have k : ∀ c, c ≠ bx → ((((u.setCell ⟨bx, 0, none⟩ (.int .i64 x'.k)).setCell ⟨bx, 1, none⟩ (.int .i64 x'.n)).setCell ⟨bx, 2, none⟩ (.string ⟨x'.s.toArray⟩)).setCell ⟨bx, 3, none⟩ (.slice x'.A x'.len x'.cap)).heap[c]? = u.heap[c]? := fun c hc => by
    rw [Deep.blk_setCell_other _ _ _ _ hc, Deep.blk_setCell_other _ _ _ _ hc, Deep.blk_setCell_other _ _ _ _ hc, Deep.blk_setCell_other _ _ _ _ hc]
  refine ⟨⟨(k _ (ne_types h.db'.blk h.hx (by decide))).trans h.db'.blk, h.db'.map.keep (k _ (ne_map h.hx h.db'.map).symm), h.db'.ok⟩, (k _ (ne_types h.pr h.hx (by decide))).trans h.pr, h.cl.keep fun g hg => k _ ?_, h.od.keep fun g hg => k _ ?_,
    blk_put (blk_put (blk_put (blk_put h.hx _) _) _) _, (k _ h.xz.symm).trans h.hz, h.xz, (((h.fr.setCell (.inr h.sbx) _).setCell (.inr h.sbx) _).setCell (.inr h.sbx) _).setCell (.inr h.sbx) _, h.scv, h.sov, h.sdb, h.smb, h.spb, h.sbx, h.sbz⟩
  · obtain ⟨_, cur, hc⟩ := h.cl.block hg
    exact ne_types hc h.hx (by decide)
  · obtain ⟨_, cur, hc⟩ := h.od.block hg
    exact ne_types hc h.hx (by decide)
theorem AddSt.setY (h : AddSt w S B db mb pb bx bz time es cv cls kind ver ov ord x y u) (y' : TV) :
    AddSt w S B db mb pb bx bz time es cv cls kind ver ov ord x y' ((((u.setCell ⟨bz, 0, none⟩ (.int .i64 y'.k)).setCell ⟨bz, 1, none⟩ (.int .i64 y'.n)).setCell ⟨bz, 2, none⟩ (.string ⟨y'.s.toArray⟩)).setCell ⟨bz, 3, none⟩ (.slice y'.A y'.len y'.cap)) := by
  have k : ∀ c, c ≠ bz → ((((u.setCell ⟨bz, 0, none⟩ (.int .i64 y'.k)).setCell ⟨bz, 1, none⟩ (.int .i64 y'.n)).setCell ⟨bz, 2, none⟩ (.string ⟨y'.s.toArray⟩)).setCell ⟨bz, 3, none⟩ (.slice y'.A y'.len y'.cap)).heap[c]? = u.heap[c]? := fun c hc => by
    rw [Deep.blk_setCell_other _ _ _ _ hc, Deep.blk_setCell_other _ _ _ _ hc, Deep.blk_setCell_other _ _ _ _ hc, Deep.blk_setCell_other _ _ _ _ hc]
  refine ⟨⟨(k _ (ne_types h.db'.blk h.hz (by decide))).trans h.db'.blk, h.db'.map.keep (k _ (ne_map h.hz h.db'.map).symm), h.db'.ok⟩, (k _ (ne_types h.pr h.hz (by decide))).trans h.pr, h.cl.keep fun g hg => k _ ?_, h.od.keep fun g hg => k _ ?_,
    (k _ h.xz).trans h.hx, blk_put (blk_put (blk_put (blk_put h.hz _) _) _) _, h.xz, (((h.fr.setCell (.inr h.sbz) _).setCell (.inr h.sbz) _).setCell (.inr h.sbz) _).setCell (.inr h.sbz) _, h.scv, h.sov, h.sdb, h.smb, h.spb, h.sbx, h.sbz⟩
  · obtain ⟨_, cur, hc⟩ := h.cl.block hg
    exact ne_types hc h.hz (by decide)
  · obtain ⟨_, cur, hc⟩ := h.od.block hg
    exact ne_types hc h.hz (by decide)
/-- A clause appended, and the row stored. -/
theorem AddSt.setCl {w9 : World} {cv' : Value} {c : ClV} (h : AddSt w S B db mb pb bx bz time es cv cls kind ver ov ord x y u) (hr : Row w9 B 53 10 encCl cv' (cls ++ [c])) (hg : u.grownBy w9 cv.ownBlock) (ho : cv'.ownBlock = cv.ownBlock ∨ ∃ g, cv'.ownBlock = some g ∧ u.heap.size ≤ g) :
    (w9.cell? ⟨db, 2, none⟩ = some cv ∧ w9.frozen? ⟨db, 2, none⟩ = false) ∧ AddSt w S B db mb pb bx bz time es cv' (cls ++ [c]) kind ver ov ord x y (w9.setCell ⟨db, 2, none⟩ cv') := by
  have hcb : ∀ (d : Nat) (cs : Array Value) (t : TypeId), u.heap[d]? = some (.cells cs t (0, 0)) → t ≠ 53 → w9.heap[d]? = u.heap[d]? := fun d cs t hd ht => hg.block d (Array.getElem?_eq_some_iff.1 hd).1 (fun e => by
    obtain ⟨_, cur, hc⟩ := h.cl.block e.symm
    exact ne_types hd hc ht rfl)
  have hb := (hcb db _ _ h.db'.blk (by decide)).trans h.db'.blk
  have hmbl : w9.heap[mb]? = u.heap[mb]? := hg.block mb h.db'.map.lt (fun e => by
    obtain ⟨_, cur, hc⟩ := h.cl.block e.symm
    exact ne_map hc h.db'.map rfl)
  have hm9 := h.db'.map.keep hmbl
  have hp9 : PrAt w9 pb kind ver ov 0 := (hcb pb _ _ h.pr (by decide)).trans h.pr
  have hx9 := (hcb bx _ _ h.hx (by decide)).trans h.hx
  have hz9 := (hcb bz _ _ h.hz (by decide)).trans h.hz
  have ho9 : Row w9 B 3 1 encI ov ord := h.od.keep fun g hg' => by
    obtain ⟨_, cur, hc⟩ := h.od.block hg'
    exact hcb g _ _ hc (by decide)
  have hf9 : Fr S w w9 := h.fr.grown hg h.scv
  have k : ∀ d, d ≠ db → (w9.setCell ⟨db, 2, none⟩ cv').heap[d]? = w9.heap[d]? := fun d hd => Deep.blk_setCell_other _ _ _ _ hd
  obtain ⟨_, _, c2, cf⟩ := meas_cells hb
  refine ⟨⟨c2, cf 2⟩, ⟨blk_put hb _, hm9.keep (k _ (ne_map hb hm9).symm), h.db'.ok⟩, (k _ (ne_types hp9 hb (by decide))).trans hp9, hr.keep fun g hg' => k _ ?_, ho9.keep fun g hg' => k _ ?_,
    (k _ (ne_types hx9 hb (by decide))).trans hx9, (k _ (ne_types hz9 hb (by decide))).trans hz9, h.xz, hf9.setCell (.inl h.sdb) _, ?_, h.sov, h.sdb, h.smb, h.spb, h.sbx, h.sbz⟩
  · obtain ⟨_, cur, hc⟩ := hr.block hg'
    exact ne_types hc hb (by decide)
  · obtain ⟨_, cur, hc⟩ := ho9.block hg'
    exact ne_types hc hb (by decide)
  · intro g hg'
    rcases ho with h1 | ⟨g2, h1, h2⟩
    · exact h.scv g (by rw [← h1]; exact hg')
    · right
      have : g = g2 := by rw [h1] at hg'; exact (Option.some.inj hg').symm
      have := h.fr.size
      omega
/-- The order changed, and its row stored. -/
theorem AddSt.setOd {w9 : World} {ov' : Value} {ord' : List Int} (h : AddSt w S B db mb pb bx bz time es cv cls kind ver ov ord x y u) (hr : Row w9 B 3 1 encI ov' ord') (hF : Fr (fun k => ov.ownBlock = some k) u w9) (ho : ov'.ownBlock = ov.ownBlock ∨ ∃ g, ov'.ownBlock = some g ∧ u.heap.size ≤ g) :
    (w9.cell? ⟨pb, 2, none⟩ = some ov ∧ w9.frozen? ⟨pb, 2, none⟩ = false) ∧ AddSt w S B db mb pb bx bz time es cv cls kind ver ov' ord' x y (w9.setCell ⟨pb, 2, none⟩ ov') := by
  have hcb : ∀ (d : Nat) (cs : Array Value) (t : TypeId), u.heap[d]? = some (.cells cs t (0, 0)) → t ≠ 3 → w9.heap[d]? = u.heap[d]? := fun d cs t hd ht => hF.block d (Array.getElem?_eq_some_iff.1 hd).1 (fun e => by
    obtain ⟨_, cur, hc⟩ := h.od.block e
    exact ne_types hd hc ht rfl)
  have hb := (hcb db _ _ h.db'.blk (by decide)).trans h.db'.blk
  have hmbl : w9.heap[mb]? = u.heap[mb]? := hF.block mb h.db'.map.lt (fun e => by
    obtain ⟨_, cur, hc⟩ := h.od.block e
    exact ne_map hc h.db'.map rfl)
  have hm9 := h.db'.map.keep hmbl
  have hp9 : PrAt w9 pb kind ver ov 0 := (hcb pb _ _ h.pr (by decide)).trans h.pr
  have hx9 := (hcb bx _ _ h.hx (by decide)).trans h.hx
  have hz9 := (hcb bz _ _ h.hz (by decide)).trans h.hz
  have hc9 : Row w9 B 53 10 encCl cv cls := h.cl.keep fun g hg' => by
    obtain ⟨_, cur, hc⟩ := h.cl.block hg'
    exact hcb g _ _ hc (by decide)
  have hf9 : Fr S w w9 := ⟨hF.os.trans h.fr.os, hF.tape.trans h.fr.tape, hF.output.trans h.fr.output, Nat.le_trans h.fr.size hF.size, fun i hi hn => (hF.block i (Nat.lt_of_lt_of_le hi h.fr.size) (fun e => (h.sov i e).elim hn (fun h' => by omega))).trans (h.fr.block i hi hn)⟩
  have k : ∀ d, d ≠ pb → (w9.setCell ⟨pb, 2, none⟩ ov').heap[d]? = w9.heap[d]? := fun d hd => Deep.blk_setCell_other _ _ _ _ hd
  obtain ⟨_, _, c2, _, cf⟩ := four_cells hp9
  refine ⟨⟨c2, cf 2⟩, ⟨(k _ (ne_types hb hp9 (by decide))).trans hb, hm9.keep (k _ (ne_map hp9 hm9).symm), h.db'.ok⟩, blk_put hp9 _, hc9.keep fun g hg' => k _ ?_, hr.keep fun g hg' => k _ ?_,
    (k _ (ne_types hx9 hp9 (by decide))).trans hx9, (k _ (ne_types hz9 hp9 (by decide))).trans hz9, h.xz, hf9.setCell h.spb _, h.scv, ?_, h.sdb, h.smb, h.spb, h.sbx, h.sbz⟩
  · obtain ⟨_, cur, hc⟩ := hc9.block hg'
    exact ne_types hc hp9 (by decide)
  · obtain ⟨_, cur, hc⟩ := hr.block hg'
    exact ne_types hc hp9 (by decide)
  · intro g hg'
    rcases ho with h1 | ⟨g2, h1, h2⟩
    · exact h.sov g (by rw [← h1]; exact hg')
    · right
      have : g = g2 := by rw [h1] at hg'; exact (Option.some.inj hg').symm
      have := h.fr.size
      omega
end
end Go.Proofs.Ytiaajpfebcccfaa
