/-
  What law14's DbOrder keeps as it goes: the database of one procedure's facts, and the list that is wanted; what Add and Kill do to it. Conditions: the sizes that are named.
-/
import Derived.Test.YtiaajpfebcccfaaDbX
namespace Go.Proofs.Ytiaajpfebcccfaa
open Go.RowKit Go.Maps
set_option maxRecDepth 100000

def keyP : PK := ([112], 1)
/-- The fact p(i). -/
def PFact (u : World) (B : Nat) (c : ClV) (i : Nat) : Prop :=
  c.body = leafTV 3 0 [116, 114, 117, 101] ∧ ∃ g, c.head = ⟨4, 0, [112], some ⟨g, 0, none⟩, 1, 1⟩ ∧ B ≤ g ∧ u.heap[g]? = some (.cells (encTV (leafTV 2 (i : Int) [])).toArray 33 (0, 0))
theorem PFact.fact {u : World} {B : Nat} {c : ClV} {i : Nat} (h : PFact u B c i) : FactAt u c i := by
  obtain ⟨hb, g, e1, _, e3⟩ := h
  obtain ⟨hd, bd, bi, de⟩ := c
  simp only at hb e1
  subst hb e1
  refine ⟨⟨(by decide : (4 : Int) ≠ 1), (by decide : ([112] : List UInt8).length ≤ maxLen), rfl, (by decide : (2 : Int) ≠ 1), (by decide : ([] : List UInt8).length ≤ maxLen), g, 0, none, 0, rfl, (Array.getElem?_eq_some_iff.1 e3).1, fun j v hv => ?_⟩, src_leaf _ _ _ _ (by decide) (by decide), rfl, rfl⟩
  rw [Nat.zero_add, cell_of_row u g j _ _ (0, 0) e3]
  rw [← hv]
  exact (Array.getElem?_toList ..).symm
theorem PFact.keep {u u' : World} {B : Nat} {c : ClV} {i : Nat} (h : PFact u B c i) (hk : ∀ (g : Nat) cs, u.heap[g]? = some (Obj.cells cs 33 (0, 0)) → u'.heap[g]? = u.heap[g]?) : PFact u' B c i := by
  obtain ⟨hb, g, e1, e2, e3⟩ := h
  exact ⟨hb, g, e1, e2, (hk g _ e3).trans e3⟩

theorem ne_map' {u : World} {a mb : Nat} {c1 : Array Value} {t1 : TypeId} {f1 : Nat × Nat} {es : List (PK × Nat)} (h1 : u.heap[a]? = some (.cells c1 t1 f1)) (h2 : MapAt u mb pk pv es) : a ≠ mb := by
  rintro rfl
  obtain ⟨es', clock, hb, _⟩ := h2.blk
  rw [h1] at hb
  cases hb

/-- What holds as the law goes. -/
structure LawSt (w : World) (db mb : Nat) (time : Int) (es : List (PK × Nat)) (A : Option Addr) (c : Nat) (cls : List ClV) (ov : Value) (ord : List Int) (wv : Value) (want : List Int) (u : World) : Prop where
  db' : DbAt u db mb time es (.slice A cls.length c)
  cl : Row u w.heap.size 53 10 encCl (.slice A cls.length c) cls
  od : Row u w.heap.size 3 1 encI ov ord
  wt : Row u w.heap.size 3 1 encI wv want
  sep : ∀ g, wv.ownBlock = some g → ov.ownBlock ≠ some g
  pr : (es = [] ∧ ov = .slice none 0 0 ∧ cls = [] ∧ ord = []) ∨ ∃ pb ver, es = [(keyP, pb)] ∧ PrAt u pb 2 ver ov 0 ∧ w.heap.size ≤ pb
  facts : ∀ i cc, cls[i]? = some cc → PFact u w.heap.size cc i
  sdb : w.heap.size ≤ db
  smb : w.heap.size ≤ mb
  below : Below w.heap.size w u

section
variable {w u u' : World} {db mb : Nat} {time : Int} {es : List (PK × Nat)} {A : Option Addr} {c : Nat} {cls : List ClV} {ov : Value} {ord : List Int} {wv : Value} {want : List Int}
theorem LawSt.later (h : LawSt w db mb time es A c cls ov ord wv want u) (hb : Below u.heap.size u u') : LawSt w db mb time es A c cls ov ord wv want u' :=
  ⟨h.db'.later hb, h.cl.later hb, h.od.later hb, h.wt.later hb, h.sep, h.pr.imp id (fun ⟨pb, ver, h1, h2, h3⟩ => ⟨pb, ver, h1, h2.later hb, h3⟩),
    fun i cc hi => (h.facts i cc hi).keep fun g _ hg => hb.block g (Array.getElem?_eq_some_iff.1 hg).1, h.sdb, h.smb, below_call h.below hb⟩
/-- The wanted list changed, and nothing else. -/
theorem LawSt.want' {wv' : Value} {want' : List Int} (h : LawSt w db mb time es A c cls ov ord wv want u) (hk : ∀ g, g < u.heap.size → wv.ownBlock ≠ some g → u'.heap[g]? = u.heap[g]?) (hr : Row u' w.heap.size 3 1 encI wv' want') (hs : ∀ g, wv'.ownBlock = some g → ov.ownBlock ≠ some g) (hb : Below w.heap.size w u') :
    LawSt w db mb time es A c cls ov ord wv' want' u' := by
  have hty : ∀ g cs t fr, u.heap[g]? = some (.cells cs t fr) → t ≠ 3 → wv.ownBlock ≠ some g := fun g cs t fr hg ht e => by
    obtain ⟨_, cur, hc⟩ := h.wt.block e
    rw [hg] at hc
    cases hc
    exact ht rfl
  have hlt : ∀ g o, u.heap[g]? = some o → g < u.heap.size := fun g o hg => (Array.getElem?_eq_some_iff.1 hg).1
  refine ⟨h.db'.keep (hk _ h.db'.lt (hty _ _ _ _ h.db'.blk (by decide))) (hk _ h.db'.map.lt fun e => ?_), h.cl.keep fun g hg => hk g (h.cl.lt g hg).2 ?_, h.od.keep fun g hg => hk g (h.od.lt g hg).2 fun e => h.sep g e hg, hr, hs, h.pr.imp id (fun ⟨pb, ver, h1, h2, h3⟩ => ⟨pb, ver, h1, (hk pb h2.lt (hty _ _ _ _ h2 (by decide))).trans h2, h3⟩),
    fun i cc hi => (h.facts i cc hi).keep fun g cs hg => hk g (hlt _ _ hg) (hty _ _ _ _ hg (by decide)), h.sdb, h.smb, hb⟩
  · obtain ⟨_, cur, hc⟩ := h.wt.block e
    exact ne_map hc h.db'.map rfl
  · obtain ⟨_, cur, hc⟩ := h.cl.block hg
    exact hty _ _ _ _ hc (by decide)
end

def setS (db mb : Nat) (cv ov : Value) (es : List (PK × Nat)) (k : Nat) : Prop := k = db ∨ k = mb ∨ cv.ownBlock = some k ∨ ov.ownBlock = some k ∨ es = [(keyP, k)]
/-- What Add has done. -/
theorem LawSt.added {w W4 w5 : World} {db mb : Nat} {time : Int} {es : List (PK × Nat)} {A : Option Addr} {c : Nat} {cls : List ClV} {ov : Value} {ord : List Int} {wv : Value} {want : List Int} (h : LawSt w db mb time es A c cls ov ord wv want W4)
    {kind : Int} {pb bx bz : Nat} {x y x' y' : TV} {cv' ov' : Value} {ord' : List Int} (hk2 : kindOf kind true = 2) (hpb : w.heap.size ≤ pb) (hx : x.k = 4 ∧ x.n = 0 ∧ x.s = [112]) (hy : y = leafTV 3 0 [116, 114, 117, 101])
    (hS : AddSt W4 (setS db mb (.slice A cls.length c) ov es) w.heap.size db mb pb bx bz (time + 1) [(keyP, pb)] cv' (cls ++ [⟨x', y', time + 1, -1⟩]) (kindOf kind true) (time + 1) ov' ord' x' y' w5)
    (hcx : CopyAt W4.heap.size w5 x x' (some (2, (cls.length : Int), []))) (hcy : CopyAt W4.heap.size w5 y y' none) :
    ∃ A' c', LawSt w db mb (time + 1) [(keyP, pb)] A' c' (cls ++ [⟨x', y', time + 1, -1⟩]) ov' ord' wv want w5 := by
  obtain ⟨A', c', rfl⟩ := hS.cl.shape
  have hB4 := h.below.size
  have hty : ∀ g cs t fr, W4.heap[g]? = some (.cells cs t fr) → t ≠ 44 → t ≠ 53 → t ≠ 3 → t ≠ 49 → ¬ setS db mb (.slice A cls.length c) ov es g := fun g cs t fr hg h1 h2 h3 h4 e => by
    rcases e with e | e | e | e | e
    · subst e
      rw [h.db'.blk] at hg
      cases hg
      exact h1 rfl
    · exact ne_map' hg h.db'.map e
    · obtain ⟨_, cur, hc⟩ := h.cl.block e
      rw [hg] at hc
      cases hc
      exact h2 rfl
    · obtain ⟨_, cur, hc⟩ := h.od.block e
      rw [hg] at hc
      cases hc
      exact h3 rfl
    · rcases h.pr with ⟨h5, _⟩ | ⟨pb', ver, h5, h6, _⟩
      · rw [h5] at e
        cases e
      · rw [h5] at e
        have e' : pb' = g := by simpa using e
        subst e'
        unfold PrAt at h6
        rw [hg] at h6
        cases h6
        exact h4 rfl
  have hwS : ∀ g, wv.ownBlock = some g → ¬ setS db mb (.slice A cls.length c) ov es g := fun g hg e => by
    obtain ⟨_, cur, hc⟩ := h.wt.block hg
    rcases e with e | e | e | e | e
    · subst e
      rw [h.db'.blk] at hc
      cases hc
    · exact ne_map hc h.db'.map e
    · obtain ⟨_, cur2, hc2⟩ := h.cl.block e
      rw [hc] at hc2
      cases hc2
    · exact h.sep g hg e
    · rcases h.pr with ⟨h5, _⟩ | ⟨pb', ver, h5, h6, _⟩
      · rw [h5] at e
        cases e
      · rw [h5] at e
        have e' : pb' = g := by simpa using e
        subst e'
        unfold PrAt at h6
        rw [hc] at h6
        cases h6
  have hlen : (cls ++ [(⟨x', y', time + 1, -1⟩ : ClV)]).length = cls.length + 1 := by simp
  refine ⟨A', c', hS.db', hS.cl, hS.od, h.wt.by_fr hS.fr hwS, fun g hg e => ?_, .inr ⟨pb, time + 1, rfl, by have := hS.pr; rw [hk2] at this; exact this, hpb⟩, fun i cc hi => ?_, h.sdb, h.smb, ?_⟩
  · rcases hS.sov g e with h1 | h1
    · exact hwS g hg h1
    · have := (h.wt.lt g hg).2
      omega
  · by_cases hlt : i < cls.length
    · rw [List.getElem?_append_left hlt] at hi
      exact (h.facts i cc hi).keep fun g cs hg => hS.fr.block g (Array.getElem?_eq_some_iff.1 hg).1 (hty _ _ _ _ hg (by decide) (by decide) (by decide) (by decide))
    · have hi2 : i = cls.length := by
        have := (List.getElem?_eq_some_iff.1 hi).1
        rw [hlen] at this
        omega
      subst hi2
      rw [List.getElem?_append_right (Nat.le_refl _), Nat.sub_self] at hi
      have hc : cc = ⟨x', y', time + 1, -1⟩ := by simpa using hi.symm
      subst hc
      obtain ⟨g, e1, e2, e3⟩ := hcx
      refine ⟨?_, g, ?_, by omega, e3⟩
      · have : y' = leafTV y.k y.n y.s := hcy
        rw [this, hy]
        rfl
      · rw [e1, hx.1, hx.2.1, hx.2.2]
  · refine ((Fr.of_below (fun k => w.heap.size ≤ k) h.below).trans (hS.fr.mono fun k _ hk => ?_)).below (Nat.le_refl _) (fun k hk => by omega)
    have hsd := h.sdb
    have hsm := h.smb
    rcases hk with e | e | e | e | e
    · omega
    · omega
    · exact (h.cl.lt k e).1
    · exact (h.od.lt k e).1
    · rcases h.pr with ⟨h5, _⟩ | ⟨pb', ver, h5, h6, h7⟩
      · rw [h5] at e
        cases e
      · rw [h5] at e
        have e' : pb' = k := by simpa using e
        omega
end Go.Proofs.Ytiaajpfebcccfaa
