import Derived.Test.YtjdnigepnfeboaaGreatDoorJG18
namespace Go.Proofs.YtjdnigepnfeboaaGreatDoor
open Go.RowKit Go.Maps
set_option maxRecDepth 100000
abbrev Bo := (TV × TV) × (Tm × Tm)
def encBo (z : TV × TV) : List Value := [.int .i64 z.1.k, .int .i64 z.1.n, .string ⟨z.1.s.toArray⟩, .slice z.1.A z.1.len z.1.cap, .int .i64 z.2.k, .int .i64 z.2.n, .string ⟨z.2.s.toArray⟩, .slice z.2.A z.2.len z.2.cap]
theorem encBo_len (x : TV × TV) : (encBo x).length = 8 := rfl
theorem encBo_one (x : TV × TV) : ∀ u ∈ encBo x, u.oneCell' = true := by
 intro u hu
 simp [encBo] at hu
 rcases hu with rfl | rfl | rfl | rfl | rfl | rfl | rfl | rfl <;> rfl
theorem both_info : ∃ i z, Tryz.prog.info? 421 = some i ∧ i.zero = some z ∧ i.size = 8 ∧ i.bytes = 112 ∧ z.cells.size = 8 := by
 refine ⟨_, _, rfl, rfl, ?_, ?_, ?_⟩ <;> kernel_rfl
theorem eight_at {w1 : World} {b : Nat} {a0 a1 a2 a3 a4 a5 a6 a7 : Value} {t : TypeId} (h : w1.heap[b]? = some (.cells #[a0, a1, a2, a3, a4, a5, a6, a7] t (0, 0))) :
    w1.cell? ⟨b, 0, none⟩ = some a0 ∧ w1.cell? ⟨b, 1, none⟩ = some a1 ∧ w1.cell? ⟨b, 2, none⟩ = some a2 ∧ w1.cell? ⟨b, 3, none⟩ = some a3 ∧ w1.cell? ⟨b, 4, none⟩ = some a4 ∧ w1.cell? ⟨b, 5, none⟩ = some a5 ∧ w1.cell? ⟨b, 6, none⟩ = some a6 ∧ w1.cell? ⟨b, 7, none⟩ = some a7 ∧ (∀ o, w1.frozen? ⟨b, o, none⟩ = false) :=
 ⟨by rw [cell_of_row w1 b 0 _ t (0, 0) h]; rfl, by rw [cell_of_row w1 b 1 _ t (0, 0) h]; rfl, by rw [cell_of_row w1 b 2 _ t (0, 0) h]; rfl, by rw [cell_of_row w1 b 3 _ t (0, 0) h]; rfl, by rw [cell_of_row w1 b 4 _ t (0, 0) h]; rfl, by rw [cell_of_row w1 b 5 _ t (0, 0) h]; rfl, by rw [cell_of_row w1 b 6 _ t (0, 0) h]; rfl, by rw [cell_of_row w1 b 7 _ t (0, 0) h]; rfl, fun o => by simp [World.frozen?, h]⟩
def szB : List Bo → Nat
 | [] => 0
 | z :: r => z.2.1.size + szB r
theorem szB_app : ∀ a b : List Bo, szB (a ++ b) = szB a + szB b
 | [], b => by simp [szB]
 | z :: r, b => by
  have := szB_app r b
  simp only [List.cons_append, szB]
  omega
theorem szB_rev : ∀ a : List Bo, szB a.reverse = szB a
 | [] => rfl
 | z :: r => by
  rw [List.reverse_cons, szB_app, szB_rev r]
  simp only [szB]
  omega
theorem szB_len : ∀ a : List Bo, a.length ≤ szB a
 | [] => Nat.le_refl _
 | z :: r => by
  have := szB_len r
  obtain ⟨⟨x, y⟩, ⟨⟨k, n, s, l⟩, t⟩⟩ := z
  simp only [List.length_cons, szB, Tm.size]
  omega
structure CmpAt (u : World) (t s : Tm) (gk : Nat) (v : Value) (wr : World) (zs : List Bo) : Prop where
 row : Row wr u.heap.size 421 8 encBo v (zs.map (·.1))
 ts : ∀ z ∈ zs, TermS u (TyB u 27) z.1.1 z.2.1 ∧ TermS u (TyB u 27) z.1.2 z.2.2
 eq : (∀ z ∈ zs, z.2.1 = z.2.2) ↔ t = s
 sz : szB zs ≤ gk
 few : szB zs ≤ 1000000
 below : Below u.heap.size u wr
theorem cmp_args {u : World} {x y : TV} {t s : Tm} (hx : TermS u (TyB u 27) x t) (hy : TermS u (TyB u 27) y s) (hh : x.k = y.k ∧ x.len = y.len ∧ x.n = y.n ∧ x.s = y.s) :
    ∃ za : List Bo, za.length = x.len ∧ (∀ z ∈ za, TermS u (TyB u 27) z.1.1 z.2.1 ∧ TermS u (TyB u 27) z.1.2 z.2.2) ∧ ((∀ z ∈ za, z.2.1 = z.2.2) ↔ t = s) ∧ szB za + 1 = t.size ∧
     ∀ (i : Nat) z, za[i]? = some z → (∃ b off, x.A = some ⟨b, off, none⟩ ∧ TyB u 27 b ∧ ∀ (j : Nat) v, (encTV z.1.1)[j]? = some v → u.cell? ⟨b, off + i * 4 + j, none⟩ = some v) ∧ (∃ b off, y.A = some ⟨b, off, none⟩ ∧ TyB u 27 b ∧ ∀ (j : Nat) v, (encTV z.1.2)[j]? = some v → u.cell? ⟨b, off + i * 4 + j, none⟩ = some v) := by
 cases hx with
 | mk _ l xs h1 h2 h3 hc ht =>
 cases hy with
 | mk _ r ys g1 g2 g3 gc gt =>
 refine ⟨(xs.zip ys).zip (l.zip r), by simp [h1, h2, g1, g2, hh.2.1], fun z hz => ?_, ⟨fun h => ?_, fun h z hz => ?_⟩, ?_, fun i z hz => ?_⟩
 ·obtain ⟨i, e1, e2⟩ := zip_at hz
  rw [List.getElem?_zip_eq_some] at e1 e2
  exact ⟨ht i _ _ e1.1 e2.1, gt i _ _ e1.2 e2.2⟩
 ·have hl : l = r := List.ext_getElem? fun i => by
   by_cases hi : i < l.length
   ·obtain ⟨a, ha⟩ : ∃ a, l[i]? = some a := ⟨_, List.getElem?_eq_getElem hi⟩
    obtain ⟨b, hb⟩ : ∃ b, r[i]? = some b := ⟨_, List.getElem?_eq_getElem (by omega)⟩
    obtain ⟨c, hc'⟩ : ∃ c, xs[i]? = some c := ⟨_, List.getElem?_eq_getElem (by omega)⟩
    obtain ⟨d, hd⟩ : ∃ d, ys[i]? = some d := ⟨_, List.getElem?_eq_getElem (by omega)⟩
    have := h ((c, d), (a, b)) (List.mem_of_getElem? (i := i) (by rw [List.getElem?_zip_eq_some, List.getElem?_zip_eq_some, List.getElem?_zip_eq_some]; exact ⟨⟨hc', hd⟩, ha, hb⟩))
    rw [ha, hb]
    exact congrArg some this
   ·rw [List.getElem?_eq_none (by omega), List.getElem?_eq_none (by omega)]
  rw [hl, hh.1, hh.2.2.1, hh.2.2.2]
 ·injection h with _ _ _ h
  subst h
  obtain ⟨i, -, e2⟩ := zip_at hz
  rw [List.getElem?_zip_eq_some] at e2
  have := e2.1.symm.trans e2.2
  exact Option.some.inj this
 ·have : ∀ (l r : List Tm) (ps : List (TV × TV)), ps.length = l.length → r.length = l.length → szB (ps.zip (l.zip r)) = Tm.sizes l := by
   intro l
   induction l with
   | nil => intro r ps _ _; simp [szB, Tm.sizes]
   | cons a l ih =>
    intro r ps h1 h2
    obtain _ | ⟨p, ps⟩ := ps
    ·simp at h1
    ·obtain _ | ⟨b, r⟩ := r
     ·simp at h2
     ·have := ih r ps (by simpa using h1) (by simpa using h2)
      simp only [List.zip_cons_cons, szB, Tm.sizes]
      omega
  rw [this l r (xs.zip ys) (by simp; omega) (by omega)]
  simp only [Tm.size]
  omega
 ·rw [List.getElem?_zip_eq_some, List.getElem?_zip_eq_some] at hz
  exact ⟨hc i _ hz.1.1, gc i _ hz.1.2⟩
theorem cmp_heads {u : World} {x y : TV} {t s : Tm} (hx : TermS u (TyB u 27) x t) (hy : TermS u (TyB u 27) y s) (h : t = s) : x.k = y.k ∧ x.len = y.len ∧ x.n = y.n ∧ x.s = y.s := by
 cases hx with
 | mk _ l xs h1 h2 h3 hc ht =>
 cases hy with
 | mk _ r ys g1 g2 g3 gc gt =>
 injection h with e1 e2 e3 e4
 exact ⟨e1, by rw [← h2, ← g2, e4], e2, e3⟩
structure CmpIn (u : World) (x y : TV) (p : Nat) (wr w9 : World) (L : List (TV × TV)) (z : TV × TV) (v : Value) : Prop where
 row : Row w9 u.heap.size 421 8 encBo v (L ++ [z])
 below : Below u.heap.size u w9
 blk : w9.heap[p]? = some (.cells #[.int .i64 x.k, .int .i64 x.n, .string ⟨x.s.toArray⟩, .slice x.A x.len x.cap, .int .i64 y.k, .int .i64 y.n, .string ⟨y.s.toArray⟩, .slice y.A y.len y.cap] 421 (0, 0))
 ne : v.ownBlock ≠ some p
theorem CmpIn.mk' {u wr V w9 : World} {x y : TV} {p gg cap2 : Nat} {L : List (TV × TV)} {z : TV × TV} {v : Value} {n9 : Nat} (hr : Row wr u.heap.size 421 8 encBo v L) (hb : Below u.heap.size u wr)
    (hp : wr.heap[p]? = some (.cells #[.int .i64 x.k, .int .i64 x.n, .string ⟨x.s.toArray⟩, .slice x.A x.len x.cap, .int .i64 y.k, .int .i64 y.n, .string ⟨y.s.toArray⟩, .slice y.A y.len y.cap] 421 (0, 0))) (hne : v.ownBlock ≠ some p) (hV : Below wr.heap.size wr V)
    (hown : w9.ownsRow u.heap.size 421 8 (.slice (some ⟨gg, 0, none⟩) (L.length + 1) cap2) (L.length + 1) (L.flatMap encBo ++ encBo z)) (hg : V.grownBy w9 v.ownBlock) (hat : v.ownBlock = some gg ∨ gg = n9) (hn : wr.heap.size ≤ n9) :
    CmpIn u x y p wr w9 L z (.slice (some ⟨gg, 0, none⟩) (L.length + 1) cap2) := by
 have hlp := (Array.getElem?_eq_some_iff.1 hp).1
 refine ⟨⟨by rw [List.length_append, List.flatMap_append]; simpa using hown⟩, ?_, ?_, fun e => ?_⟩
 ·have h1 : Below u.heap.size u V := hb.trans (hV.mono hb.size)
  exact h1.grown hg (Nat.le_trans hb.size hV.size) fun k hk => (hr.lt k hk).1
 ·rw [hg.block p (Nat.lt_of_lt_of_le hlp hV.size) (fun e => hne e.symm), hV.block p hlp]
  exact hp
 ·have e : gg = p := Option.some.inj e
  rcases hat with h | h
  ·rw [e] at h
   exact hne h
  ·omega
set_option maxHeartbeats 16000000 in
theorem Compare_any (u : World) (x y : TV) (t s : Tm) (hx : TermS u (TyB u 27) x t) (hy : TermS u (TyB u 27) y s) (hm : t.may = true) (hsz : t.size ≤ 100000) :
    Calls Tryz.prog 231 #[tvV x, tvV y] u fun e u' => ∃ c : Int, e = .returned (.int .i64 c) ∧ (c = 0 ↔ t = s) ∧ Below u.heap.size u u' := by
 obtain ⟨P, hP⟩ : ∃ P : Ending → World → Prop, P = fun e u' => ∃ c : Int, e = .returned (.int .i64 c) ∧ (c = 0 ↔ t = s) ∧ Below u.heap.size u u' := ⟨_, rfl⟩
 rw [← hP]
 have HP := Lib.hid hP
 obtain ⟨i0, z0, hi0, hz0, hz1, hz2, hz3⟩ := both_info
 have HE : Hid (∀ w v c, Below u.heap.size u w → CmpAt u t s 0 v w [] → c = (0 : Int) → P (.returned (.int .i64 c)) w) := Lib.hid fun w v c hb hc e => by
  rw [HP.out]
  exact ⟨c, rfl, ⟨fun _ => hc.eq.1 fun z hz => (by cases hz), fun _ => e⟩, hb⟩
 have HT := Lib.hid (And.intro hx (And.intro hy (And.intro hm hsz)))
 clear hP hx hy hm hsz
 obtain ⟨xk, xn, xs, xA, xl, xc⟩ := x
 obtain ⟨yk, yn, ys, yA, yl, yc⟩ := y
 obtain ⟨W, hW⟩ : ∃ W, W = ((u.alloc (.cells #[.int .i64 xk, .int .i64 xn, .string ⟨xs.toArray⟩, .slice xA xl xc] 27)).alloc (.cells #[.int .i64 yk, .int .i64 yn, .string ⟨ys.toArray⟩, .slice yA yl yc] 27)).alloc (.cells #[.int .i64 xk, .int .i64 xn, .string ⟨xs.toArray⟩, .slice xA xl xc, .int .i64 yk, .int .i64 yn, .string ⟨ys.toArray⟩, .slice yA yl yc] 421) := ⟨_, rfl⟩
 have HI0 : Hid (CmpAt u t s t.size (.slice (some ⟨u.heap.size + 1 + 1, 0, none⟩) 1 1) W [((⟨xk, xn, xs, xA, xl, xc⟩, ⟨yk, yn, ys, yA, yl, yc⟩), (t, s))]) := Lib.hid (by
  refine ⟨?_, fun z hz => ?_, ?_, by simp [szB], by simp only [szB]; have := HT.out.2.2.2; omega, ?_⟩
  ·have := Row.one (B := u.heap.size) (e := 421) encBo_len ((u.alloc (.cells #[.int .i64 xk, .int .i64 xn, .string ⟨xs.toArray⟩, .slice xA xl xc] 27)).alloc (.cells #[.int .i64 yk, .int .i64 yn, .string ⟨ys.toArray⟩, .slice yA yl yc] 27)) ((⟨xk, xn, xs, xA, xl, xc⟩, ⟨yk, yn, ys, yA, yl, yc⟩) : TV × TV) (by simp; omega)
   rw [hW]
   simpa [encBo] using this
  ·rw [List.mem_singleton] at hz
   rw [hz]
   exact ⟨HT.out.1, HT.out.2.1⟩
  ·simp
  ·rw [hW]
   exact (((Below.refl _ _).alloc (Nat.le_refl _) _).alloc (by simp) _).alloc (by simp; omega) _)
 unfold tvV
 go_enter Tryz.func231, Tryz.ntmps231
 go_upto_region 2 with fail
 rw [← hW]
 clear hW
 go_loopg [5] t.size (fun gk v wr => ∃ zs, Hid (CmpAt u t s gk v wr zs))
 case atStart => exact ⟨_, HI0⟩
 case round =>
  obtain ⟨zs, HI⟩ := hrel
  clear HI0
  by_cases hnil : zs = []
  ·subst hnil
   obtain ⟨A2, c2, e2⟩ := HI.out.row.shape
   rw [List.map_nil, List.length_nil] at e2
   subst e2
   have HQ : Hid (P (.returned (.int .i64 0)) wr) := Lib.hid (by
    rw [HP.out]
    exact ⟨0, rfl, ⟨fun _ => HI.out.eq.1 fun z hz => (by cases hz), fun _ => rfl⟩, HI.out.below⟩)
   go_wp2_with fail
   exact HQ.out
  ·obtain ⟨l0, z, rfl⟩ : ∃ l0 p, zs = l0 ++ [p] := ⟨_, _, (List.dropLast_concat_getLast hnil).symm⟩
   obtain ⟨⟨x, y⟩, ⟨a, b⟩⟩ := z
   have hrow := HI.out.row
   rw [List.map_append] at hrow
   obtain ⟨g, cap, e1, g1, g2, g3, g4⟩ := hrow.cells encBo_len (by simp)
   have hl0 : ((l0.map (·.1)) ++ [(x, y)]).length = l0.length + 1 := by simp
   have hl0' : (List.map (fun x => x.fst) l0 ++ List.map (fun x => x.fst) [((x, y), a, b)]).length = l0.length + 1 := by simp
   rw [hl0'] at e1 g3
   subst e1
   have hget : ((l0.map (·.1)) ++ [(x, y)])[l0.length]? = some (x, y) := by
    rw [List.getElem?_append_right (by simp), List.length_map, Nat.sub_self]
    rfl
   have HQC : Hid (∀ (j : Nat) v, (encBo (x, y))[j]? = some v → wr.cell? ⟨g, l0.length * 8 + j, none⟩ = some v) := Lib.hid fun j v hv => (g4 l0.length (x, y) hget j v hv).1
   have q0 := HQC.out 0 _ rfl
   have q1 := HQC.out 1 _ rfl
   have q2 := HQC.out 2 _ rfl
   have q3 := HQC.out 3 _ rfl
   have q4 := HQC.out 4 _ rfl
   have q5 := HQC.out 5 _ rfl
   have q6 := HQC.out 6 _ rfl
   have q7 := HQC.out 7 _ rfl
   rw [Nat.add_zero] at q0
   simp only at q0 q1 q2 q3 q4 q5 q6 q7
   have hfl := szB_len (l0 ++ [((x, y), a, b)])
   have hfew := HI.out.few
   rw [List.length_append, List.length_singleton] at hfl
   have hw1 : IntKind.i64.wrap (((l0.length + 1 : Nat) : Int) - 1) = (l0.length : Int) := by rw [IntWalk.i64_in _ (by omega)]; omega
   have hw2 : IntKind.i64.wrap (l0.length : Int) = (l0.length : Int) := IntWalk.i64_in _ (by omega)
   have hn0 : (0 : Int) ≤ (l0.length : Int) := by omega
   have hn1 : (0 : Int) < (l0.length : Int) + 1 := by omega
   have hn2 : (l0.length : Int) < (l0.length : Int) + 1 := by omega
   have hn4 : l0.length < l0.length + 1 := by omega
   have hn7 : l0.length ≤ cap := by omega
   have HRW : Hid (Row wr u.heap.size 421 8 encBo (.slice (some ⟨g, 0, none⟩) l0.length cap) (l0.map (·.1))) := Lib.hid (by
    have h1 := hrow
    rw [List.map_cons, List.map_nil] at h1
    have h2 := Row.front (x := (x, y)) encBo_len (l := l0.map (·.1)) (by rw [List.length_map]; exact h1)
    rwa [List.length_map] at h2)
   clear g4 hnil hrow hl0 hl0' hget hfl hfew
   go_wp2_with fail
   obtain ⟨V, hV⟩ : ∃ V, V = wr.alloc (.cells #[.int .i64 x.k, .int .i64 x.n, .string ⟨x.s.toArray⟩, .slice x.A x.len x.cap, .int .i64 y.k, .int .i64 y.n, .string ⟨y.s.toArray⟩, .slice y.A y.len y.cap] 421) := ⟨_, rfl⟩
   have hbV : Below wr.heap.size wr V := by rw [hV]; exact (Below.refl _ _).alloc (Nat.le_refl _) _
   have hpV : V.heap[wr.heap.size]? = some (.cells #[.int .i64 x.k, .int .i64 x.n, .string ⟨x.s.toArray⟩, .slice x.A x.len x.cap, .int .i64 y.k, .int .i64 y.n, .string ⟨y.s.toArray⟩, .slice y.A y.len y.cap] 421 (0, 0)) := by rw [hV]; exact heap_alloc_new _ _
   obtain ⟨p, hp⟩ : ∃ p, p = wr.heap.size := ⟨_, rfl⟩
   rw [← hV, ← hp]
   rw [← hp] at hpV
   have HP9 := Lib.hid hp
   clear hV q0 q1 q2 q3 q4 q5 q6 q7 HQC
   have HTS := Lib.hid (HI.out.ts ((x, y), (a, b)) (List.mem_append_right _ (List.mem_singleton.2 rfl)))
   refine (heads_any V x y).mono ?_
   rintro e w2 ⟨c, rfl, hc, hb2⟩
   have hbw : Below wr.heap.size wr w2 := hbV.trans (hb2.mono hbV.size)
   have hp2 := (hb2.block p (Array.getElem?_eq_some_iff.1 hpV).1).trans hpV
   have H2 := Lib.hid (And.intro hp2 (And.intro (HRW.out.later hbw) (HI.out.below.trans (hbw.mono HI.out.below.size))))
   have hbg : g ≠ p := by rw [hp]; omega
   clear hp hbV hpV hb2 hbw hp2
   by_cases hc0 : c = 0
   case neg =>
    have b1 : (c != 0) = true := bne_iff_ne.2 hc0
    have b2 : (c == 0) = false := beq_eq_false_iff_ne.2 hc0
    have HQ : Hid (P (.returned (.int .i64 c)) w2) := Lib.hid (by
     rw [HP.out]
     refine ⟨c, rfl, ⟨fun e => absurd e hc0, fun e => absurd (hc.2 ?_) hc0⟩, H2.out.2.2⟩
     have e2 : a = b := HI.out.eq.2 e _ (List.mem_append_right _ (List.mem_singleton.2 rfl))
     exact cmp_heads HTS.out.1 HTS.out.2 e2)
    clear hc hc0
    go_wp2_with fail
    exact HQ.out
   subst hc0
   obtain ⟨za, ha1, ha2, ha3, ha4, ha5⟩ := cmp_args HTS.out.1 HTS.out.2 (hc.1 rfl)
   have hxl : x.len ≤ 1000000 := by
    have h1 := szB_len za
    have h3 : za.length = x.len := ha1
    have h4 : szB za + 1 = a.size := ha4
    have h2 := HI.out.few
    rw [szB_app] at h2
    simp only [szB] at h2
    omega
   have hyl : y.len = x.len := (hc.1 rfl).2.1.symm
   have HZA := Lib.hid (And.intro ha1 (And.intro ha2 (And.intro ha3 (And.intro ha4 ha5))))
   clear hc ha1 ha2 ha3 ha4 ha5
   have hwn : IntKind.i64.wrap ((x.len : Int) - 1) = (x.len : Int) - 1 := IntWalk.i64_in _ (by omega)
   obtain ⟨-, -, -, p3, -, -, -, p7, -⟩ := eight_at H2.out.1
   have hlp : p < w2.heap.size := (Array.getElem?_eq_some_iff.1 H2.out.1).1
   obtain ⟨wl, hwl⟩ : ∃ wl : World, wl = wr := ⟨_, rfl⟩
   subst hwl
   go_wp2_with fail
   go_loopw [5, 8] (fun v i wi => ∃ (k : Nat), i = .int .i64 ((k : Int) - 1) ∧ k ≤ x.len ∧ Hid (Row wi u.heap.size 421 8 encBo v ((l0 ++ (za.drop k).reverse).map (·.1)) ∧ Below u.heap.size u wi ∧ wi.heap[p]? = some (.cells #[.int .i64 x.k, .int .i64 x.n, .string ⟨x.s.toArray⟩, .slice x.A x.len x.cap, .int .i64 y.k, .int .i64 y.n, .string ⟨y.s.toArray⟩, .slice y.A y.len y.cap] 421 (0, 0)) ∧ v.ownBlock ≠ some p)) (fun _ i _ => (intOf i + 1).toNat)
   case atStart => exact ⟨x.len, rfl, Nat.le_refl _, Lib.hid ⟨by rw [List.drop_eq_nil_of_le (by rw [HZA.out.1]; exact Nat.le_refl _), List.reverse_nil, List.append_nil]; exact H2.out.2.1, H2.out.2.2, H2.out.1, fun e => hbg (Option.some.inj e)⟩⟩
   case round =>
    obtain ⟨k, rfl, hk, HJ⟩ := hrel
    obtain _ | k := k
    ·have hng : ¬ (((0 : Nat) : Int) - 1 ≥ 0) := by omega
     have HNX : Hid (gk - 1 < gk ∧ CmpAt u t s (gk - 1) u5 wr (l0 ++ za.reverse)) := Lib.hid (by
      have hsz := HI.out.sz
      have hfw := HI.out.few
      rw [szB_app] at hsz hfw
      simp only [szB] at hsz hfw
      have h4 : szB za + 1 = a.size := HZA.out.2.2.2.1
      refine ⟨by omega, ⟨by have := HJ.out.1; rwa [List.drop_zero] at this, fun z hz => ?_, ?_, by rw [szB_app, szB_rev]; omega, by rw [szB_app, szB_rev]; omega, HJ.out.2.1⟩⟩
      ·rcases List.mem_append.1 hz with hz | hz
       ·exact HI.out.ts z (List.mem_append_left _ hz)
       ·exact HZA.out.2.1 z (List.mem_reverse.1 hz)
      ·rw [← HI.out.eq]
       constructor
       ·intro h z hz
        rcases List.mem_append.1 hz with hz | hz
        ·exact h z (List.mem_append_left _ hz)
        ·rw [List.mem_singleton] at hz
         rw [hz]
         exact HZA.out.2.2.1.1 fun z hz => h z (List.mem_append_right _ (List.mem_reverse.2 hz))
       ·intro h z hz
        rcases List.mem_append.1 hz with hz | hz
        ·exact h z (List.mem_append_left _ hz)
        ·exact HZA.out.2.2.1.2 (h ((x, y), (a, b)) (List.mem_append_right _ (List.mem_singleton.2 rfl))) z (List.mem_reverse.1 hz))
     have hgk := HNX.out.1
     go_wp2_with fail
     go_roundg (gk - 1)
     case measure => exact hgk
     case rel => exact ⟨_, Lib.hid HNX.out.2⟩
    ·obtain ⟨z, hz⟩ : ∃ z, za[k]? = some z := ⟨_, List.getElem?_eq_getElem (by have h3 : za.length = x.len := HZA.out.1; omega)⟩
     obtain ⟨⟨d1, o1, e1, t1, c1⟩, ⟨d2, o2, e2, t2, c2⟩⟩ := HZA.out.2.2.2.2 k z hz
     obtain ⟨⟨zx, zy⟩, ⟨za', zb'⟩⟩ := z
     simp only at c1 c2
     have hcell1 : ∀ (j : Nat) v, (encTV zx)[j]? = some v → wr.cell? ⟨d1, o1 + k * 4 + j, none⟩ = some v := fun j v hv => (HJ.out.2.1.cell (p := ⟨d1, o1 + k * 4 + j, none⟩) t1.lt).trans (c1 j v hv)
     have hcell2 : ∀ (j : Nat) v, (encTV zy)[j]? = some v → wr.cell? ⟨d2, o2 + k * 4 + j, none⟩ = some v := fun j v hv => (HJ.out.2.1.cell (p := ⟨d2, o2 + k * 4 + j, none⟩) t2.lt).trans (c2 j v hv)
     have x0 := hcell1 0 _ rfl
     have x1 := hcell1 1 _ rfl
     have x2 := hcell1 2 _ rfl
     have x3 := hcell1 3 _ rfl
     have y0 := hcell2 0 _ rfl
     have y1 := hcell2 1 _ rfl
     have y2 := hcell2 2 _ rfl
     have y3 := hcell2 3 _ rfl
     rw [Nat.add_zero] at x0 y0
     obtain ⟨-, -, -, r3, -, -, -, r7, -⟩ := eight_at HJ.out.2.2.1
     rw [e1] at r3
     rw [e2] at r7
     have hl1 : d1 < wr.heap.size := Nat.lt_of_lt_of_le t1.lt HJ.out.2.1.size
     have hl2 : d2 < wr.heap.size := Nat.lt_of_lt_of_le t2.lt HJ.out.2.1.size
     have hl3 : p < wr.heap.size := (Array.getElem?_eq_some_iff.1 HJ.out.2.2.1).1
     obtain ⟨A8, c8, e8⟩ := HJ.out.1.shape
     subst e8
     have ek : (((k + 1 : Nat) : Int) - 1) = (k : Int) := by omega
     have hk0 : (0 : Int) ≤ (k : Int) := by omega
     have hk1 : (k : Int) < (x.len : Int) := by omega
     have hk2 : (k : Int) < (y.len : Int) := by omega
     have hwk1 : IntKind.i64.wrap ((k : Int) - 1) = (k : Int) - 1 := IntWalk.i64_in _ (by omega)
     obtain ⟨L, hL⟩ : ∃ L : List (TV × TV), L = (l0 ++ (za.drop (k + 1)).reverse).map (·.1) := ⟨_, rfl⟩
     rw [← hL] at HJ ⊢
     have HLL : Hid (L = (l0 ++ (za.drop (k + 1)).reverse).map (·.1) ∧ L.length ≤ 2000000) := Lib.hid ⟨hL, by
      have h3 : za.length = x.len := HZA.out.1
      have h5 := szB_len l0
      have h6 := HI.out.few
      rw [szB_app] at h6
      rw [hL, List.length_map, List.length_append, List.length_reverse, List.length_drop]
      omega⟩
     have hLn := HLL.out.2
     have hus := HJ.out.2.1.size
     have HZ := Lib.hid hz
     rw [ek]
     clear hcell1 hcell2 c1 c2 t1 t2 e1 e2 hz hL
     go_wp2_with fail
     go_region_law
      ((refine step_append_lies _ (by rfl) _ _ _ (by rfl) u.heap.size 421 i0 _ 8 112 Tryz.underlying422 hi0 hz0 hz1 hz2 hz3 (by omega) _ _ (L.flatMap encBo) (by rfl) (Row.later HJ.out.1 (by (repeat (first | exact Below.refl _ _ | refine Below.drew ?_ | refine Below.alloc ?_ (Nat.le_refl _) _)))).own
          ⟨wr.heap.size, 0, none⟩ 1 1 (encBo (zx, zy)) (by rfl) (by rfl) (World.news_of_block (cs := (encBo (zx, zy)).toArray) (t := 421) (fr := (0, 0)) (heap_alloc_new wr _)) (encBo_one _)
          (by omega) (by unfold maxLen; omega) (by omega) (by simp; omega) (wr.heap.size + 1) (by simp) ?_; intro gg cap2 w9 hown9 hgrow hat9 hlt9))
     all_goals
      have hNX : CmpIn u x y p wr w9 L (zx, zy) (.slice (some ⟨gg, 0, none⟩) (L.length + 1) cap2) := CmpIn.mk' HJ.out.1 HJ.out.2.1 HJ.out.2.2.1 HJ.out.2.2.2 (by (repeat (first | exact Below.refl _ _ | refine Below.drew ?_ | refine Below.alloc ?_ (Nat.le_refl _) _))) hown9 hgrow hat9 (by simp)
      have HNX := Lib.hid hNX
      clear hown9 hgrow hat9 hlt9 hNX
      go_wp2_with fail
      go_roundw
      case rel =>
       refine ⟨k, rfl, by omega, Lib.hid ⟨?_, HNX.out.below, HNX.out.blk, HNX.out.ne⟩⟩
       obtain ⟨hlt, he⟩ := List.getElem?_eq_some_iff.1 HZ.out
       rw [List.drop_eq_getElem_cons hlt, he, List.reverse_cons, ← List.append_assoc, List.map_append, ← HLL.out.1]
       exact HNX.out.row
      case measure =>
       simp only [intOf]
       omega
end Go.Proofs.YtjdnigepnfeboaaGreatDoor
