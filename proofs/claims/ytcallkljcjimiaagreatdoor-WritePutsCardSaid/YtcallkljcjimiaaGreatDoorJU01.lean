import Derived.Test.YtcallkljcjimiaaGreatDoorJU00
namespace Go.Proofs.YtcallkljcjimiaaGreatDoor
open Go.RowKit Go.Maps
set_option maxRecDepth 100000
theorem sizes_step (l : List Tm) (k : Nat) (h : k < l.length) : Tm.sizes (l.take (k + 1)) = Tm.sizes (l.take k) + (l.getD k noTm).size := by
 have : ∀ (l : List Tm) (k : Nat), k < l.length → Tm.sizes (l.take (k + 1)) = Tm.sizes (l.take k) + (l.getD k noTm).size := by
  intro l
  induction l with
  | nil => intro k h; simp at h
  | cons a r ih =>
   intro k h
   cases k with
   | zero => simp [Tm.sizes]
   | succ k =>
    have := ih k (by simpa using h)
    rw [List.take_succ_cons, Tm.sizes, List.take_succ_cons, Tm.sizes, List.getD_cons_succ, this]
    omega
 exact this l k h
theorem sizes_takeLe : ∀ (l : List Tm) (k : Nat), Tm.sizes (l.take k) ≤ Tm.sizes l
 | [], k => by simp [Tm.sizes]
 | a :: r, 0 => by simp [Tm.sizes]
 | a :: r, k + 1 => by
  have := sizes_takeLe r k
  rw [List.take_succ_cons, Tm.sizes, Tm.sizes]
  omega
def RSz (n : Nat) : Prop := ∀ (t : Tm) (u : World) (x : TV), t.size ≤ n → t.size ≤ 1000000000 → TermAt u u.heap.size x t →
 Calls Tryz.prog 71 #[tvV x] u fun e u' => e = .returned (.int .i64 t.size) ∧ Below u.heap.size u u'
set_option maxHeartbeats 8000000 in
theorem rsz_step {n : Nat} (hC : RSz n) : RSz (n + 1) := by
 intro t u x hn hsz hx
 obtain ⟨k1, k2, k3, k4, k5, -⟩ := hx.open
 have hsa := size_args t
 have hsl := sizes_len t.args
 obtain ⟨W, hW⟩ : ∃ W, W = u.alloc (.cells #[.int .i64 x.k, .int .i64 x.n, .string ⟨x.s.toArray⟩, .slice x.A x.len x.cap] 28) := ⟨_, rfl⟩
 obtain ⟨bx, hbx⟩ : ∃ b, b = u.heap.size := ⟨_, rfl⟩
 have hbW : Below u.heap.size u W := by rw [hW]; exact (Below.refl _ _).alloc (Nat.le_refl _) _
 have hx0 : W.heap[bx]? = some (.cells #[.int .i64 x.k, .int .i64 x.n, .string ⟨x.s.toArray⟩, .slice x.A x.len x.cap] 28 (0, 0)) := by rw [hW, hbx]; exact heap_alloc_new _ _
 have HC := Lib.hid hC
 have HX := Lib.hid (hx.blw hbW)
 have HB := Lib.hid (And.intro hbW hbx)
 have HSZ := Lib.hid (And.intro hn (And.intro hsz (And.intro hsa (And.intro hsl k4))))
 obtain ⟨f0, f1, f2, f3, -⟩ := four_at hx0
 obtain ⟨Z, hZ⟩ : ∃ Z, Z = t.size := ⟨_, rfl⟩
 rw [← hZ]
 have HZ := Lib.hid hZ
 clear hC hn hsz hx k1 k2 k3 k4 k5 hsa hsl hbW hx0 hZ
 rw [tvV_lit]
 go_enter Tryz.func71, Tryz.ntmps71
 go_upto_region 1 with fail
 rw [← hW, ← hbx]
 clear hW hbx
 go_wp2_with fail
 clear f0 f1 f2 f3
 go_loopw [3, 9] (fun v i wr => ∃ k : Nat, k ≤ x.len ∧ i = .int .i64 k ∧ v = .int .i64 ((1 + Tm.sizes (t.args.take k) : Nat) : Int) ∧ Hid (Below W.heap.size W wr)) (fun _ i _ => x.len - (intOf i).toNat)
 case atStart => exact ⟨0, Nat.zero_le _, rfl, by simp [Tm.sizes], Lib.hid (Below.refl _ _)⟩
 case round =>
  obtain ⟨k, hk, rfl, rfl, HI⟩ := hrel
  by_cases hkl : k < x.len
  case neg =>
   have b9 : decide ((k : Int) < (x.len : Int)) = false := by simp; omega
   have hke : k = x.len := by omega
   have hzz : 1 + Tm.sizes (t.args.take k) = Z := by rw [hke, ← HSZ.out.2.2.2.2, List.take_length, HZ.out, HSZ.out.2.2.1]
   rw [hzz]
   have HF := Lib.hid (HB.out.1.trans (HI.out.mono HB.out.1.size))
   clear hke hzz
   go_wp2_with fail
   go_ret
   exact ⟨rfl, HF.out⟩
  have b9 : decide ((k : Int) < (x.len : Int)) = true := by simp; omega
  have hk0 : (0 : Int) ≤ (k : Int) := by omega
  have hk1 : (k : Int) < (x.len : Int) := by omega
  have hka : k < t.args.length := by rw [HSZ.out.2.2.2.2]; exact hkl
  have hbu : Below u.heap.size u wr := HB.out.1.trans (HI.out.mono HB.out.1.size)
  obtain ⟨b, off, y, hA, hbB, hy, m0, m1, m2, m3⟩ := arg_in (HX.out.blw (HI.out.mono HB.out.1.size)) hka
  have hbw : b < wr.heap.size := by have := hbu.size; omega
  obtain ⟨V1, hV1⟩ : ∃ V1, V1 = wr.alloc (.cells #[.int .i64 y.k, .int .i64 y.n, .string ⟨y.s.toArray⟩, .slice y.A y.len y.cap] 28) := ⟨_, rfl⟩
  obtain ⟨b6, hb6⟩ : ∃ b6, b6 = wr.heap.size := ⟨_, rfl⟩
  have hbV1 : Below wr.heap.size wr V1 := by rw [hV1]; exact (Below.refl _ _).alloc (Nat.le_refl _) _
  have hy0 : V1.heap[b6]? = some (.cells #[.int .i64 y.k, .int .i64 y.n, .string ⟨y.s.toArray⟩, .slice y.A y.len y.cap] 28 (0, 0)) := by rw [hV1, hb6]; exact heap_alloc_new _ _
  have hst := sizes_step t.args k hka
  have hle := sizes_takeLe t.args (k + 1)
  have hcl := HC.out (t.args.getD k noTm) V1 y (by have := arg_lt hka; have := HSZ.out.1; omega) (by have := arg_lt hka; have := HSZ.out.2.1; omega) (((hy.up (by have := hbu.size; omega)).blw (B := wr.heap.size) hbV1).up hbV1.size)
  rw [tvV_lit] at hcl
  obtain ⟨a, ha⟩ : ∃ a, a = 1 + Tm.sizes (t.args.take k) := ⟨_, rfl⟩
  obtain ⟨z, hz⟩ : ∃ z, z = (t.args.getD k noTm).size := ⟨_, rfl⟩
  have haz : 1 + Tm.sizes (t.args.take (k + 1)) = a + z := by rw [ha, hz, hst]; omega
  have haz2 : a + z ≤ 1000000001 := by have := HSZ.out; omega
  rw [← hz] at hcl
  rw [← ha]
  have HCL := Lib.hid hcl
  have HAZ := Lib.hid haz
  have hw3 : IntKind.i64.wrap ((a : Int) + (z : Int)) = ((a + z : Nat) : Int) := by rw [IntWalk.i64_in _ (by omega)]; omega
  have hw2 : IntKind.i64.wrap ((k : Int) + 1) = (k : Int) + 1 := IntWalk.i64_in _ (by have := HSZ.out; omega)
  have HB1 := Lib.hid (And.intro hbV1 (And.intro hbu hkl))
  have HY0 := Lib.hid hy0
  rw [hA] at *
  clear hcl hbV1 hbu hy0 hA hbB hy hka hst hle ha hz haz haz2
  go_upto_region 5 with fail
  rw [← hV1, ← hb6]
  clear hV1 hb6 m0 m1 m2 m3 hbw
  obtain ⟨y0, y1, y2, y3, -⟩ := four_at HY0.out
  go_wp2_with fail
  refine HCL.out.mono ?_
  rintro e V2 ⟨rfl, hb2⟩
  have HN := Lib.hid (HI.out.trans ((HB1.out.1.trans (hb2.mono HB1.out.1.size)).mono HI.out.size))
  clear hb2 y0 y1 y2 y3
  go_wp2_with fail
  go_roundw
  case rel => exact ⟨k + 1, by have := HB1.out.2.2; omega, rfl, by rw [HAZ.out, Int.natCast_add], HN⟩
  case measure =>
   simp only [intOf]
   have := HB1.out.2.2
   omega
theorem rsz_all : ∀ n, RSz n
 | 0 => fun t _ _ h _ _ => by have := size_pos t; omega
 | n + 1 => rsz_step (rsz_all n)
theorem deeps_step (l : List Tm) (k : Nat) (h : k < l.length) : Tm.deeps (l.take (k + 1)) = max (Tm.deeps (l.take k)) (l.getD k noTm).deep := by
 have : ∀ (l : List Tm) (k : Nat), k < l.length → Tm.deeps (l.take (k + 1)) = max (Tm.deeps (l.take k)) (l.getD k noTm).deep := by
  intro l
  induction l with
  | nil => intro k h; simp at h
  | cons a r ih =>
   intro k h
   cases k with
   | zero => simp [Tm.deeps]
   | succ k =>
    have := ih k (by simpa using h)
    rw [List.take_succ_cons, Tm.deeps, List.take_succ_cons, Tm.deeps, List.getD_cons_succ, this]
    omega
 exact this l k h
theorem deep_args (t : Tm) : t.deep = 1 + Tm.deeps t.args := by
 obtain ⟨k, n, s, l⟩ := t
 rw [Tm.deep]
 rfl
mutual
theorem deep_le_sizeO : ∀ t : Tm, t.deep ≤ t.size
 | .mk k n s l => by
  rw [Tm.deep, Tm.size]
  have := deeps_le_sizes l
  omega
theorem deeps_le_sizes : ∀ l : List Tm, Tm.deeps l ≤ Tm.sizes l
 | [] => Nat.le_refl _
 | t :: r => by
  rw [Tm.deeps, Tm.sizes]
  have := deep_le_sizeO t
  have := deeps_le_sizes r
  omega
end
def RDp (n : Nat) : Prop := ∀ (t : Tm) (u : World) (x : TV), t.size ≤ n → t.size ≤ 1000000000 → TermAt u u.heap.size x t →
 Calls Tryz.prog 70 #[tvV x] u fun e u' => e = .returned (.int .i64 t.deep) ∧ Below u.heap.size u u'
set_option maxHeartbeats 8000000 in
theorem rdp_step {n : Nat} (hC : RDp n) : RDp (n + 1) := by
 intro t u x hn hsz hx
 obtain ⟨k1, k2, k3, k4, k5, -⟩ := hx.open
 have hsa := size_args t
 have hsl := sizes_len t.args
 obtain ⟨W, hW⟩ : ∃ W, W = u.alloc (.cells #[.int .i64 x.k, .int .i64 x.n, .string ⟨x.s.toArray⟩, .slice x.A x.len x.cap] 28) := ⟨_, rfl⟩
 obtain ⟨bx, hbx⟩ : ∃ b, b = u.heap.size := ⟨_, rfl⟩
 have hbW : Below u.heap.size u W := by rw [hW]; exact (Below.refl _ _).alloc (Nat.le_refl _) _
 have hx0 : W.heap[bx]? = some (.cells #[.int .i64 x.k, .int .i64 x.n, .string ⟨x.s.toArray⟩, .slice x.A x.len x.cap] 28 (0, 0)) := by rw [hW, hbx]; exact heap_alloc_new _ _
 have HC := Lib.hid hC
 have HX := Lib.hid (hx.blw hbW)
 have HB := Lib.hid (And.intro hbW hbx)
 have HSZ := Lib.hid (And.intro hn (And.intro hsz (And.intro hsa (And.intro hsl k4))))
 obtain ⟨f0, f1, f2, f3, -⟩ := four_at hx0
 obtain ⟨Z, hZ⟩ : ∃ Z, Z = t.deep := ⟨_, rfl⟩
 rw [← hZ]
 have HZ := Lib.hid hZ
 clear hC hn hsz hx k1 k2 k3 k4 k5 hsa hsl hbW hx0 hZ
 rw [tvV_lit]
 go_enter Tryz.func70, Tryz.ntmps70
 go_upto_region 1 with fail
 rw [← hW, ← hbx]
 clear hW hbx
 go_wp2_with fail
 clear f0 f1 f2 f3
 go_loopw [3, 9] (fun v i wr => ∃ k : Nat, k ≤ x.len ∧ i = .int .i64 k ∧ v = .int .i64 ((Tm.deeps (t.args.take k) : Nat) : Int) ∧ Hid (Below W.heap.size W wr)) (fun _ i _ => x.len - (intOf i).toNat)
 case atStart => exact ⟨0, Nat.zero_le _, rfl, by simp [Tm.deeps], Lib.hid (Below.refl _ _)⟩
 case round =>
  obtain ⟨k, hk, rfl, rfl, HI⟩ := hrel
  by_cases hkl : k < x.len
  case neg =>
   have b9 : decide ((k : Int) < (x.len : Int)) = false := by simp; omega
   have hke : k = x.len := by omega
   have hdl := deeps_le_sizes (t.args.take k)
   have hsl := sizes_takeLe t.args k
   have hzz : Tm.deeps (t.args.take k) + 1 = Z := by rw [hke, ← HSZ.out.2.2.2.2, List.take_length, HZ.out, deep_args]; omega
   obtain ⟨a, ha⟩ : ∃ a, a = Tm.deeps (t.args.take k) := ⟨_, rfl⟩
   rw [← ha] at hzz hdl ⊢
   have hw4 : IntKind.i64.wrap (Z : Int) = (Z : Int) := IntWalk.i64_in _ (by have := HSZ.out; omega)
   have hw5 : (a : Int) + 1 = (Z : Int) := by omega
   have HF := Lib.hid (HB.out.1.trans (HI.out.mono HB.out.1.size))
   clear hke hzz hdl hsl ha
   go_wp2_with fail
   go_ret
   exact ⟨rfl, HF.out⟩
  have b9 : decide ((k : Int) < (x.len : Int)) = true := by simp; omega
  have hk0 : (0 : Int) ≤ (k : Int) := by omega
  have hk1 : (k : Int) < (x.len : Int) := by omega
  have hka : k < t.args.length := by rw [HSZ.out.2.2.2.2]; exact hkl
  have hbu : Below u.heap.size u wr := HB.out.1.trans (HI.out.mono HB.out.1.size)
  obtain ⟨b, off, y, hA, hbB, hy, m0, m1, m2, m3⟩ := arg_in (HX.out.blw (HI.out.mono HB.out.1.size)) hka
  have hbw : b < wr.heap.size := by have := hbu.size; omega
  obtain ⟨V1, hV1⟩ : ∃ V1, V1 = wr.alloc (.cells #[.int .i64 y.k, .int .i64 y.n, .string ⟨y.s.toArray⟩, .slice y.A y.len y.cap] 28) := ⟨_, rfl⟩
  obtain ⟨b6, hb6⟩ : ∃ b6, b6 = wr.heap.size := ⟨_, rfl⟩
  have hbV1 : Below wr.heap.size wr V1 := by rw [hV1]; exact (Below.refl _ _).alloc (Nat.le_refl _) _
  have hy0 : V1.heap[b6]? = some (.cells #[.int .i64 y.k, .int .i64 y.n, .string ⟨y.s.toArray⟩, .slice y.A y.len y.cap] 28 (0, 0)) := by rw [hV1, hb6]; exact heap_alloc_new _ _
  have hst := deeps_step t.args k hka
  have hcl := HC.out (t.args.getD k noTm) V1 y (by have := arg_lt hka; have := HSZ.out.1; omega) (by have := arg_lt hka; have := HSZ.out.2.1; omega) (((hy.up (by have := hbu.size; omega)).blw (B := wr.heap.size) hbV1).up hbV1.size)
  rw [tvV_lit] at hcl
  obtain ⟨a, ha⟩ : ∃ a, a = Tm.deeps (t.args.take k) := ⟨_, rfl⟩
  obtain ⟨z, hz⟩ : ∃ z, z = (t.args.getD k noTm).deep := ⟨_, rfl⟩
  have haz : Tm.deeps (t.args.take (k + 1)) = max a z := by rw [ha, hz, hst]
  have hmx : ((max a z : Nat) : Int) = max (a : Int) (z : Int) := by omega
  rw [← hz] at hcl
  rw [← ha]
  have HCL := Lib.hid hcl
  have HAZ := Lib.hid haz
  have hw2 : IntKind.i64.wrap ((k : Int) + 1) = (k : Int) + 1 := IntWalk.i64_in _ (by have := HSZ.out; omega)
  have HB1 := Lib.hid (And.intro hbV1 (And.intro hbu hkl))
  have HY0 := Lib.hid hy0
  rw [hA] at *
  clear hcl hbV1 hbu hy0 hA hbB hy hka hst ha hz haz
  go_upto_region 5 with fail
  rw [← hV1, ← hb6]
  clear hV1 hb6 m0 m1 m2 m3 hbw
  obtain ⟨y0, y1, y2, y3, -⟩ := four_at HY0.out
  go_wp2_with fail
  refine HCL.out.mono ?_
  rintro e V2 ⟨rfl, hb2⟩
  have HN := Lib.hid (HI.out.trans ((HB1.out.1.trans (hb2.mono HB1.out.1.size)).mono HI.out.size))
  clear hb2 y0 y1 y2 y3
  go_wp2_with fail
  go_roundw
  case rel => exact ⟨k + 1, by have := HB1.out.2.2; omega, rfl, by rw [HAZ.out, hmx], HN⟩
  case measure =>
   simp only [intOf]
   have := HB1.out.2.2
   omega
theorem rdp_all : ∀ n, RDp n
 | 0 => fun t _ _ h _ _ => by have := size_pos t; omega
 | n + 1 => rdp_step (rdp_all n)
set_option maxHeartbeats 4000000 in
theorem rcons_any (u : World) (B : Nat) (x : TV) (t : Tm) (hx : TermAt u B x t) :
    Calls Tryz.prog 74 #[tvV x] u fun e u' => e = .returned (.bool (consT t)) ∧ Below u.heap.size u u' := by
 obtain ⟨k1, k2, k3, k4, k5, -⟩ := hx.open
 obtain ⟨r, hr⟩ : ∃ r, r = consT t := ⟨_, rfl⟩
 rw [← hr]
 have HR : Hid (r = (decide (x.k = 4) && (decide (x.s = [46]) && decide (x.len = 2)))) := Lib.hid (by rw [hr]; unfold consT; rw [k1, k3, k4])
 clear hr k1 k2 k3 k4 hx
 rw [tvV_lit]
 by_cases h1 : x.k = 4
 ·have b1 : (x.k == 4) = true := by rw [h1]; rfl
  by_cases h2 : x.s = [46]
  ·have b2 : (x.s == [46]) = true := by rw [h2]; rfl
   by_cases h3 : x.len = 2
   ·have hrt : r = true := by rw [HR.out, h1, h2, h3]; rfl
    have b3 : ((x.len : Int) == 2) = true := by rw [h3]; rfl
    clear h1 h2 h3
    go_enter Tryz.func74, Tryz.ntmps74
    go_wp2_with fail
    go_ret
    exact ⟨by rw [hrt]; simp_all, (Below.refl _ _).alloc (Nat.le_refl _) _⟩
   ·have hrt : r = false := by rw [HR.out, decide_eq_false h3]; simp
    have b3 : ((x.len : Int) == 2) = false := beq_eq_false_iff_ne.2 (by omega)
    clear h1 h2 h3
    go_enter Tryz.func74, Tryz.ntmps74
    go_wp2_with fail
    go_ret
    exact ⟨by rw [hrt]; simp_all, (Below.refl _ _).alloc (Nat.le_refl _) _⟩
  ·have hrt : r = false := by rw [HR.out, decide_eq_false h2]; simp
   have b2 : (x.s == [46]) = false := beq_eq_false_iff_ne.2 h2
   clear h1 h2
   go_enter Tryz.func74, Tryz.ntmps74
   go_wp2_with fail
   go_ret
   exact ⟨by rw [hrt]; rfl, (Below.refl _ _).alloc (Nat.le_refl _) _⟩
 ·have hrt : r = false := by rw [HR.out, decide_eq_false h1]; rfl
  have b1 : (x.k == 4) = false := beq_eq_false_iff_ne.2 h1
  clear h1
  go_enter Tryz.func74, Tryz.ntmps74
  go_wp2_with fail
  go_ret
  exact ⟨by rw [hrt]; rfl, (Below.refl _ _).alloc (Nat.le_refl _) _⟩
theorem fresh_four9 (w : World) (x : TV) (t : TypeId) : ∀ j u, (encTV x)[j]? = some u → (w.alloc (.cells #[.int .i64 x.k, .int .i64 x.n, .string ⟨x.s.toArray⟩, .slice x.A x.len x.cap] t)).cell? ⟨w.heap.size, j, none⟩ = some u := fun j u hu => by
 exact cell_alloc1 w _ t j u (by simpa [encTV] using hu)
def TermsA (u : World) (B : Nat) (xs : List TV) (l : List Tm) : Prop := xs.length = l.length ∧ ∀ (i : Nat) (y : TV) (t : Tm), xs[i]? = some y → l[i]? = some t → TermAt u B y t
theorem TermsA.keep {u u' : World} {B B' : Nat} {xs : List TV} {l : List Tm} (h : TermsA u B xs l) (hB : B ≤ B') (hb : ∀ k, k < B → u'.heap[k]? = u.heap[k]?) : TermsA u' B' xs l :=
 ⟨h.1, fun i y t h1 h2 => (h.2 i y t h1 h2).keep hB hb⟩
theorem TermsA.snoc {u : World} {B : Nat} {xs : List TV} {l : List Tm} {y : TV} {t : Tm} (h : TermsA u B xs l) (hy : TermAt u B y t) : TermsA u B (xs ++ [y]) (l ++ [t]) := by
 refine ⟨by rw [List.length_append, List.length_append, h.1]; rfl, fun i z s h1 h2 => ?_⟩
 by_cases hi : i < xs.length
 ·rw [List.getElem?_append_left hi] at h1
  rw [List.getElem?_append_left (by rw [← h.1]; exact hi)] at h2
  exact h.2 i z s h1 h2
 ·have hi2 : i = xs.length := by
   have := (List.getElem?_eq_some_iff.1 h1).1
   simp at this
   omega
  subst hi2
  rw [List.getElem?_append_right (Nat.le_refl _), Nat.sub_self] at h1
  rw [h.1, List.getElem?_append_right (Nat.le_refl _), Nat.sub_self] at h2
  have e1 : y = z := by simpa using h1
  have e2 : t = s := by simpa using h2
  subst e1 e2
  exact hy
def ItPost (u : World) (t : Tm) (e : Ending) (u' : World) : Prop :=
 ∃ (A : Option Addr) (n c : Nat) (xs : List TV) (z : TV), e = .returned (.tuple #[.slice A n c, tvV z]) ∧ SlTerms u' A n xs ∧ TermsA u' u'.heap.size xs (consF t.size t).1 ∧ TermAt u' u'.heap.size z (consF t.size t).2 ∧ Below u.heap.size u u'
structure ItInv (u : World) (bx br : Nat) (items : List Tm) (tl : Tm) (f : Nat) (done : List Tm) (T : Tm) (xs : List TV) (y : TV) (v : Value) (wr : World) : Prop where
 row : Row wr (u.heap.size + 2) 28 4 encTV v xs
 tms : TermsA wr u.heap.size xs done
 cur : wr.heap[bx]? = some (.cells #[.int .i64 y.k, .int .i64 y.n, .string ⟨y.s.toArray⟩, .slice y.A y.len y.cap] 28 (0, 0))
 res : wr.heap[br]? = some (.cells #[.int .i64 0, .int .i64 0, .string ⟨#[]⟩, .slice none 0 0] 28 (0, 0))
 ty : TermAt wr u.heap.size y T
 split : done ++ (consF f T).1 = items ∧ (consF f T).2 = tl
 size : T.size ≤ f
 few : xs.length + T.size ≤ 1000000001
 below : Below u.heap.size u wr
theorem ItInv.finish {u wr w2 W' : World} {bx br : Nat} {its : List Tm} {tl t : Tm} {gk : Nat} {done : List Tm} {T : Tm} {xs : List TV} {y : TV} {A : Option Addr} {c : Nat} (h : ItInv u bx br its tl gk done T xs y (.slice A xs.length c) wr) (hb : Below wr.heap.size wr w2) (hbr : br = u.heap.size + 1) (hc : consT T = false)
    (h1 : its = (consF t.size t).1) (h2 : tl = (consF t.size t).2) (hW : ∀ k, k ≠ br → W'.heap[k]? = w2.heap[k]?) (hsz : w2.heap.size ≤ W'.heap.size) (hbel : Below u.heap.size u W') : ItPost u t (.returned (.tuple #[.slice A xs.length c, tvV y])) W' := by
 have hf : consF gk T = ([], T) := by
  cases gk with
  | zero => rfl
  | succ f => simp [consF, hc]
 obtain ⟨s1, s2⟩ := h.split
 rw [hf] at s1 s2
 have hlow : ∀ k, k < u.heap.size → W'.heap[k]? = wr.heap[k]? := fun k hk => (hW k (by omega)).trans (hb.block k (Nat.lt_of_lt_of_le hk h.below.size))
 refine ⟨A, xs.length, c, xs, y, rfl, ⟨rfl, fun i z hz => ?_⟩, ?_, ?_, hbel⟩
 ·obtain ⟨g, cap, e1, hg0, hg, _, hcs⟩ := h.row.cells encTV_len (by rintro rfl; cases hz)
  injection e1 with e1 e2 e3
  refine ⟨g, 0, e1, Nat.lt_of_lt_of_le hg (Nat.le_trans hb.size hsz), fun j v hj => ?_⟩
  rw [Nat.zero_add]
  exact ((World.cell?_of_block (a := ⟨g, i * 4 + j, none⟩) (w := w2) (hW g (by omega))).trans (hb.cell (p := ⟨g, i * 4 + j, none⟩) hg)).trans (hcs i z hz j v hj).1
 ·rw [← h1, ← s1, List.append_nil]
  exact h.tms.keep hbel.size hlow
 ·rw [← h2, ← s2]
  exact h.ty.keep hbel.size hlow
theorem ItInv.next {u wr w2 w' : World} {bx br : Nat} {its : List Tm} {tl : Tm} {gk : Nat} {done : List Tm} {T : Tm} {xs : List TV} {y ya yb : TV} {v v' : Value} (h : ItInv u bx br its tl gk done T xs y v wr) (hb : Below wr.heap.size wr w2) (hbx : bx = u.heap.size) (hbr : br = bx + 1) (hc : consT T = true)
    (ha : TermAt wr u.heap.size ya (T.args.getD 0 noTm)) (hd : TermAt wr u.heap.size yb (T.args.getD 1 noTm)) (h3 : Below (u.heap.size + 2) w2 w') (hrow : Row w' (u.heap.size + 2) 28 4 encTV v' (xs ++ [ya]))
    (hx3 : w'.heap[bx]? = some (.cells #[.int .i64 y.k, .int .i64 y.n, .string ⟨y.s.toArray⟩, .slice y.A y.len y.cap] 28 (0, 0))) (hr3 : w'.heap[br]? = some (.cells #[.int .i64 0, .int .i64 0, .string ⟨#[]⟩, .slice none 0 0] 28 (0, 0))) :
    gk - 1 < gk ∧ ItInv u bx br its tl (gk - 1) (done ++ [T.args.getD 0 noTm]) (T.args.getD 1 noTm) (xs ++ [ya]) yb v' ((((w'.setCell ⟨bx, 0, none⟩ (.int .i64 yb.k)).setCell ⟨bx, 1, none⟩ (.int .i64 yb.n)).setCell ⟨bx, 2, none⟩ (.string ⟨yb.s.toArray⟩)).setCell ⟨bx, 3, none⟩ (.slice yb.A yb.len yb.cap)) := by
 obtain ⟨q1, q2, q3⟩ := consT_len hc
 obtain ⟨K, hK⟩ : ∃ K, K = ((((w'.setCell ⟨bx, 0, none⟩ (.int .i64 yb.k)).setCell ⟨bx, 1, none⟩ (.int .i64 yb.n)).setCell ⟨bx, 2, none⟩ (.string ⟨yb.s.toArray⟩)).setCell ⟨bx, 3, none⟩ (.slice yb.A yb.len yb.cap)) := ⟨_, rfl⟩
 have hne : ∀ k, k ≠ bx → K.heap[k]? = w'.heap[k]? := fun k hk => by rw [hK]; exact blk_set4_ne _ _ _ _ hk
 have hsz : K.heap.size = w'.heap.size := by rw [hK]; simp [World.setCell]
 have hbe : Below u.heap.size u K := by
  have h2 := (h.below.trans (hb.mono h.below.size)).trans (h3.mono (by omega))
  have h1 : u.heap.size ≤ bx := by omega
  rw [hK]
  exact (((h2.setCell (p := ⟨bx, 0, none⟩) h1 _).setCell (p := ⟨bx, 1, none⟩) h1 _).setCell (p := ⟨bx, 2, none⟩) h1 _).setCell (p := ⟨bx, 3, none⟩) h1 _
 have hlow : ∀ k, k < u.heap.size → K.heap[k]? = wr.heap[k]? := fun k hk => ((hne k (by omega)).trans (h3.block k (by omega))).trans (hb.block k (Nat.lt_of_lt_of_le hk h.below.size))
 have ht1 := arg_lt (t := T) (i := 1) (by omega)
 have ht0 : (T.args.getD 1 noTm).size + 2 ≤ T.size := by
  have h1 := size_args T
  obtain ⟨l, hl⟩ : ∃ l, l = T.args := ⟨_, rfl⟩
  rw [← hl] at q3 h1 ⊢
  match l, q3 with
  | [a, c], _ =>
   rw [Tm.sizes, Tm.sizes, Tm.sizes] at h1
   have := size_pos a
   show c.size + 2 ≤ _
   omega
 have hs := h.size
 obtain ⟨f, rfl⟩ : ∃ f, gk = f + 1 := ⟨gk - 1, by omega⟩
 refine ⟨by omega, ?_⟩
 rw [← hK, Nat.add_sub_cancel]
 obtain ⟨s1, s2⟩ := h.split
 rw [consF, if_pos hc] at s1 s2
 refine ⟨hrow.keep fun k hk => hne k (by have := (hrow.lt k hk).1; omega), ?_, ?_, (hne br (by omega)).trans hr3, hd.keep (Nat.le_refl _) hlow, ⟨by rw [List.append_assoc]; exact s1, s2⟩, by omega, by have := h.few; rw [List.length_append, List.length_singleton]; omega, hbe⟩
 ·exact (h.tms.keep (Nat.le_refl _) hlow).snoc (ha.keep (Nat.le_refl _) hlow)
 ·rw [hK]
  exact blk_set4 hx3 rfl _ _ _ _
set_option maxHeartbeats 8000000 in
theorem items_ref (u : World) (x : TV) (t : Tm) (hx : TermAt u u.heap.size x t) (hsz : t.size ≤ 1000000000) :
    Calls Tryz.prog 75 #[tvV x] u fun e u' => ItPost u t e u' := by
 obtain ⟨R, hR⟩ : ∃ R : Ending → World → Prop, R = fun e u' => ItPost u t e u' := ⟨_, rfl⟩
 rw [← hR]
 have HRR := Lib.hid hR
 obtain ⟨i0, z0, hi0, hz0, hs0, hby0, hzc0⟩ := term_info
 have hzs : z0.cells.size = 4 := by rw [hzc0]; rfl
 have HIN := Lib.hid (And.intro hi0 (And.intro hz0 (And.intro hs0 (And.intro hby0 hzs))))
 obtain ⟨W, hW⟩ : ∃ W, W = (u.alloc (.cells #[.int .i64 x.k, .int .i64 x.n, .string ⟨x.s.toArray⟩, .slice x.A x.len x.cap] 28)).alloc (.cells #[.int .i64 0, .int .i64 0, .string ⟨#[]⟩, .slice none 0 0] 28) := ⟨_, rfl⟩
 obtain ⟨bx, hbx⟩ : ∃ b, b = u.heap.size := ⟨_, rfl⟩
 obtain ⟨br, hbr⟩ : ∃ b, b = bx + 1 := ⟨_, rfl⟩
 have hbW : Below u.heap.size u W := by rw [hW]; exact ((Below.refl _ _).alloc (Nat.le_refl _) _).alloc (by simp) _
 have hsW : W.heap.size = u.heap.size + 2 := by rw [hW]; simp
 have hx0 : W.heap[bx]? = some (.cells #[.int .i64 x.k, .int .i64 x.n, .string ⟨x.s.toArray⟩, .slice x.A x.len x.cap] 28 (0, 0)) := by
  rw [hW, Below.heap_alloc _ _ _ (by simp; omega), hbx]
  exact heap_alloc_new _ _
 have hr0 : W.heap[br]? = some (.cells #[.int .i64 0, .int .i64 0, .string ⟨#[]⟩, .slice none 0 0] 28 (0, 0)) := by
  rw [hW, hbr, hbx]
  have := heap_alloc_new (u.alloc (.cells #[.int .i64 x.k, .int .i64 x.n, .string ⟨x.s.toArray⟩, .slice x.A x.len x.cap] 28)) (.cells #[.int .i64 0, .int .i64 0, .string ⟨#[]⟩, .slice none 0 0] 28)
  rwa [World.size_alloc] at this
 have hI : ItInv u bx br (consF t.size t).1 (consF t.size t).2 t.size [] t [] x (.slice none 0 0) W := ⟨Row.nil _ _ _ _ _, ⟨rfl, fun i y s h => by simp at h⟩, hx0, hr0, hx.blw hbW, ⟨rfl, rfl⟩, Nat.le_refl _, by simp; omega, hbW⟩
 have HI0 := Lib.hid hI
 have HSZ := Lib.hid (And.intro hsz (And.intro hbx hbr))
 obtain ⟨its, hits⟩ : ∃ l, l = (consF t.size t).1 := ⟨_, rfl⟩
 obtain ⟨tl, htl⟩ : ∃ l, l = (consF t.size t).2 := ⟨_, rfl⟩
 rw [← hits, ← htl] at HI0
 have HTL := Lib.hid (And.intro hits htl)
 clear hR hi0 hz0 hs0 hby0 hzc0 hzs hbW hsW hx0 hr0 hI hx hsz hits htl
 rw [tvV_lit]
 go_enter Tryz.func75, Tryz.ntmps75
 go_upto_region 1 with fail
 rw [← hW, ← hbx, ← hbr]
 clear hW hbx hbr
 go_wp2_with fail
 go_loopg [4] (t.size) (fun gk v wr => ∃ (done : List Tm) (T : Tm) (xs : List TV) (y : TV), Hid (ItInv u bx br its tl gk done T xs y v wr))
 case atStart => exact ⟨_, _, _, _, HI0⟩
 case round =>
  obtain ⟨done, T, xs, y, HI⟩ := hrel
  obtain ⟨y0, y1, y2, y3, yf⟩ := four_at HI.out.cur
  go_wp2_with fail
  have hcons := rcons_any wr u.heap.size y T HI.out.ty
  rw [tvV_lit] at hcons
  obtain ⟨cT, hcT⟩ : ∃ c, c = consT T := ⟨_, rfl⟩
  rw [← hcT] at hcons
  have HCT := Lib.hid hcT
  clear hcT
  refine hcons.mono ?_
  rintro e w2 ⟨rfl, hb2⟩
  have hxb := (Array.getElem?_eq_some_iff.1 HI.out.cur).1
  have hrb := (Array.getElem?_eq_some_iff.1 HI.out.res).1
  have HB2 := Lib.hid hb2
  have hc2 := (hb2.block bx hxb).trans HI.out.cur
  have hr2 := (hb2.block br hrb).trans HI.out.res
  have HC2 := Lib.hid (And.intro hc2 hr2)
  clear hcons hb2 y0 y1 y2 y3 yf hxb hrb
  obtain ⟨y0, y1, y2, y3, yf⟩ := four_at hc2
  cases cT with
  | false =>
   obtain ⟨A4, c4, rfl⟩ := HI.out.row.shape
   obtain ⟨r0, r1, r2, r3, rf⟩ := four_at hr2
   have HC4 := Lib.hid (blk_set4 hr2 rfl (.int .i64 y.k) (.int .i64 y.n) (.string ⟨y.s.toArray⟩) (.slice y.A y.len y.cap))
   have HBE : Hid (Below u.heap.size u (((((w2.setCell ⟨br, 0, none⟩ (.int .i64 y.k)).setCell ⟨br, 1, none⟩ (.int .i64 y.n)).setCell ⟨br, 2, none⟩ (.string ⟨y.s.toArray⟩)).setCell ⟨br, 3, none⟩ (.slice y.A y.len y.cap)))) := Lib.hid (by
    have h1 : u.heap.size ≤ br := by have := HSZ.out; omega
    have h2 := HI.out.below.trans (HB2.out.mono HI.out.below.size)
    exact (((h2.setCell (p := ⟨br, 0, none⟩) h1 _).setCell (p := ⟨br, 1, none⟩) h1 _).setCell (p := ⟨br, 2, none⟩) h1 _).setCell (p := ⟨br, 3, none⟩) h1 _)
   clear hc2 hr2
   go_wp2_with fail
   go_region
   go_wp2_with fail
   refine ⟨rfl, .tuple #[.slice A4 xs.length c4, .agg #[.int .i64 y.k, .int .i64 y.n, .string ⟨y.s.toArray⟩, .slice y.A y.len y.cap]], ?_, ?_⟩
   ·obtain ⟨z0, z1, z2, z3, -⟩ := four_at HC4.out
    simp [results, Tryz.results75, go_sem, z0, z1, z2, z3]
   ·rw [HRR.out]
    exact HI.out.finish HB2.out (by have := HSZ.out; omega) HCT.out.symm HTL.out.1 HTL.out.2 (fun k hk => blk_set4_ne _ _ _ _ hk) (by simp [World.setCell]) HBE.out.drew
  | true =>
   clear hr2
   obtain ⟨q1, q2, q3⟩ := consT_len HCT.out.symm
   obtain ⟨k1, -, -, k4, -, -⟩ := HI.out.ty.open
   have hl2 : y.len = 2 := by omega
   obtain ⟨b, off, ya, hA, hbB, hya, m0, m1, m2, m3⟩ := arg_in HI.out.ty (i := 0) (by omega)
   obtain ⟨b', off', yb, hA', hbB', hyb, n0, n1, n2, n3⟩ := arg_in HI.out.ty (i := 1) (by omega)
   have e1 : b = b' ∧ off = off' := by rw [hA] at hA'; simpa using hA'
   obtain ⟨rfl, rfl⟩ := e1
   rw [hl2, hA] at y3 hc2
   have HLA := Lib.hid (And.intro hl2 hA)
   have HAB := Lib.hid (And.intro hya (And.intro hyb hbB))
   clear hA hA' hbB' hya hyb hc2 q1 q2 q3 k1 k4 hl2
   have hxs9 : xs.length + T.size ≤ 1000000001 := HI.out.few
   have HXS := Lib.hid hxs9
   have HBW := Lib.hid (show u.heap.size + 2 ≤ w2.heap.size by have h1 := (Array.getElem?_eq_some_iff.1 HC2.out.2).1; have h2 := HSZ.out.2.1; have h3 := HSZ.out.2.2; omega)
   have hbw2 : b < wr.heap.size := by have h1 := HI.out.below.size; have h2 := HAB.out.2.2; omega
   rw [Nat.zero_mul, Nat.add_zero] at m0 m1 m2 m3
   rw [show off + 1 * 4 = off + 4 from by omega] at n0 n1 n2 n3
   replace m0 := (HB2.out.cell (p := ⟨b, off, none⟩) hbw2).trans m0
   replace m1 := (HB2.out.cell (p := ⟨b, off + 1, none⟩) hbw2).trans m1
   replace m2 := (HB2.out.cell (p := ⟨b, off + 2, none⟩) hbw2).trans m2
   replace m3 := (HB2.out.cell (p := ⟨b, off + 3, none⟩) hbw2).trans m3
   replace n0 := (HB2.out.cell (p := ⟨b, off + 4, none⟩) hbw2).trans n0
   replace n1 := (HB2.out.cell (p := ⟨b, off + 4 + 1, none⟩) hbw2).trans n1
   replace n2 := (HB2.out.cell (p := ⟨b, off + 4 + 2, none⟩) hbw2).trans n2
   replace n3 := (HB2.out.cell (p := ⟨b, off + 4 + 3, none⟩) hbw2).trans n3
   have HROW2 : Hid (Row w2 (u.heap.size + 2) 28 4 encTV u4 xs) := Lib.hid (HI.out.row.later HB2.out)
   clear hxs9
   go_wp2_with (at_builtin; refine wpList_rows rfl _ _ 26 rfl _ (u.heap.size + 2) 28 i0 z0 4 56 encTV Tryz.underlying26 HIN.out.1 HIN.out.2.1 HIN.out.2.2.1 HIN.out.2.2.2.1 HIN.out.2.2.2.2 (by decide) encTV_len encTV_one _ xs [ya] rfl (HROW2.out.alloc _) _ 0 1 rfl (fun j v hv => ?_) (by have := HXS.out; unfold maxLen; simp; omega) (by have := HXS.out; simp; omega) (by have := HBW.out; simp; omega) ?_)
   ·rw [Nat.zero_add]
    exact fresh_four9 w2 ya 28 j v (by simpa using hv)
   ·intro v' w' hrow' hgrow
    have hb3 : Below (u.heap.size + 2) w2 w' := ((Below.refl _ _).alloc HBW.out _).grown hgrow (by have := HBW.out; simp; omega) (fun k hk => (HROW2.out.lt k hk).1)
    have hxl : bx < u.heap.size + 2 := by have := HSZ.out; omega
    have hbl2 : b < u.heap.size + 2 := by omega
    replace n0 := (hb3.cell (p := ⟨b, off + 4, none⟩) hbl2).trans n0
    replace n1 := (hb3.cell (p := ⟨b, off + 4 + 1, none⟩) hbl2).trans n1
    replace n2 := (hb3.cell (p := ⟨b, off + 4 + 2, none⟩) hbl2).trans n2
    replace n3 := (hb3.cell (p := ⟨b, off + 4 + 3, none⟩) hbl2).trans n3
    have hc3 := (hb3.block bx hxl).trans HC2.out.1
    have hr3 := (hb3.block br (by have := HSZ.out; omega)).trans HC2.out.2
    have HC3 := Lib.hid (And.intro hc3 hr3)
    have HB3 := Lib.hid hb3
    have HROW3 := Lib.hid hrow'
    clear y0 y1 y2 y3 yf m0 m1 m2 m3 hgrow hrow' hb3 hr3
    have y3 : w'.cell? ⟨bx, 3, none⟩ = some (.slice (some ⟨b, off, none⟩) 2 y.cap) := by
     obtain ⟨-, -, -, h3, -⟩ := four_at hc3
     rw [h3, HLA.out.1, HLA.out.2]
    obtain ⟨y0, y1, y2, -, yf⟩ := four_at hc3
    clear hc3
    have HNX := Lib.hid (HI.out.next HB2.out HSZ.out.2.1 HSZ.out.2.2 HCT.out.symm HAB.out.1 HAB.out.2.1 HB3.out HROW3.out HC3.out.1 HC3.out.2)
    go_wp2_with fail
    go_roundg (gk - 1)
    case measure => exact (HNX.out).1
    case rel => exact ⟨_, _, _, _, Lib.hid HNX.out.2⟩
open Go.RowKit
set_option maxHeartbeats 1000000 in
theorem in_any (w : World) (c : UInt8) (l : List UInt8) (hl : (l.length : Int) ≤ 1000000) :
    Calls Tryz.prog 162 #[.int .u8 (c.toNat : Int), .string ⟨l.toArray⟩] w fun e w' => e = .returned (.bool (decide (c ∈ l))) ∧ w = w' := by
 go_enter Tryz.func162, Tryz.ntmps162
 go_wp2_with fail
 go_loop [5] (fun i => ∃ k : Nat, k ≤ l.length ∧ i = .int .i64 k ∧ Hid (c ∉ l.take k)) (fun i => l.length - (intOf i).toNat)
 case atStart => exact ⟨0, Nat.zero_le _, rfl, Lib.hid (by simp)⟩
 case round =>
  obtain ⟨k, hk, rfl, HN⟩ := hrel
  by_cases hlt : k < l.length
  ·obtain ⟨d, hd, hx, hg⟩ := byte_at l k hlt
   have HG := Lib.hid hg
   have hlt' : (k : Int) < (l.length : Int) := by omega
   clear hd hg
   by_cases hdc : d = c
   ·subst hdc
    have hm := Lib.hid (decide_eq_true (List.mem_of_getElem? HG.out))
    go_wp2_with fail
    go_ret
    exact ⟨by rw [hm.out]; rfl, rfl⟩
   ·have t := byte_ne hdc
    have HN2 : Hid (c ∉ l.take (k + 1)) := Lib.hid (by
     obtain ⟨h1, h2⟩ := List.getElem?_eq_some_iff.1 HG.out
     rw [List.take_succ_eq_append_getElem h1, List.mem_append, List.mem_singleton, h2]
     rintro (h | h)
     ·exact HN.out h
     ·exact hdc h.symm)
    clear HN hdc
    go_wp2_with fail
    go_round
    case rel => exact ⟨k + 1, hlt, by go_num, HN2⟩
    case measure => simp [intOf]; omega
  ·have hkn : k = l.length := by omega
   have hn := HN.out
   rw [hkn, List.take_length] at hn
   have hm := Lib.hid (decide_eq_false hn)
   clear hn
   go_wp2_with fail
   go_ret
   exact ⟨by rw [hm.out]; rfl, rfl⟩
theorem in5 (c : UInt8) : decide (c ∈ ([43, 45, 42, 47, 92, 94, 60, 62, 61, 126, 58, 46, 63, 64, 35, 38, 36] : List UInt8)) = decide (bsort c = 5) :=
 beq_iff_eq.1 (u8_all (fun c => decide (c ∈ ([43, 45, 42, 47, 92, 94, 60, 62, 61, 126, 58, 46, 63, 64, 35, 38, 36] : List UInt8)) == decide (bsort c = 5)) (by decide +kernel) c)
theorem in6 (c : UInt8) : decide (c ∈ ([33, 59] : List UInt8)) = decide (bsort c = 6) :=
 beq_iff_eq.1 (u8_all (fun c => decide (c ∈ ([33, 59] : List UInt8)) == decide (bsort c = 6)) (by decide +kernel) c)
theorem in7 (c : UInt8) : decide (c ∈ ([40, 41, 91, 93, 123, 125, 44, 124, 37] : List UInt8)) = decide (bsort c = 7) :=
 beq_iff_eq.1 (u8_all (fun c => decide (c ∈ ([40, 41, 91, 93, 123, 125, 44, 124, 37] : List UInt8)) == decide (bsort c = 7)) (by decide +kernel) c)
theorem in8 (c : UInt8) : decide (c ∈ ([39, 34, 96] : List UInt8)) = decide (bsort c = 8) :=
 beq_iff_eq.1 (u8_all (fun c => decide (c ∈ ([39, 34, 96] : List UInt8)) == decide (bsort c = 8)) (by decide +kernel) c)
def SortAt (c : UInt8) : Prop := ((9 ≤ c.toNat ∧ c.toNat ≤ 13) ∧ bsort c = 1) ∨ (c.toNat = 32 ∧ bsort c = 1) ∨ ((97 ≤ c.toNat ∧ c.toNat ≤ 122) ∧ bsort c = 2) ∨ ((65 ≤ c.toNat ∧ c.toNat ≤ 90) ∧ bsort c = 3) ∨ (c.toNat = 95 ∧ bsort c = 3) ∨ ((48 ≤ c.toNat ∧ c.toNat ≤ 57) ∧ bsort c = 4) ∨
    ((c.toNat < 9 ∨ (14 ≤ c.toNat ∧ c.toNat < 32) ∨ (33 ≤ c.toNat ∧ c.toNat < 48) ∨ (58 ≤ c.toNat ∧ c.toNat < 65) ∨ (91 ≤ c.toNat ∧ c.toNat < 95) ∨ c.toNat = 96 ∨ 123 ≤ c.toNat) ∧ (bsort c = 0 ∨ bsort c = 5 ∨ bsort c = 6 ∨ bsort c = 7 ∨ bsort c = 8))
instance (c : UInt8) : Decidable (SortAt c) := by unfold SortAt; infer_instance
theorem sort_where (c : UInt8) : SortAt c := of_decide_eq_true (u8_all (fun c => decide (SortAt c)) (by decide +kernel) c)
structure InAt (n : Nat) (k : Int) (w : World) : Prop where
 i5 : Calls Tryz.prog 162 #[.int .u8 (n : Int), .string ⟨#[43, 45, 42, 47, 92, 94, 60, 62, 61, 126, 58, 46, 63, 64, 35, 38, 36]⟩] w fun e w' => e = .returned (.bool (decide (k = 5))) ∧ w = w'
 i6 : Calls Tryz.prog 162 #[.int .u8 (n : Int), .string ⟨#[33, 59]⟩] w fun e w' => e = .returned (.bool (decide (k = 6))) ∧ w = w'
 i7 : Calls Tryz.prog 162 #[.int .u8 (n : Int), .string ⟨#[40, 41, 91, 93, 123, 125, 44, 124, 37]⟩] w fun e w' => e = .returned (.bool (decide (k = 7))) ∧ w = w'
 i8 : Calls Tryz.prog 162 #[.int .u8 (n : Int), .string ⟨#[39, 34, 96]⟩] w fun e w' => e = .returned (.bool (decide (k = 8))) ∧ w = w'
theorem inAt (w : World) (c : UInt8) : InAt c.toNat (bsort c) w := by
 have I5 := in_any w c [43, 45, 42, 47, 92, 94, 60, 62, 61, 126, 58, 46, 63, 64, 35, 38, 36] (by decide)
 have I6 := in_any w c [33, 59] (by decide)
 have I7 := in_any w c [40, 41, 91, 93, 123, 125, 44, 124, 37] (by decide)
 have I8 := in_any w c [39, 34, 96] (by decide)
 rw [in5] at I5
 rw [in6] at I6
 rw [in7] at I7
 rw [in8] at I8
 exact ⟨I5, I6, I7, I8⟩
set_option maxHeartbeats 8000000 in
theorem rsort_in (w : World) (n : Nat) (k : Int) (hs : k = 0 ∨ k = 5 ∨ k = 6 ∨ k = 7 ∨ k = 8) (J : Hid (InAt n k w)) (hr : n < 9 ∨ (14 ≤ n ∧ n < 32) ∨ (33 ≤ n ∧ n < 48) ∨ (58 ≤ n ∧ n < 65) ∨ (91 ≤ n ∧ n < 95) ∨ n = 96 ∨ 123 ≤ n) : Calls Tryz.prog 154 #[.int .u8 (n : Int)] w fun e w' => e = .returned (.int .i64 k) ∧ w = w' := by
 rcases hr with h0 | h0 | h0 | h0 | h0 | h0 | h0
 all_goals
  first | have t0 : decide (9 ≤ (n : Int)) = true := decide_eq_true (by omega) | have t0 : decide (9 ≤ (n : Int)) = false := decide_eq_false (by omega)
  first | have t1 : decide ((n : Int) ≤ 13) = true := decide_eq_true (by omega) | have t1 : decide ((n : Int) ≤ 13) = false := decide_eq_false (by omega)
  first | have t2 : ((n : Int) == 32) = true := beq_iff_eq.2 (by omega) | have t2 : ((n : Int) == 32) = false := beq_eq_false_iff_ne.2 (by omega)
  first | have t3 : decide (97 ≤ (n : Int)) = true := decide_eq_true (by omega) | have t3 : decide (97 ≤ (n : Int)) = false := decide_eq_false (by omega)
  first | have t4 : decide ((n : Int) ≤ 122) = true := decide_eq_true (by omega) | have t4 : decide ((n : Int) ≤ 122) = false := decide_eq_false (by omega)
  first | have t5 : decide (65 ≤ (n : Int)) = true := decide_eq_true (by omega) | have t5 : decide (65 ≤ (n : Int)) = false := decide_eq_false (by omega)
  first | have t6 : decide ((n : Int) ≤ 90) = true := decide_eq_true (by omega) | have t6 : decide ((n : Int) ≤ 90) = false := decide_eq_false (by omega)
  first | have t7 : ((n : Int) == 95) = true := beq_iff_eq.2 (by omega) | have t7 : ((n : Int) == 95) = false := beq_eq_false_iff_ne.2 (by omega)
  first | have t8 : decide (48 ≤ (n : Int)) = true := decide_eq_true (by omega) | have t8 : decide (48 ≤ (n : Int)) = false := decide_eq_false (by omega)
  first | have t9 : decide ((n : Int) ≤ 57) = true := decide_eq_true (by omega) | have t9 : decide ((n : Int) ≤ 57) = false := decide_eq_false (by omega)
  clear h0
  go_enter Tryz.func154, Tryz.ntmps154
  go_wp2_with fail
  refine J.out.i5.mono ?_
  rintro e w' ⟨rfl, rfl⟩
  by_cases e5 : k = 5
  ·subst e5
   go_wp2_with fail
   go_ret
   exact ⟨rfl, rfl⟩
  rw [decide_eq_false e5]
  go_wp2_with fail
  refine J.out.i6.mono ?_
  rintro e w' ⟨rfl, rfl⟩
  by_cases e6 : k = 6
  ·subst e6
   go_wp2_with fail
   go_ret
   exact ⟨rfl, rfl⟩
  rw [decide_eq_false e6]
  go_wp2_with fail
  refine J.out.i7.mono ?_
  rintro e w' ⟨rfl, rfl⟩
  by_cases e7 : k = 7
  ·subst e7
   go_wp2_with fail
   go_ret
   exact ⟨rfl, rfl⟩
  rw [decide_eq_false e7]
  go_wp2_with fail
  refine J.out.i8.mono ?_
  rintro e w' ⟨rfl, rfl⟩
  by_cases e8 : k = 8
  ·subst e8
   go_wp2_with fail
   go_ret
   exact ⟨rfl, rfl⟩
  rw [decide_eq_false e8]
  obtain rfl : k = 0 := by omega
  go_wp2_with fail
  go_ret
  exact ⟨rfl, rfl⟩
set_option maxHeartbeats 8000000 in
theorem rsort_out (w : World) (n : Nat) (k : Int) (hr : ((9 ≤ n ∧ n ≤ 13) ∧ k = 1) ∨ (n = 32 ∧ k = 1) ∨ ((97 ≤ n ∧ n ≤ 122) ∧ k = 2) ∨ ((65 ≤ n ∧ n ≤ 90) ∧ k = 3) ∨ (n = 95 ∧ k = 3) ∨ ((48 ≤ n ∧ n ≤ 57) ∧ k = 4)) : Calls Tryz.prog 154 #[.int .u8 (n : Int)] w fun e w' => e = .returned (.int .i64 k) ∧ w = w' := by
 rcases hr with ⟨h0, rfl⟩ | ⟨h0, rfl⟩ | ⟨h0, rfl⟩ | ⟨h0, rfl⟩ | ⟨h0, rfl⟩ | ⟨h0, rfl⟩
 all_goals
  first | have t0 : decide (9 ≤ (n : Int)) = true := decide_eq_true (by omega) | have t0 : decide (9 ≤ (n : Int)) = false := decide_eq_false (by omega)
  first | have t1 : decide ((n : Int) ≤ 13) = true := decide_eq_true (by omega) | have t1 : decide ((n : Int) ≤ 13) = false := decide_eq_false (by omega)
  first | have t2 : ((n : Int) == 32) = true := beq_iff_eq.2 (by omega) | have t2 : ((n : Int) == 32) = false := beq_eq_false_iff_ne.2 (by omega)
  first | have t3 : decide (97 ≤ (n : Int)) = true := decide_eq_true (by omega) | have t3 : decide (97 ≤ (n : Int)) = false := decide_eq_false (by omega)
  first | have t4 : decide ((n : Int) ≤ 122) = true := decide_eq_true (by omega) | have t4 : decide ((n : Int) ≤ 122) = false := decide_eq_false (by omega)
  first | have t5 : decide (65 ≤ (n : Int)) = true := decide_eq_true (by omega) | have t5 : decide (65 ≤ (n : Int)) = false := decide_eq_false (by omega)
  first | have t6 : decide ((n : Int) ≤ 90) = true := decide_eq_true (by omega) | have t6 : decide ((n : Int) ≤ 90) = false := decide_eq_false (by omega)
  first | have t7 : ((n : Int) == 95) = true := beq_iff_eq.2 (by omega) | have t7 : ((n : Int) == 95) = false := beq_eq_false_iff_ne.2 (by omega)
  first | have t8 : decide (48 ≤ (n : Int)) = true := decide_eq_true (by omega) | have t8 : decide (48 ≤ (n : Int)) = false := decide_eq_false (by omega)
  first | have t9 : decide ((n : Int) ≤ 57) = true := decide_eq_true (by omega) | have t9 : decide ((n : Int) ≤ 57) = false := decide_eq_false (by omega)
  clear h0
  go_enter Tryz.func154, Tryz.ntmps154
  go_wp2_with fail
  go_ret
  exact ⟨rfl, rfl⟩
theorem rsort_any (w : World) (c : UInt8) : Calls Tryz.prog 154 #[.int .u8 (c.toNat : Int)] w fun e w' => e = .returned (.int .i64 (bsort c)) ∧ w = w' := by
 have hw := sort_where c
 unfold SortAt at hw
 rcases hw with h | h | h | h | h | h | ⟨hr, hs⟩
 ·exact rsort_out w _ _ (.inl h)
 ·exact rsort_out w _ _ (.inr (.inl h))
 ·exact rsort_out w _ _ (.inr (.inr (.inl h)))
 ·exact rsort_out w _ _ (.inr (.inr (.inr (.inl h))))
 ·exact rsort_out w _ _ (.inr (.inr (.inr (.inr (.inl h)))))
 ·exact rsort_out w _ _ (.inr (.inr (.inr (.inr (.inr h)))))
 ·exact rsort_in w _ _ hs (Lib.hid (inAt w c)) hr
def okRest (k0 : Int) (c : UInt8) : Bool := if k0 = 2 then isWord c else if k0 = 5 then isSign c else true
set_option maxHeartbeats 2000000 in
theorem rplain_any (w : World) (l : List UInt8) (hl : (l.length : Int) ≤ 1000000) :
    Calls Tryz.prog 137 #[.string ⟨l.toArray⟩] w fun e w' => e = .returned (.bool (plainB l)) ∧ w = w' := by
 by_cases h1 : l = [91, 93] ∨ l = [33] ∨ l = [59] ∨ l = [123, 125]
 ·clear hl
  rcases h1 with rfl | rfl | rfl | rfl
  all_goals
   go_enter Tryz.func137, Tryz.ntmps137
   go_wp2_with fail
   go_ret
   exact ⟨rfl, rfl⟩
 by_cases h2 : l = [] ∨ l = [46]
 ·clear hl
  rcases h2 with rfl | rfl
  all_goals
   go_enter Tryz.func137, Tryz.ntmps137
   go_wp2_with fail
   go_ret
   exact ⟨rfl, rfl⟩
 simp only [not_or] at h1 h2
 have b1 : (l == [91, 93]) = false := beq_eq_false_iff_ne.2 h1.1
 have b2 : (l == [33]) = false := beq_eq_false_iff_ne.2 h1.2.1
 have b3 : (l == [59]) = false := beq_eq_false_iff_ne.2 h1.2.2.1
 have b4 : (l == [123, 125]) = false := beq_eq_false_iff_ne.2 h1.2.2.2
 have b5 : (l == []) = false := beq_eq_false_iff_ne.2 h2.1
 have b6 : (l == [46]) = false := beq_eq_false_iff_ne.2 h2.2
 have hpl : plainB l = (if bsort (l.headD 0) = 2 then l.all isWord else !(l.take 2 == [47, 42]) && l.all isSign) := by
  unfold plainB
  rw [if_neg (by simp [h2]), if_neg (by simp [h1])]
 have hpos : 0 < l.length := by
  rcases l with _ | ⟨a, r⟩
  ·exact absurd rfl h2.1
  ·simp
 obtain ⟨r, hr⟩ : ∃ r, r = plainB l := ⟨_, rfl⟩
 rw [← hr] at hpl ⊢
 have HPL := Lib.hid hpl
 clear hr h1 h2 hpl
 go_enter Tryz.func137, Tryz.ntmps137
 go_upto_region 3 with fail
 clear b1 b2 b3 b4
 obtain ⟨c, hd, hx, hg⟩ := byte_at l 0 hpos
 have hpos' : (0 : Int) < (l.length : Int) := by omega
 have hhead : l.headD 0 = c := by
  rcases l with _ | ⟨a, q⟩
  ·simp at hpos
  ·simpa using hg
 have HHD := Lib.hid hhead
 have HL0 := Lib.hid hg
 clear hd hg hhead
 have region3 : Hid (l.take 2 = [47, 42] ↔ ∃ d, 2 ≤ l.length ∧ c = 47 ∧ l[1]? = some d ∧ d = 42) := Lib.hid (by
  rcases l with _ | ⟨a, _ | ⟨b, q⟩⟩
  ·simp at hpos
  ·simp
  ·have : a = c := by simpa using HL0.out
   subst this
   simp)
 by_cases h4742 : ∃ d, 2 ≤ l.length ∧ c = 47 ∧ l[1]? = some d ∧ d = 42
 ·obtain ⟨d, h2, rfl, hg', rfl⟩ := h4742
  obtain ⟨d, hd', hx', hg2⟩ := byte_at l 1 (by omega)
  rw [hg'] at hg2
  injection hg2 with hg2
  subst hg2
  have h2' : (2 : Int) ≤ (l.length : Int) := by omega
  have h1' : (1 : Int) < (l.length : Int) := by omega
  have hr : r = false := by
   have := region3.out.2 ⟨42, h2, rfl, hg', rfl⟩
   rw [HPL.out, HHD.out, this]
   rfl
  subst hr
  clear hg' hd'
  go_wp2_with fail
  go_ret
  exact ⟨rfl, rfl⟩
 have HNT : Hid (r = if bsort c = 2 then l.all isWord else l.all isSign) := Lib.hid (by
  have h1 : ¬ l.take 2 = [47, 42] := fun e => h4742 (region3.out.1 e)
  have h2 : (l.take 2 == [47, 42]) = false := beq_eq_false_iff_ne.2 h1
  rw [HPL.out, HHD.out, h2]
  rfl)
 by_cases h47 : 2 ≤ l.length ∧ c = 47
 case' pos =>
  obtain ⟨h2, rfl⟩ := h47
  obtain ⟨d, hd', hx', hg'⟩ := byte_at l 1 (by omega)
  have h2' : (2 : Int) ≤ (l.length : Int) := by omega
  have h1' : (1 : Int) < (l.length : Int) := by omega
  have t1 : ((d.toNat : Int) == 42) = false := byte_ne (d := 42) fun e => h4742 ⟨d, h2, rfl, hg', e⟩
  clear hd' hg' h4742 region3 HPL
  go_upto_region 5 with fail
  clear t1 h1' h2' hx' h2 b5 b6
  obtain ⟨c, hc⟩ : ∃ c : UInt8, c = 47 := ⟨_, rfl⟩
  rw [← hc] at HNT HHD HL0 hx
  clear hc
 case' neg =>
  by_cases h2 : 2 ≤ l.length
  case' pos =>
   have h2' : (2 : Int) ≤ (l.length : Int) := by omega
   have t0 : ((c.toNat : Int) == 47) = false := byte_ne (d := 47) fun e => h47 ⟨h2, e⟩
   clear h47 h4742 region3 HPL
   go_upto_region 5 with fail
   clear t0 h2' h2 b5 b6
  case' neg =>
   have h2' : ¬ (2 : Int) ≤ (l.length : Int) := by omega
   clear h47 h4742 region3 HPL
   go_upto_region 5 with fail
   clear h2' h2 b5 b6
 all_goals
  go_wp2_with fail
  refine (rsort_any _ c).mono ?_
  rintro e w' ⟨rfl, rfl⟩
  obtain ⟨k0, hk0⟩ : ∃ k, k = bsort c := ⟨_, rfl⟩
  rw [← hk0] at HNT ⊢
  have HK0 := Lib.hid hk0
  clear hk0 hx
  go_wp2_with fail
  go_loop [4] (fun i => ∃ k : Nat, k ≤ l.length ∧ i = .int .i64 k ∧ Hid (∀ c' ∈ l.take k, okRest k0 c' = true)) (fun i => l.length - (intOf i).toNat)
  case atStart => exact ⟨0, Nat.zero_le _, rfl, Lib.hid (by simp)⟩
  case round =>
   obtain ⟨k, hk, rfl, HN⟩ := hrel
   by_cases hlt : k < l.length
   ·obtain ⟨d, hd, hx, hg⟩ := byte_at l k hlt
    have hlt' : (k : Int) < (l.length : Int) := by omega
    have HG := Lib.hid hg
    have hw1 : IntKind.i64.wrap ((k : Int) + 1) = (k : Int) + 1 := IntWalk.i64_in _ (by omega)
    have hmem : d ∈ l := List.mem_of_getElem? hg
    have HM := Lib.hid hmem
    have HN2 : Hid (okRest k0 d = true → ∀ c' ∈ l.take (k + 1), okRest k0 c' = true) := Lib.hid (by
     obtain ⟨h1, h2⟩ := List.getElem?_eq_some_iff.1 hg
     intro hok c' hc'
     rw [List.take_succ_eq_append_getElem h1, List.mem_append, List.mem_singleton, h2] at hc'
     rcases hc' with h | h
     ·exact HN.out c' h
     ·rw [h]; exact hok)
    clear hd hg hmem
    go_wp2_with fail
    refine (rsort_any _ d).mono ?_
    rintro e w' ⟨rfl, rfl⟩
    obtain ⟨k1, hk1⟩ : ∃ k, k = bsort d := ⟨_, rfl⟩
    rw [← hk1]
    have HK1 := Lib.hid hk1
    clear hk1 hx
    by_cases e2 : k0 = 2
    ·subst e2
     by_cases ew : k1 = 2 ∨ k1 = 3 ∨ k1 = 4
     ·have hok := HN2.out (by unfold okRest isWord; rw [if_pos rfl, ← HK1.out]; exact decide_eq_true ew)
      have HN3 := Lib.hid hok
      clear HN HN2 hok HK1
      rcases ew with rfl | rfl | rfl
      all_goals
       go_wp2_with fail
       go_round
       case rel => exact ⟨k + 1, hlt, rfl, HN3⟩
       case measure => simp [intOf]; omega
     ·have n2 : (k1 != 2) = true := by simp; omega
      have n3 : (k1 != 3) = true := by simp; omega
      have n4 : (k1 != 4) = true := by simp; omega
      have m2 : (k1 == 2) = false := by simp; omega
      have m3 : (k1 == 3) = false := by simp; omega
      have m4 : (k1 == 4) = false := by simp; omega
      have hr : r = false := by
       rw [HNT.out, if_pos rfl]
       cases ha : l.all isWord with
       | false => rfl
       | true =>
        have := List.all_eq_true.1 ha d HM.out
        unfold isWord at this
        rw [← HK1.out] at this
        exact absurd (of_decide_eq_true this) ew
      subst hr
      clear ew HN HN2 HK1
      go_wp2_with fail
      go_ret
      exact ⟨rfl, rfl⟩
    ·have f2 : (k0 == 2) = false := beq_eq_false_iff_ne.2 e2
     have f2' : (k0 != 2) = true := by simp; omega
     by_cases e5 : k0 = 5
     ·subst e5
      by_cases es : k1 = 5
      ·have hok := HN2.out (by unfold okRest isSign; rw [if_neg (by decide), if_pos rfl, ← HK1.out]; exact decide_eq_true es)
       have HN3 := Lib.hid hok
       clear HN HN2 hok HK1 e2
       subst es
       go_wp2_with fail
       go_round
       case rel => exact ⟨k + 1, hlt, rfl, HN3⟩
       case measure => simp [intOf]; omega
      ·have n5 : (k1 != 5) = true := by simp; omega
       have m5 : (k1 == 5) = false := by simp; omega
       have hr : r = false := by
        rw [HNT.out, if_neg e2]
        cases ha : l.all isSign with
        | false => rfl
        | true =>
         have := List.all_eq_true.1 ha d HM.out
         unfold isSign at this
         rw [← HK1.out] at this
         exact absurd (of_decide_eq_true this) es
       subst hr
       clear es HN HN2 HK1 e2
       go_wp2_with fail
       go_ret
       exact ⟨rfl, rfl⟩
     ·have f5 : (k0 == 5) = false := beq_eq_false_iff_ne.2 e5
      have hok := HN2.out (by unfold okRest; rw [if_neg e2, if_neg e5])
      have HN3 := Lib.hid hok
      clear HN HN2 hok HK1 e2 e5
      go_wp2_with fail
      go_round
      case rel => exact ⟨k + 1, hlt, rfl, HN3⟩
      case measure => simp [intOf]; omega
   ·have hkn : k = l.length := by omega
    have hn := HN.out
    rw [hkn, List.take_length] at hn
    have hlt' : ¬ (k : Int) < (l.length : Int) := by omega
    have hc : c ∈ l := List.mem_of_getElem? HL0.out
    by_cases e2 : k0 = 2
    ·have hr : r = true := by
      rw [HNT.out, if_pos e2]
      refine List.all_eq_true.2 fun x hx => ?_
      have := hn x hx
      unfold okRest at this
      rwa [if_pos e2] at this
     subst hr e2
     clear hn HN hc
     go_wp2_with fail
     go_ret
     exact ⟨rfl, rfl⟩
    ·have f2 : (k0 == 2) = false := beq_eq_false_iff_ne.2 e2
     by_cases e5 : k0 = 5
     ·have hr : r = true := by
       rw [HNT.out, if_neg e2]
       refine List.all_eq_true.2 fun x hx => ?_
       have := hn x hx
       unfold okRest at this
       rwa [if_neg e2, if_pos e5] at this
      subst hr e5
      clear hn HN hc e2
      go_wp2_with fail
      go_ret
      exact ⟨rfl, rfl⟩
     ·have f5 : (k0 == 5) = false := beq_eq_false_iff_ne.2 e5
      have hr : r = false := by
       rw [HNT.out, if_neg e2]
       cases ha : l.all isSign with
       | false => rfl
       | true =>
        have := List.all_eq_true.1 ha c hc
        unfold isSign at this
        rw [← HK0.out] at this
        exact absurd (of_decide_eq_true this) e5
      subst hr
      clear hn HN hc e2 e5
      go_wp2_with fail
      go_ret
      exact ⟨rfl, rfl⟩
theorem PutSt.grw {w1 u u' : World} {v v' : Value} {acc ys : List UInt8} (h : PutSt w1 v acc u) (hr : Row u' w1.heap.size 5 1 encBy v' (acc ++ ys)) (hg : u.grownBy u' v.ownBlock) : PutSt w1 v' (acc ++ ys) u' := by
 refine ⟨hr, ?_⟩
 have hF : Fr (fun k => w1.heap.size ≤ k) w1 u' := (Fr.of_below _ h.below).grown hg fun g e => .inl (h.row.lt g e).1
 exact hF.below (Nat.le_refl _) fun k hk => by omega
set_option maxHeartbeats 4000000 in
theorem rhex_small (w : World) (n : Nat) (h : n < 16) : Calls Tryz.prog 138 #[.int .i64 (n : Int)] w fun e w' => e = .returned (.string ⟨#[hexDigit n]⟩) ∧ w = w' := by
 have hn : n = 0 ∨ n = 1 ∨ n = 2 ∨ n = 3 ∨ n = 4 ∨ n = 5 ∨ n = 6 ∨ n = 7 ∨ n = 8 ∨ n = 9 ∨ n = 10 ∨ n = 11 ∨ n = 12 ∨ n = 13 ∨ n = 14 ∨ n = 15 := by omega
 clear h
 rcases hn with rfl | rfl | rfl | rfl | rfl | rfl | rfl | rfl | rfl | rfl | rfl | rfl | rfl | rfl | rfl | rfl
 all_goals
  go_enter Tryz.func138, Tryz.ntmps138
  go_wp2_with fail
  go_ret
  exact ⟨rfl, rfl⟩
set_option maxHeartbeats 4000000 in
theorem rhex_any (w : World) (c : UInt8) (h : c < 32 ∨ c = 127) : Calls Tryz.prog 138 #[.int .i64 (c.toNat : Int)] w fun e w' => e = .returned (.string ⟨(hexOf c).toArray⟩) ∧ w = w' := by
 by_cases h16 : c.toNat < 16
 ·have := rhex_small w c.toNat h16
  unfold hexOf
  rw [if_pos h16]
  exact this
 ·have hc : ∃ n : Nat, c = UInt8.ofNat n ∧ (n = 16 ∨ n = 17 ∨ n = 18 ∨ n = 19 ∨ n = 20 ∨ n = 21 ∨ n = 22 ∨ n = 23 ∨ n = 24 ∨ n = 25 ∨ n = 26 ∨ n = 27 ∨ n = 28 ∨ n = 29 ∨ n = 30 ∨ n = 31 ∨ n = 127) := by
   refine ⟨c.toNat, by simp, ?_⟩
   rcases h with h | h
   ·rw [UInt8.lt_iff_toNat_lt] at h
    have : (32 : UInt8).toNat = 32 := rfl
    omega
   ·rw [h]; decide
  obtain ⟨n, rfl, hn⟩ := hc
  clear h h16
  have S (z : Int) (h0 : 0 ≤ z) (h1 : z < 16) : Calls Tryz.prog 138 #[.int .i64 z] w fun e w' => e = .returned (.string ⟨#[hexDigit z.toNat]⟩) ∧ w = w' := by
   have h2 := rhex_small w z.toNat (by omega)
   rwa [Int.toNat_of_nonneg h0] at h2
  rcases hn with rfl | rfl | rfl | rfl | rfl | rfl | rfl | rfl | rfl | rfl | rfl | rfl | rfl | rfl | rfl | rfl | rfl
  all_goals
   go_enter Tryz.func138, Tryz.ntmps138
   go_wp2_with fail
   refine (S _ (by decide) (by decide)).mono ?_
   rintro e w' ⟨rfl, rfl⟩
   go_wp2_with fail
   refine (S _ (by decide) (by decide)).mono ?_
   rintro e w' ⟨rfl, rfl⟩
   go_wp2_with fail
   go_ret
   exact ⟨rfl, rfl⟩
set_option maxHeartbeats 8000000 in
theorem rput2_any (w : World) (l : List UInt8) (hl : (l.length : Int) ≤ 100000) :
    Calls Tryz.prog 113 #[.string ⟨l.toArray⟩] w fun e w' => e = .returned (.string ⟨(putB l).toArray⟩) ∧ Below w.heap.size w w' := by
 obtain ⟨ti, tz, hti, htz, hsi, hby, hzs⟩ := byte_info
 obtain ⟨i0, hi0, hz0, hz1, hz2⟩ := wb_info
 go_enter Tryz.func113, Tryz.ntmps113
 go_wp2_with fail
 refine (rplain_any w l (by omega)).mono ?_
 rintro e w' ⟨rfl, rfl⟩
 by_cases hp : plainB l = true
 ·rw [hp]
  have HP := Lib.hid (show putB l = l by unfold putB; rw [if_pos hp])
  clear hp
  go_wp2_with fail
  go_ret
  exact ⟨by rw [HP.out]; rfl, Below.refl _ _⟩
 rw [Bool.not_eq_true] at hp
 rw [hp]
 have HP := Lib.hid (put_quote hp)
 clear hp
 have HS2 : Hid (PutSt w (.slice none 0 0) [] w) := Lib.hid ⟨Row.nil _ _ _ _ _, Below.refl _ _⟩
 go_wp2_with (at_builtin; refine wpList_rows rfl _ _ 72 rfl _ w.heap.size 5 ti tz 1 1 encBy Tryz.underlying72 hti htz hsi hby hzs (by decide) encB_len encBy_one _ [] [39] rfl (HS2.out.row.alloc _) _ 0 1 rfl (one_cell _ _ 39 _ rfl) (by unfold maxLen; simp) (by simp) (by simp) ?_)
 intro v3 w3 hr3 hg3
 have HS3 := Lib.hid (HS2.out.app hr3 hg3)
 clear hr3 hg3 HS2
 go_wp2_with fail
 go_loopw [3, 4] (fun v i wr => ∃ k : Nat, k ≤ l.length ∧ i = .int .i64 k ∧ Hid (PutSt w v (39 :: (l.take k).flatMap escB) wr)) (fun _ i _ => l.length - (intOf i).toNat)
 case atStart => exact ⟨0, Nat.zero_le _, rfl, Lib.hid (by simpa using HS3.out)⟩
 case round =>
  obtain ⟨k, hk, rfl, HS⟩ := hrel
  clear HS3
  have hel := escs_len (l.take k)
  rw [List.length_take] at hel
  by_cases hlt : k < l.length
  ·obtain ⟨c, hd, hx, hg⟩ := byte_at l k hlt
   have hlt' : (k : Int) < (l.length : Int) := by omega
   have he : 39 :: (l.take (k + 1)).flatMap escB = (39 :: (l.take k).flatMap escB) ++ escB c := by rw [escs_step hg]; rfl
   have HE0 := Lib.hid he
   clear hd hg he
   by_cases e39 : c = 39
   ·subst e39
    have HE := Lib.hid (HE0.out.trans (show _ = (39 :: (l.take k).flatMap escB) ++ [92, 39] from rfl))
    clear HE0
    go_wp2_with (at_builtin; refine wpList_rows rfl _ _ 72 rfl _ w.heap.size 5 ti tz 1 1 encBy Tryz.underlying72 hti htz hsi hby hzs (by decide) encB_len encBy_one _ (39 :: (l.take k).flatMap escB) [92, 39] rfl (HS.out.row.alloc _) _ 0 2 rfl (two_cells _ _ 92 39 _ _ rfl rfl) (by unfold maxLen; simp only [List.length_cons, List.length_nil]; omega) (by simp only [List.length_cons, List.length_nil]; omega) (Nat.le_trans HS.out.size (by simp)) ?_)
    intro v4 w4 hr4 hg4
    have HS4 := Lib.hid (HS.out.app hr4 hg4)
    clear hr4 hg4 HS
    go_wp2_with fail
    go_roundw
    case rel => exact ⟨k + 1, hlt, by go_num, Lib.hid (by rw [HE.out]; exact HS4.out)⟩
    case measure => simp [intOf]; omega
   by_cases e92 : c = 92
   ·subst e92
    have HE := Lib.hid (HE0.out.trans (show _ = (39 :: (l.take k).flatMap escB) ++ [92, 92] from rfl))
    clear HE0
    go_wp2_with (at_builtin; refine wpList_rows rfl _ _ 72 rfl _ w.heap.size 5 ti tz 1 1 encBy Tryz.underlying72 hti htz hsi hby hzs (by decide) encB_len encBy_one _ (39 :: (l.take k).flatMap escB) [92, 92] rfl (HS.out.row.alloc _) _ 0 2 rfl (two_cells _ _ 92 92 _ _ rfl rfl) (by unfold maxLen; simp only [List.length_cons, List.length_nil]; omega) (by simp only [List.length_cons, List.length_nil]; omega) (Nat.le_trans HS.out.size (by simp)) ?_)
    intro v4 w4 hr4 hg4
    have HS4 := Lib.hid (HS.out.app hr4 hg4)
    clear hr4 hg4 HS
    go_wp2_with fail
    go_roundw
    case rel => exact ⟨k + 1, hlt, by go_num, Lib.hid (by rw [HE.out]; exact HS4.out)⟩
    case measure => simp [intOf]; omega
   by_cases e10 : c = 10
   ·subst e10
    have HE := Lib.hid (HE0.out.trans (show _ = (39 :: (l.take k).flatMap escB) ++ [92, 110] from rfl))
    clear HE0
    go_wp2_with (at_builtin; refine wpList_rows rfl _ _ 72 rfl _ w.heap.size 5 ti tz 1 1 encBy Tryz.underlying72 hti htz hsi hby hzs (by decide) encB_len encBy_one _ (39 :: (l.take k).flatMap escB) [92, 110] rfl (HS.out.row.alloc _) _ 0 2 rfl (two_cells _ _ 92 110 _ _ rfl rfl) (by unfold maxLen; simp only [List.length_cons, List.length_nil]; omega) (by simp only [List.length_cons, List.length_nil]; omega) (Nat.le_trans HS.out.size (by simp)) ?_)
    intro v4 w4 hr4 hg4
    have HS4 := Lib.hid (HS.out.app hr4 hg4)
    clear hr4 hg4 HS
    go_wp2_with fail
    go_roundw
    case rel => exact ⟨k + 1, hlt, by go_num, Lib.hid (by rw [HE.out]; exact HS4.out)⟩
    case measure => simp [intOf]; omega
   by_cases e9 : c = 9
   ·subst e9
    have HE := Lib.hid (HE0.out.trans (show _ = (39 :: (l.take k).flatMap escB) ++ [92, 116] from rfl))
    clear HE0
    go_wp2_with (at_builtin; refine wpList_rows rfl _ _ 72 rfl _ w.heap.size 5 ti tz 1 1 encBy Tryz.underlying72 hti htz hsi hby hzs (by decide) encB_len encBy_one _ (39 :: (l.take k).flatMap escB) [92, 116] rfl (HS.out.row.alloc _) _ 0 2 rfl (two_cells _ _ 92 116 _ _ rfl rfl) (by unfold maxLen; simp only [List.length_cons, List.length_nil]; omega) (by simp only [List.length_cons, List.length_nil]; omega) (Nat.le_trans HS.out.size (by simp)) ?_)
    intro v4 w4 hr4 hg4
    have HS4 := Lib.hid (HS.out.app hr4 hg4)
    clear hr4 hg4 HS
    go_wp2_with fail
    go_roundw
    case rel => exact ⟨k + 1, hlt, by go_num, Lib.hid (by rw [HE.out]; exact HS4.out)⟩
    case measure => simp [intOf]; omega
   have t39 : ((c.toNat : Int) == 39) = false := byte_ne e39
   have t92 : ((c.toNat : Int) == 92) = false := byte_ne e92
   have t10 : ((c.toNat : Int) == 10) = false := byte_ne e10
   have t9 : ((c.toNat : Int) == 9) = false := byte_ne e9
   by_cases hs : c < 32 ∨ c = 127
   ·have HE := Lib.hid (HE0.out.trans (show _ = (39 :: (l.take k).flatMap escB) ++ ([92, 120] ++ hexOf c ++ [92]) by unfold escB; rw [if_neg (by simp [e39, e92]), if_neg e10, if_neg e9, if_pos hs]))
    clear HE0 e39 e92 e10 e9
    have hxl : (hexOf c).length ≤ 2 := by unfold hexOf; split <;> simp
    have HS' : c < 32 ∨ c = 127 := hs
    rcases HS' with h32 | h127
    case' inl =>
     have h2 : (c.toNat : Int) < 32 := by
      rw [UInt8.lt_iff_toNat_lt] at h32
      have h : (32 : UInt8).toNat = 32 := rfl
      omega
     clear h32
    case' inr =>
     have h3 : 32 ≤ (c.toNat : Int) := by rw [h127]; decide
     have h2 : ((c.toNat : Int) == 127) = true := by rw [h127]; rfl
     clear h127
    all_goals
     have hcb : (c.toNat : Int) < 256 := by have := c.toNat_lt; omega
     have hs2 := hs
     obtain ⟨ac, hac⟩ : ∃ ac, ac = (39 :: (l.take k).flatMap escB) ++ [92, 120] := ⟨_, rfl⟩
     have HAC := Lib.hid hac
     clear hac
     have HXL : Hid (ac.length + (hexOf c).length ≤ 1000000) := Lib.hid (by rw [HAC.out]; simp only [List.length_append, List.length_cons, List.length_nil]; omega)
     clear hs
     go_wp2_with (at_builtin; refine wpList_rows rfl _ _ 72 rfl _ w.heap.size 5 ti tz 1 1 encBy Tryz.underlying72 hti htz hsi hby hzs (by decide) encB_len encBy_one _ (39 :: (l.take k).flatMap escB) [92, 120] rfl (HS.out.row.alloc _) _ 0 2 rfl (two_cells _ _ 92 120 _ _ rfl rfl) (by unfold maxLen; simp only [List.length_cons, List.length_nil]; omega) (by simp only [List.length_cons, List.length_nil]; omega) (Nat.le_trans HS.out.size (by simp)) ?_)
     intro v4 w4 hr4 hg4
     have HS4 := Lib.hid (HS.out.app hr4 hg4)
     clear hr4 hg4 HS
     go_wp2_with fail
     rw [← HAC.out] at HS4
     refine (rhex_any w4 c hs2).mono ?_
     rintro e w' ⟨rfl, rfl⟩
     go_wp2_with (at_builtin; refine Lib.wpList_append_own_string _ rfl _ _ 72 9 rfl w.heap.size 5 i0 Tryz.underlying72 Tryz.underlying9 hi0 hz0 hz1 hz2 _ _ _ rfl HS4.out.row.own ⟨(hexOf c).toArray⟩ rfl ?c3 ?c4 ?c5 ?_)
     case c3 => have := HXL.out; unfold maxLen; simp [ByteArray.size] at this ⊢; omega
     case c4 => have := HXL.out; simp [ByteArray.size] at this ⊢; omega
     case c5 => exact HS4.out.size
     intro v5 w5 hown' hgrow _
     rw [strCells_enc, ← List.flatMap_append, ← List.length_append] at hown'
     have HS5 : Hid (PutSt w v5 ((39 :: (l.take k).flatMap escB) ++ [92, 120] ++ hexOf c) w5) := Lib.hid (by rw [← HAC.out]; exact HS4.out.grw (ys := hexOf c) ⟨hown'⟩ hgrow)
     clear hown' hgrow HS4
     go_wp2_with (at_builtin; refine wpList_rows rfl _ _ 72 rfl _ w.heap.size 5 ti tz 1 1 encBy Tryz.underlying72 hti htz hsi hby hzs (by decide) encB_len encBy_one _ ((39 :: (l.take k).flatMap escB) ++ [92, 120] ++ hexOf c) [92] rfl (HS5.out.row.alloc _) _ 0 1 rfl (one_cell _ _ 92 _ rfl) (by unfold maxLen; simp only [List.length_append, List.length_cons, List.length_nil]; omega) (by simp only [List.length_append, List.length_cons, List.length_nil]; omega) (Nat.le_trans HS5.out.size (by simp)) ?_)
     intro v6 w6 hr6 hg6
     have HS6 := Lib.hid (HS5.out.app (ys := [92]) (by simpa using hr6) hg6)
     clear hr6 hg6 HS5
     go_wp2_with fail
     go_roundw
     case rel => exact ⟨k + 1, hlt, by go_num, Lib.hid (by rw [HE.out]; simpa using HS6.out)⟩
     case measure => simp [intOf]; omega
   ·have HE := Lib.hid (HE0.out.trans (show _ = (39 :: (l.take k).flatMap escB) ++ [c] by unfold escB; rw [if_neg (by simp [e39, e92]), if_neg e10, if_neg e9, if_neg hs]))
    simp only [not_or] at hs
    have t127 : ((c.toNat : Int) == 127) = false := byte_ne hs.2
    have h32 : 32 ≤ (c.toNat : Int) := by
     have := hs.1
     rw [UInt8.lt_iff_toNat_lt] at this
     have h : (32 : UInt8).toNat = 32 := rfl
     omega
    clear HE0 e39 e92 e10 e9 hs
    go_wp2_with (at_builtin; refine wpList_rows rfl _ _ 72 rfl _ w.heap.size 5 ti tz 1 1 encBy Tryz.underlying72 hti htz hsi hby hzs (by decide) encB_len encBy_one _ (39 :: (l.take k).flatMap escB) [c] rfl (HS.out.row.alloc _) _ 0 1 rfl (one_cell _ _ c _ rfl) (by unfold maxLen; simp only [List.length_cons, List.length_nil]; omega) (by simp only [List.length_cons, List.length_nil]; omega) (Nat.le_trans HS.out.size (by simp)) ?_)
    intro v4 w4 hr4 hg4
    have HS4 := Lib.hid (HS.out.app hr4 hg4)
    clear hr4 hg4 HS
    go_wp2_with fail
    go_roundw
    case rel => exact ⟨k + 1, hlt, by go_num, Lib.hid (by rw [HE.out]; exact HS4.out)⟩
    case measure => simp [intOf]; omega
  ·have hkn : k = l.length := by omega
   subst hkn
   rw [List.take_length] at HS hel
   have hi : l.length ≤ 100000 := by omega
   go_wp2_with (at_builtin; refine wpList_rows rfl _ _ 72 rfl _ w.heap.size 5 ti tz 1 1 encBy Tryz.underlying72 hti htz hsi hby hzs (by decide) encB_len encBy_one _ (39 :: l.flatMap escB) [39] rfl (HS.out.row.alloc _) _ 0 1 rfl (one_cell _ _ 39 _ rfl) (by unfold maxLen; simp only [List.length_cons, List.length_nil]; omega) (by simp only [List.length_cons, List.length_nil]; omega) (Nat.le_trans HS.out.size (by simp)) ?_)
   intro v4 w4 hr4 hg4
   have HS4 := Lib.hid (HS.out.app hr4 hg4)
   clear hr4 hg4 HS
   have hst := HS4.out.row.string (P := Tryz.prog) (dst := 9) Tryz.underlying72 Tryz.underlying5 Tryz.underlying9
   go_wp2_with fail
   go_ret
   exact ⟨by rw [HP.out]; rfl, HS4.out.below⟩
end Go.Proofs.YtcallkljcjimiaaGreatDoor
