import Derived.Test.YtjdnigepnfeboaaGreatDoorJG08
import Derived.Test.YtjdnigepnfeboaaGreatDoorJG19
import Derived.Test.YtjdnigepnfeboaaGreatDoorJG11
namespace Go.Proofs.YtjdnigepnfeboaaGreatDoor
open Go.RowKit Go.Maps
open Go.MapKept (Stamped)
set_option maxRecDepth 100000
mutual
theorem deep_size : ∀ t : Tm, t.deep ≤ t.size
 | .mk k n s l => by
  have := deeps_sizes l
  simp only [Tm.deep, Tm.size]
  omega
theorem deeps_sizes : ∀ l : List Tm, Tm.deeps l ≤ Tm.sizes l
 | [] => Nat.le_refl _
 | t :: r => by
  have h1 := deep_size t
  have h2 := deeps_sizes r
  simp only [Tm.deeps, Tm.sizes]
  omega
end
variable [Base]
set_option linter.unusedSectionVars false
omit [Base] in
theorem MapAt.clear {P : Program} {w : World} {κ ν : Type} {ek : κ → Value} {ev : ν → Value} {l : List (κ × ν)} {b : Nat} {t kt et ty : TypeId} (ht : P.underlying t = some (.map kt et)) (h : MapAt w b ek ev l) :
    ∃ w', (Builtin.clear_ #[t] ty #[.map (some b)]).run P w = .ok (.tuple #[]) w' ∧ MapAt w' b ek ev ([] : List (κ × ν)) ∧ w.grownBy w' (some b) ∧ w'.heap.size = w.heap.size := by
 obtain ⟨es, clock, hb, hl, hs⟩ := h.blk
 have hg := MapKept.run_getObj_map (P := P) hb
 refine ⟨{ w with heap := w.heap.setIfInBounds b (.map #[] clock) }, ?_, ⟨⟨#[], clock, by simp [h.lt], rfl, ?_⟩, List.nodup_nil⟩, grownBy_setObj _ _ _, by simp⟩
 ·simp [Builtin.clear_, run_underlying ht, hg, MapKept.run_setObj_map _ hb, Result.andThen]
 ·exact MapKept.stamped_empty clock
section
variable {sb room : Nat} {u u' : World} {cv bv : Value} {xs : List ScM} {cs : List Sc} {ys : List (Nat × Int)}
theorem StAt.top' {g cap : Nat} (h : StAt sb room u (.slice (some ⟨g, 0, none⟩) cs.length cap) bv xs cs ys) {i : Nat} {x : ScM} (hx : xs[i]? = some x) (tv : Int) (ht : -1 ≤ tv ∧ tv ≤ 100000000) :
    StAt sb room (u.setCell ⟨g, i * 6 + 5, none⟩ (.int .i64 tv)) (.slice (some ⟨g, 0, none⟩) cs.length cap) bv (xs.set i { x with top := tv }) cs ys := by
 have hg : TyB u 366 g := h.row.ty rfl
 have hk : ∀ {b t'}, TyB u t' b → t' ≠ 366 → (u.setCell ⟨g, i * 6 + 5, none⟩ (.int .i64 tv)).heap[b]? = u.heap[b]? := fun hb hn => Below.heap_setCell _ _ _ _ (hb.ne hg hn)
 refine ⟨(hk ⟨_, h.blk⟩ (by decide)).trans h.blk, h.row.put encM_len hx (by decide) rfl, h.bonds.keep fun k hk' => hk (h.bonds.ty hk') (by decide), by rw [List.length_set]; exact h.len, fun j y d hy hd => ?_, h.few, h.room, h.flw, h.args, h.ar, h.bnd, h.many⟩
 by_cases e : j = i
 ·subst e
  rw [List.getElem?_set_self (List.getElem?_eq_some_iff.1 hx).1] at hy
  injection hy with hy
  subst hy
  have ho := h.ok j x d hx hd
  exact ⟨ho.k, ho.n, ho.s, ho.to, ho.m, ho.args.keep fun b hb => hk hb (by decide), ho.short, ht⟩
 ·rw [List.getElem?_set_ne (Ne.symm e)] at hy
  have ho := h.ok j y d hy hd
  exact ⟨ho.k, ho.n, ho.s, ho.to, ho.m, ho.args.keep fun b hb => hk hb (by decide), ho.short, ho.top⟩
end
omit [Base] in
theorem mget_perm {l m : List (Int × Int)} (h : l.Perm m) (hl : (l.map (·.1)).Nodup) (n : Int) : mget l n = mget m n := by
 have hm : (m.map (·.1)).Nodup := (h.map _).nodup_iff.1 hl
 cases e : mget m n with
 | some v => exact mget_some_of hl (h.mem_iff.2 (mget_mem e))
 | none => exact mget_none fun x hx => mget_eq_none e x (h.mem_iff.1 hx)
omit [Base] in
theorem erase_permP {l : List (Int × Int)} {j : Nat} {x : Int × Int} (h : l[j]? = some x) : (x :: l.eraseIdx j).Perm l := by
 induction l generalizing j with
 | nil => simp at h
 | cons a r ih =>
  obtain _ | j := j
  ·injection h with h
   subst h
   exact List.Perm.refl _
  ·exact (List.Perm.swap a x _).trans ((ih h).cons a)
structure TellAt (vb fb r : Nat) (l : List (Int × Int)) (done left : List (Int × Int)) (wr : World) : Prop where
 it : RangeAt wr r fb ev6 ev6 l left
 vars : M6 wr vb done
 perm : (done ++ left).Perm l
 ne : vb ≠ fb ∧ vb ≠ r
omit [Base] in
theorem TellAt.step {vb fb r : Nat} {l done left : List (Int × Int)} {wr wn : World} (h : TellAt vb fb r l done left wr) (hl : (l.map (·.1)).Nodup) (hok : ∀ x ∈ l, ok6 x.1) {j : Nat} {x : Int × Int} (hit : RangeAt wn r fb ev6 ev6 l (left.eraseIdx j)) (hg : wr.grownBy wn (some r)) (hj : left[j]? = some x) :
    ∃ w9, (Instr.mapUpdate 104 (.map (some vb)) (.int .i64 x.1) (.int .i64 x.2)).run Tryz.prog wn = .ok () w9 ∧ TellAt vb fb r l (done ++ [x]) (left.eraseIdx j) w9 ∧ wn.grownBy w9 (some vb) := by
 have hmem := List.mem_of_getElem? hj
 have hx : x ∈ l := h.perm.mem_iff.1 (List.mem_append_right _ hmem)
 have hv : M6 wn vb done := h.vars.keep (hg.block _ h.vars.lt fun e => h.ne.2 (Option.some.inj e))
 obtain ⟨w9, h1, h2, h3, -⟩ := hv.put x.1 (hok x hx) x.2
 have hnew : ∀ y ∈ done, y.1 ≠ x.1 := fun y hy e => by
  have hnd : ((done ++ left).map (·.1)).Nodup := (h.perm.map _).nodup_iff.2 hl
  rw [List.map_append, List.nodup_append] at hnd
  exact hnd.2.2 _ (List.mem_map_of_mem hy) _ (List.mem_map_of_mem hmem) e
 have hp : mput done x.1 x.2 = done ++ [x] := by
  unfold mput
  rw [mget_none hnew]
  rfl
 rw [hp] at h2
 refine ⟨w9, h1, ⟨hit.keep (h3.block _ hit.lt.1 fun e => h.ne.1 (Option.some.inj e).symm) (h3.block _ hit.lt.2 fun e => h.ne.2 (Option.some.inj e).symm), h2, ?_, h.ne⟩, h3⟩
 rw [List.append_assoc]
 exact (List.Perm.append_left done (erase_permP hj)).trans h.perm
omit [Base] in
theorem Fr.past {S S' : Nat → Prop} {u w w' : World} (h : Fr S u w) (k : Fr S' w w') (hS : ∀ j, S' j → u.heap.size ≤ j) : Fr S u w' :=
 ⟨k.os.trans h.os, k.tape.trans h.tape, k.output.trans h.output, Nat.le_trans h.size k.size, fun i hi hn => (k.block i (Nat.lt_of_lt_of_le hi h.size) fun e => by have := hS i e; omega).trans (h.block i hi hn)⟩
def PutAll (sb vb room : Nat) (u : World) (bv : Value) (cs : List Sc) (ys : List (Nat × Int)) (t : Tm) (e : Ending) (u' : World) : Prop :=
 e = .returned (.tuple #[.int .i64 ((putT t ⟨cs, []⟩).1 : Nat), .int .i64 0]) ∧ (∃ cv' xs', StAt sb room u' cv' bv xs' (putT t ⟨cs, []⟩).2.cs ys) ∧ (∃ l, M6 u' vb l ∧ ∀ n, mget l n = mget (frI (putT t ⟨cs, []⟩).2.fr) n) ∧ Fr (fun k => k = vb ∨ TyIn stP u k) u u'
omit [Base] in
theorem checkT_ok {t : Tm} (hm : t.may = true) (hs : t.size ≤ 2000) : checkT t = 0 := by
 have hd : t.deep ≤ t.size := deep_size t
 unfold checkT
 rw [if_neg (by rw [hm]; decide), if_neg (by omega), if_neg (by omega)]
end Go.Proofs.YtjdnigepnfeboaaGreatDoor
namespace Go.Proofs.YtjdnigepnfeboaaGreatDoor
open Go.RowKit Go.Maps
set_option maxRecDepth 100000
variable [Base]
set_option linter.unusedSectionVars false
theorem New_st (w : World) (n : Nat) (h1 : 1 ≤ n) (h2 : n ≤ 16777216) (hB : Base.b ≤ w.heap.size) : Calls Tryz.prog 31 #[.int .i64 (n : Nat)] w fun e w' =>
    ∃ sb, e = .returned (.tuple #[.pointer (some ⟨sb, 0, none⟩), .int .i64 0]) ∧ w.heap.size ≤ sb ∧ StAt sb n w' (.slice none 0 0) (.slice none 0 0) [] [] [] ∧ Below w.heap.size w w' := by
 have a1 : ¬ (n : Int) < 1 := by omega
 have a2 : ¬ (16777216 : Int) < (n : Int) := by omega
 have HN := Lib.hid (And.intro h1 h2)
 clear h1 h2
 go_enter Tryz.func31, Tryz.ntmps31
 go_wp2_with fail
 go_ret2
 refine ⟨_, rfl, Nat.le_refl _, ?_, (Below.refl _ _).alloc (Nat.le_refl _) _⟩
 exact ⟨heap_alloc_new _ _, Row.nil _ _ _ _ _, Row.nil _ _ _ _ _, rfl, fun i x c h => by simp at h, Nat.zero_le _, ⟨HN.out.2, hB⟩, fun i h => by simp at h, fun i c h => by simp at h, fun i c h => by simp at h, fun y h => by simp at h, by simp⟩
omit [Base] in
theorem tdoes_p (w : World) : Calls Tryz.prog 62 #[.string ⟨#[112]⟩, .int .i64 1] w fun e w' => e = .returned (.bool false) ∧ w' = w := by
 go_enter Tryz.func62, Tryz.ntmps62
 go_wp2_with fail
 go_ret
 exact ⟨rfl, rfl⟩
omit [Base] in
theorem tdoes_eq (w : World) : Calls Tryz.prog 62 #[.string ⟨#[61, 61]⟩, .int .i64 2] w fun e w' => e = .returned (.bool false) ∧ w' = w := by
 go_enter Tryz.func62, Tryz.ntmps62
 go_wp2_with fail
 go_ret
 exact ⟨rfl, rfl⟩
omit [Base] in
theorem sdoes_p (w : World) : Calls Tryz.prog 63 #[.string ⟨#[112]⟩, .int .i64 1] w fun e w' => e = .returned (.bool false) ∧ w' = w := by
 go_enter Tryz.func63, Tryz.ntmps63
 go_wp2_with fail
 go_ret
 exact ⟨rfl, rfl⟩
omit [Base] in
theorem sdoes_eq (w : World) : Calls Tryz.prog 63 #[.string ⟨#[61, 61]⟩, .int .i64 2] w fun e w' => e = .returned (.bool true) ∧ w' = w := by
 go_enter Tryz.func63, Tryz.ntmps63
 go_wp2_with fail
 go_ret
 exact ⟨rfl, rfl⟩
end Go.Proofs.YtjdnigepnfeboaaGreatDoor
namespace Go.Proofs.YtjdnigepnfeboaaGreatDoor
open Go.RowKit Go.Maps
set_option maxRecDepth 100000
def machC (db ob : Nat) (spent : Int) (over : List UInt8) : Array Value := #[.pointer (some ⟨db, 0, none⟩), .pointer (some ⟨ob, 0, none⟩), .pointer none, .int .i64 300, .int .i64 40000, .int .i64 2000, .int .i64 spent, .string ⟨over.toArray⟩]
def MachAt (u : World) (mb db ob : Nat) (spent : Int) (over : List UInt8) : Prop := u.heap[mb]? = some (.cells (machC db ob spent over) 90 (0, 0))
theorem MachAt.lt {u : World} {mb db ob : Nat} {spent : Int} {over : List UInt8} (h : MachAt u mb db ob spent over) : mb < u.heap.size := (Array.getElem?_eq_some_iff.1 h).1
theorem MachAt.later {u v : World} {mb db ob : Nat} {spent : Int} {over : List UInt8} (h : MachAt u mb db ob spent over) (hb : Below u.heap.size u v) : MachAt v mb db ob spent over := (hb.block _ h.lt).trans h
theorem MachAt.cells {u : World} {mb db ob : Nat} {spent : Int} {over : List UInt8} (h : MachAt u mb db ob spent over) :
    (u.cell? ⟨mb, 0, none⟩ = some (.pointer (some ⟨db, 0, none⟩)) ∧ u.cell? ⟨mb, 1, none⟩ = some (.pointer (some ⟨ob, 0, none⟩)) ∧ u.cell? ⟨mb, 2, none⟩ = some (.pointer none) ∧ u.cell? ⟨mb, 3, none⟩ = some (.int .i64 300) ∧ u.cell? ⟨mb, 4, none⟩ = some (.int .i64 40000) ∧ u.cell? ⟨mb, 5, none⟩ = some (.int .i64 2000) ∧ u.cell? ⟨mb, 6, none⟩ = some (.int .i64 spent) ∧ u.cell? ⟨mb, 7, none⟩ = some (.string ⟨over.toArray⟩)) ∧ ∀ o, u.frozen? ⟨mb, o, none⟩ = false := by
 have hc : ∀ i, u.cell? ⟨mb, i, none⟩ = (machC db ob spent over)[i]? := fun i => cell_of_row _ _ i _ _ _ h
 exact ⟨⟨hc 0, hc 1, hc 2, hc 3, hc 4, hc 5, hc 6, hc 7⟩, fun o => by simp [World.frozen?, show u.heap[mb]? = _ from h]⟩
set_option maxHeartbeats 1000000 in
theorem Right_any (w : World) : Calls Tryz.prog 25 #[.agg #[.int .i64 300, .int .i64 40000, .int .i64 2000]] w fun e w' => e = .returned (.bool true) ∧ Below w.heap.size w w' := by
 go_enter Tryz.func25, Tryz.ntmps25
 go_wp2_with fail
 go_ret
 exact ⟨rfl, (Below.refl _ _).alloc (Nat.le_refl _) _⟩
set_option maxHeartbeats 1000000 in
theorem NewM_any (w : World) (db ob : Nat) : Calls Tryz.prog 17 #[.pointer (some ⟨db, 0, none⟩), .pointer (some ⟨ob, 0, none⟩), .pointer none, .agg #[.int .i64 300, .int .i64 40000, .int .i64 2000]] w fun e w' =>
    ∃ mb, e = .returned (.tuple #[.pointer (some ⟨mb, 0, none⟩), .int .i64 0]) ∧ w.heap.size ≤ mb ∧ MachAt w' mb db ob 0 [] ∧ Below w.heap.size w w' := by
 obtain ⟨W, hW⟩ : ∃ W, W = w.alloc (.cells #[.int .i64 300, .int .i64 40000, .int .i64 2000] 58) := ⟨_, rfl⟩
 have hb : Below w.heap.size w W := by rw [hW]; exact (Below.refl _ _).alloc (Nat.le_refl _) _
 have hz : W.heap[w.heap.size]? = some (.cells #[.int .i64 300, .int .i64 40000, .int .i64 2000] 58 (0, 0)) := by rw [hW]; exact heap_alloc_new _ _
 have HB := Lib.hid (And.intro hb hz)
 have hc : ∀ i, W.cell? ⟨w.heap.size, i, none⟩ = (#[.int .i64 300, .int .i64 40000, .int .i64 2000] : Array Value)[i]? := fun i => cell_of_row _ _ i _ _ _ hz
 have c0 := (hc 0).trans rfl
 have c1 := (hc 1).trans rfl
 have c2 := (hc 2).trans rfl
 clear hb hz hc
 go_enter Tryz.func17, Tryz.ntmps17
 go_upto_region 1 with fail
 rw [← hW]
 clear hW
 go_wp2_with fail
 refine (Right_any W).mono ?_
 rintro e w1 ⟨rfl, hb1⟩
 have hz1 := (hb1.block _ (Array.getElem?_eq_some_iff.1 HB.out.2).1).trans HB.out.2
 have hc : ∀ i, w1.cell? ⟨w.heap.size, i, none⟩ = (#[.int .i64 300, .int .i64 40000, .int .i64 2000] : Array Value)[i]? := fun i => cell_of_row _ _ i _ _ _ hz1
 have d0 := (hc 0).trans rfl
 have d1 := (hc 1).trans rfl
 have d2 := (hc 2).trans rfl
 have HB1 := Lib.hid (HB.out.1.trans (hb1.mono HB.out.1.size))
 clear hz1 hc hb1 c0 c1 c2
 go_wp2_with fail
 go_ret2
 exact ⟨_, rfl, HB1.out.size, heap_alloc_new _ _, HB1.out.alloc HB1.out.size _⟩
theorem Over_any (w : World) (mb db ob : Nat) (spent : Int) (over : List UInt8) (h : MachAt w mb db ob spent over) : Calls Tryz.prog 21 #[.pointer (some ⟨mb, 0, none⟩)] w fun e w' => e = .returned (.bool (over != [])) ∧ w' = w := by
 obtain ⟨⟨c0, c1, c2, c3, c4, c5, c6, c7⟩, cf⟩ := h.cells
 clear c0 c1 c2 c3 c4 c5 c6 h
 cases over with
 | nil =>
  go_enter Tryz.func21, Tryz.ntmps21
  go_wp2_with fail
  go_ret
  exact ⟨rfl, rfl⟩
 | cons a l =>
  go_enter Tryz.func21, Tryz.ntmps21
  go_wp2_with fail
  go_ret
  exact ⟨rfl, rfl⟩
theorem ord1_any (w : World) (c : Int) : Calls Tryz.prog 297 #[.int .i64 c] w fun e w' => e = .returned (.bool (c == 0)) ∧ w' = w := by
 go_enter Tryz.func297, Tryz.ntmps297
 go_wp2_with fail
 go_ret
 exact ⟨rfl, rfl⟩
def fnV (n : Nat) : Value := .func (Fn.func n) #[] #[]
set_option maxHeartbeats 4000000 in
theorem orders_any (w : World) : Calls Tryz.prog 230 #[] w fun e w' => ∃ b, e = .returned (.map (some b)) ∧ Below w.heap.size w w' ∧ (Instr.lookup 335 (.map (some b)) (.string ⟨#[61, 61]⟩) true).run Tryz.prog w' = .ok (.tuple #[fnV 297, .bool true]) w' := by
 have hmm := @run_makeMap Tryz.prog
 have M0 := NMap.made (ek := ekS) (ev := fnV) (okk := okS) (w := w) (u := w) (Below.refl _ _)
 obtain ⟨u1, e1, M1, z1⟩ := M0.put (t := 335) strKE Tryz.underlying335 (k := [61, 61]) (by unfold okS; decide) 297
 replace e1 : (Instr.mapUpdate 335 (.map (some w.heap.size)) (.string ⟨#[61, 61]⟩) (.func (Fn.func 297) #[] #[])).run Tryz.prog (w.alloc (.map #[] 0)) = .ok () u1 := e1
 clear z1 M0
 obtain ⟨u2, e2, M2, z2⟩ := M1.put (t := 335) strKE Tryz.underlying335 (k := [92, 61, 61]) (by unfold okS; decide) 298
 replace e2 : (Instr.mapUpdate 335 (.map (some w.heap.size)) (.string ⟨#[92, 61, 61]⟩) (.func (Fn.func 298) #[] #[])).run Tryz.prog u1 = .ok () u2 := e2
 clear z2 M1
 obtain ⟨u3, e3, M3, z3⟩ := M2.put (t := 335) strKE Tryz.underlying335 (k := [64, 60]) (by unfold okS; decide) 299
 replace e3 : (Instr.mapUpdate 335 (.map (some w.heap.size)) (.string ⟨#[64, 60]⟩) (.func (Fn.func 299) #[] #[])).run Tryz.prog u2 = .ok () u3 := e3
 clear z3 M2
 obtain ⟨u4, e4, M4, z4⟩ := M3.put (t := 335) strKE Tryz.underlying335 (k := [64, 62]) (by unfold okS; decide) 300
 replace e4 : (Instr.mapUpdate 335 (.map (some w.heap.size)) (.string ⟨#[64, 62]⟩) (.func (Fn.func 300) #[] #[])).run Tryz.prog u3 = .ok () u4 := e4
 clear z4 M3
 obtain ⟨u5, e5, M5, z5⟩ := M4.put (t := 335) strKE Tryz.underlying335 (k := [64, 61, 60]) (by unfold okS; decide) 301
 replace e5 : (Instr.mapUpdate 335 (.map (some w.heap.size)) (.string ⟨#[64, 61, 60]⟩) (.func (Fn.func 301) #[] #[])).run Tryz.prog u4 = .ok () u5 := e5
 clear z5 M4
 obtain ⟨u6, e6, M6, z6⟩ := M5.put (t := 335) strKE Tryz.underlying335 (k := [64, 62, 61]) (by unfold okS; decide) 302
 replace e6 : (Instr.mapUpdate 335 (.map (some w.heap.size)) (.string ⟨#[64, 62, 61]⟩) (.func (Fn.func 302) #[] #[])).run Tryz.prog u5 = .ok () u6 := e6
 clear z6 M5
 have HL : Hid ((Instr.lookup 335 (.map (some w.heap.size)) (.string ⟨#[61, 61]⟩) true).run Tryz.prog u6 = .ok (.tuple #[fnV 297, .bool true]) u6) := Lib.hid (by
  have := M6.map.lookup (t := 335) strKE Tryz.underlying335 (z := .nilFunc) (fun u => by kernel_rfl) M6.ok (k := [61, 61]) (by unfold okS; decide) true
  exact this)
 have HB := Lib.hid M6.below
 clear M6
 go_enter Tryz.func230, Tryz.ntmps230
 go_wp2_with fail
 go_ret
 exact ⟨_, rfl, HB.out, HL.out⟩
variable [Base]
set_option linter.unusedSectionVars false
structure RC where
 mb : Nat
 sb : Nat
 vb : Nat
 bb : Nat
 nm : Value
 most : Int
 ans : Int
 ev : Value
 fr : Value
 ch : Value
 b0 : Value
 b1 : Value
 b2 : Value
 b3 : Value
 loose : Int
def stepC : List Value := [fnV 69, fnV 70, fnV 71, fnV 72, fnV 73, fnV 74, fnV 75, fnV 76, fnV 77, fnV 78, fnV 79, fnV 80]
def rnL (r : RC) : List Value := [.pointer (some ⟨r.mb, 0, none⟩), .pointer (some ⟨r.sb, 0, none⟩), r.nm, .map (some r.vb), .int .i64 r.most, .int .i64 r.ans, r.ev, r.fr, r.ch, r.b0, r.b1, r.b2, r.b3, .int .i64 r.loose] ++ (stepC ++ [.map (some r.bb)])
def rnC (r : RC) : Array Value := (rnL r).toArray
def RunAt (u : World) (rb : Nat) (r : RC) : Prop := u.heap[rb]? = some (.cells (rnC r) 112 (0, 0))
def encV (x : Int × List UInt8) : List Value := [.int .i64 x.1, .string ⟨x.2.toArray⟩]
omit [Base] in
theorem encV_len (x : Int × List UInt8) : (encV x).length = 2 := rfl
omit [Base] in
theorem encV_one (x : Int × List UInt8) : ∀ u ∈ encV x, u.oneCell' = true := by
 intro u hu
 simp [encV] at hu
 rcases hu with rfl | rfl <;> rfl
omit [Base] in
theorem event_info : ∃ i z, Tryz.prog.info? 45 = some i ∧ i.zero = some z ∧ i.size = 2 ∧ i.bytes = 24 ∧ z.cells.size = 2 := by
 refine ⟨_, _, rfl, rfl, ?_, ?_, ?_⟩ <;> kernel_rfl
abbrev EvRow (u : World) (rb : Nat) (v : Value) (l : List (Int × List UInt8)) : Prop := Row u (rb + 1) 45 2 encV v l
section
variable {u u' : World} {rb : Nat} {r : RC}
omit [Base] in
theorem RunAt.lt (h : RunAt u rb r) : rb < u.heap.size := (Array.getElem?_eq_some_iff.1 h).1
omit [Base] in
theorem RunAt.later (h : RunAt u rb r) (hb : Below u.heap.size u u') : RunAt u' rb r := (hb.block _ h.lt).trans h
omit [Base] in
theorem RunAt.ty (h : RunAt u rb r) : TyB u 112 rb := ⟨_, h⟩
omit [Base] in
theorem RunAt.get (h : RunAt u rb r) (i : Nat) : u.cell? ⟨rb, i, none⟩ = (rnC r)[i]? := cell_of_row _ _ i _ _ _ h
omit [Base] in
theorem RunAt.fz (h : RunAt u rb r) (o : Nat) : u.frozen? ⟨rb, o, none⟩ = false := by simp [World.frozen?, show u.heap[rb]? = _ from h]
omit [Base] in
theorem RunAt.set (h : RunAt u rb r) (i : Nat) (v : Value) (r' : RC) (he : (rnC r).setIfInBounds i v = rnC r') : RunAt (u.setCell ⟨rb, i, none⟩ v) rb r' := by
 have := blk_put h v (i := i)
 rw [he] at this
 exact this
end
set_option maxHeartbeats 2000000 in
theorem event_any (u : World) (rb : Nat) (r : RC) (l : List (Int × List UInt8)) (k : Int) (s : List UInt8) (h : RunAt u rb r) (hr : EvRow u rb r.ev l) (hl : l.length ≤ 100000) (hB : Base.b ≤ rb) :
    Calls Tryz.prog 174 #[.pointer (some ⟨rb, 0, none⟩), .int .i64 k, .string ⟨s.toArray⟩] u fun e u' => e = .returned (.tuple #[]) ∧ ∃ v, RunAt u' rb { r with ev := v } ∧ EvRow u' rb v (l ++ [(k, s)]) ∧ TF [112, 45] u u' := by
 obtain ⟨P, hP⟩ : ∃ P : Ending → World → Prop, P = fun e u' => e = .returned (.tuple #[]) ∧ ∃ v, RunAt u' rb { r with ev := v } ∧ EvRow u' rb v (l ++ [(k, s)]) ∧ TF [112, 45] u u' := ⟨_, rfl⟩
 rw [← hP]
 have HP := Lib.hid hP
 obtain ⟨i0, z0, hi0, hz0, hz1, hz2, hz3⟩ := event_info
 obtain ⟨A, c, he⟩ := hr.shape
 have HR := Lib.hid (And.intro h (he ▸ hr))
 have e6 : u.cell? ⟨rb, 6, none⟩ = some (.slice A l.length c) := (h.get 6).trans (by show some r.ev = _; rw [he])
 have hf := h.fz
 have hlt := h.lt
 have HL := Lib.hid hl
 clear hP h hr he hl
 go_enter Tryz.func174, Tryz.ntmps174
 go_wp2_with (at_builtin; refine wpList_row rfl _ _ 29 rfl _ (rb + 1) 45 i0 z0 2 24 encV Tryz.underlying29 hi0 hz0 hz1 hz2 hz3 (by decide) encV_len encV_one _ l (k, s) rfl (HR.out.2.alloc _) _ 1 rfl (fun j w hw => by rw [cell_made _ _ _ j w (by rw [← Array.getElem?_toList]; exact hw)]) (by have := HL.out; unfold maxLen; omega) (by have := HL.out; omega) (by simp; omega) ?_)
 intro v' w2 hr hg
 obtain ⟨A3, c3, rfl⟩ := hr.shape
 have hlen : (l ++ [(k, s)]).length = l.length + 1 := by simp
 rw [hlen] at hr ⊢
 clear hlen
 have hb2 : RunAt w2 rb r := (hg.block rb (by simp; omega) (fun e => by have := (HR.out.2.lt _ e.symm).1; omega)).trans ((Below.heap_alloc _ _ _ hlt).trans HR.out.1)
 have f6 : w2.cell? ⟨rb, 6, none⟩ = some (.slice A l.length c) := (hb2.get 6).trans ((HR.out.1.get 6).symm.trans e6)
 have ff := hb2.fz
 have hl2 := hb2.lt
 have HW := Lib.hid (hb2.set 6 (.slice A3 (l.length + 1) c3) { r with ev := .slice A3 (l.length + 1) c3 } rfl)
 have HRR := Lib.hid (hr.keep fun j hj => Below.heap_setCell w2 ⟨rb, 6, none⟩ (.slice A3 (l.length + 1) c3) j (show j ≠ rb by have := (hr.lt j hj).1; omega))
 have HTF : Hid (TF [112, 45] u (w2.setCell ⟨rb, 6, none⟩ (.slice A3 (l.length + 1) c3))) := Lib.hid ((((TF.refl _ u).alloc _).grown hg fun g e => .inl ⟨by have := (HR.out.2.lt g e).1; omega, 45, by decide, ((HR.out.2.alloc _).ty e)⟩).set hb2.ty (by decide) hB _)
 clear hr hg hb2 e6 hf
 go_wp2_with fail
 exact bodyPost_end (v := .tuple #[]) (by simp [results, Tryz.results174, go_sem]) rfl (by rw [HP.out]; exact ⟨rfl, _, HW.out, HRR.out, HTF.out⟩)
end Go.Proofs.YtjdnigepnfeboaaGreatDoor
namespace Go.Proofs.YtjdnigepnfeboaaGreatDoor
open Go.RowKit Go.Maps
set_option maxRecDepth 100000
variable [Base]
set_option linter.unusedSectionVars false
structure RunSt (u : World) (rb : Nat) (r : RC) (l : List (Int × List UInt8)) (db ob : Nat) (spent : Int) (over : List UInt8) : Prop where
 run : RunAt u rb r
 ev : EvRow u rb r.ev l
 mach : MachAt u r.mb db ob spent over
 few : l.length ≤ 100000 ∧ Base.b ≤ rb ∧ Base.b ≤ r.mb
abbrev evT : List TypeId := [112, 45, 90]
theorem RunSt.ne {u : World} {rb : Nat} {r : RC} {l : List (Int × List UInt8)} {db ob : Nat} {spent : Int} {over : List UInt8} (h : RunSt u rb r l db ob spent over) : rb ≠ r.mb := h.run.ty.ne (t' := 90) ⟨_, h.mach⟩ (by decide)
theorem RunSt.keep {u u' : World} {rb : Nat} {r : RC} {l : List (Int × List UInt8)} {db ob : Nat} {spent : Int} {over : List UInt8} {tys : List TypeId} (h : RunSt u rb r l db ob spent over) (hf : TF tys u u') (ht : ∀ t ∈ evT, t ∉ tys) : RunSt u' rb r l db ob spent over :=
 ⟨(hf.block h.run.ty (ht _ (by decide))).trans h.run, hf.row h.ev (ht _ (by decide)), (hf.block ⟨_, h.mach⟩ (ht _ (by decide))).trans h.mach, h.few⟩
theorem RunSt.later {u u' : World} {rb : Nat} {r : RC} {l : List (Int × List UInt8)} {db ob : Nat} {spent : Int} {over : List UInt8} (h : RunSt u rb r l db ob spent over) (hb : Below u.heap.size u u') : RunSt u' rb r l db ob spent over := h.keep (TF.of_below [] hb) (fun _ _ h => by cases h)
def Lim (u : World) (rb : Nat) (r : RC) (db ob : Nat) (spent : Int) (e : Ending) (u' : World) : Prop := e = .returned (.int .i64 3) ∧ ∃ v l' which, RunSt u' rb { r with ev := v } l' db ob spent which ∧ which ≠ [] ∧ TF evT u u'
set_option maxHeartbeats 2000000 in
theorem limit_any (u : World) (rb : Nat) (r : RC) (l : List (Int × List UInt8)) (db ob : Nat) (spent : Int) (over which : List UInt8) (h : RunSt u rb r l db ob spent over) (hl : l.length + 1 ≤ 100000) (hw : which ≠ []) :
    Calls Tryz.prog 178 #[.pointer (some ⟨rb, 0, none⟩), .string ⟨which.toArray⟩] u (Lim u rb r db ob spent) := by
 obtain ⟨P, hP⟩ : ∃ P : Ending → World → Prop, P = Lim u rb r db ob spent := ⟨_, rfl⟩
 rw [← hP]
 have HP := Lib.hid hP
 have e0 : u.cell? ⟨rb, 0, none⟩ = some (.pointer (some ⟨r.mb, 0, none⟩)) := h.run.get 0
 obtain ⟨⟨-, -, -, -, -, -, -, c7⟩, cf⟩ := h.mach.cells
 have hlt := h.run.lt
 have hltm := h.mach.lt
 obtain ⟨V, hV⟩ : ∃ V, V = u.setCell ⟨r.mb, 7, none⟩ (.string ⟨which.toArray⟩) := ⟨_, rfl⟩
 have HV : Hid (RunSt V rb r l db ob spent which ∧ TF evT u V) := Lib.hid (by
  have hk : ∀ k, k ≠ r.mb → V.heap[k]? = u.heap[k]? := fun k hk => by rw [hV]; exact Below.heap_setCell _ _ _ _ hk
  refine ⟨⟨(hk _ h.ne).trans h.run, h.ev.keep fun k hk' => hk k (fun e => ?_), ?_, h.few⟩, by rw [hV]; exact (TF.refl _ u).set (p := ⟨r.mb, 7, none⟩) (t := 90) ⟨_, h.mach⟩ (by decide) h.few.2.2 _⟩
  ·exact absurd ((h.ev.ty hk').same (t' := 90) ⟨_, e ▸ h.mach⟩) (by decide)
  ·rw [hV]
   exact blk_put h.mach _)
 have HL := Lib.hid (And.intro hl hw)
 clear hP h hl hw
 go_enter Tryz.func178, Tryz.ntmps178
 go_upto_region 2 with fail
 rw [← hV]
 clear hV e0 c7 cf
 go_wp2_with fail
 refine (event_any V rb r l 5 which HV.out.1.run HV.out.1.ev HV.out.1.few.1 HV.out.1.few.2.1).mono ?_
 rintro e w2 ⟨rfl, v, h1, h2, h3⟩
 have HQ : Hid (P (.returned (.int .i64 3)) w2) := Lib.hid (by
  rw [HP.out]
  refine ⟨rfl, v, _, which, ⟨h1, h2, (h3.block ⟨_, HV.out.1.mach⟩ (by decide)).trans HV.out.1.mach, ⟨by simpa using HL.out.1, HV.out.1.few.2⟩⟩, HL.out.2, HV.out.2.trans (h3.mono (by decide))⟩)
 clear h1 h2 h3
 go_wp2_with fail
 exact HQ.out
theorem trouble_any (u : World) (rb : Nat) (r : RC) (l : List (Int × List UInt8)) (db ob : Nat) (spent : Int) (over : List UInt8) (c : Int) (h : RunSt u rb r l db ob spent over) (hl : l.length + 1 ≤ 100000) :
    Calls Tryz.prog 158 #[.pointer (some ⟨rb, 0, none⟩), .int .i64 c] u (Lim u rb r db ob spent) := by
 have HL : Hid (∀ which : List UInt8, which ≠ [] → Calls Tryz.prog 178 #[.pointer (some ⟨rb, 0, none⟩), .string ⟨which.toArray⟩] u (Lim u rb r db ob spent)) := Lib.hid fun which hw => limit_any u rb r l db ob spent over which h hl hw
 clear h hl
 obtain ⟨P, hP⟩ : ∃ P : Ending → World → Prop, P = Lim u rb r db ob spent := ⟨_, rfl⟩
 rw [← hP] at HL ⊢
 have HP : Hid (∀ e w, P e w → e = .returned (.int .i64 3)) := Lib.hid fun e w h => by rw [hP] at h; exact h.1
 clear hP
 by_cases h9 : c = 9
 ·subst h9
  go_enter Tryz.func158, Tryz.ntmps158
  go_wp2_with fail
  refine (HL.out [99, 101, 108, 108, 115] (by decide)).mono ?_
  intro e w1 h
  obtain rfl := HP.out _ _ h
  go_wp2_with fail
  exact h
 ·have q9 : (c == 9) = false := beq_false_of_ne h9
  by_cases h16 : c = 16
  ·subst h16
   clear h9
   go_enter Tryz.func158, Tryz.ntmps158
   go_wp2_with fail
   refine (HL.out [119, 111, 114, 107] (by decide)).mono ?_
   intro e w1 h
   obtain rfl := HP.out _ _ h
   go_wp2_with fail
   exact h
  ·have q16 : (c == 16) = false := beq_false_of_ne h16
   clear h9 h16
   go_enter Tryz.func158, Tryz.ntmps158
   go_wp2_with fail
   refine (HL.out [115, 105, 122, 101] (by decide)).mono ?_
   intro e w1 h
   obtain rfl := HP.out _ _ h
   go_wp2_with fail
   exact h
end Go.Proofs.YtjdnigepnfeboaaGreatDoor
namespace Go.Proofs.YtjdnigepnfeboaaGreatDoor
open Go.RowKit Go.Maps
set_option maxRecDepth 100000
def encLo (p : Nat × Nat) : List Value := [.pointer (some ⟨p.1, p.2, none⟩)]
theorem encLo_len (x : Nat × Nat) : (encLo x).length = 1 := rfl
theorem encLo_one (x : Nat × Nat) : ∀ u ∈ encLo x, u.oneCell' = true := by
 intro u hu
 simp [encLo] at hu
 subst hu
 rfl
theorem ptrT_info : ∃ i z, Tryz.prog.info? 205 = some i ∧ i.zero = some z ∧ i.size = 1 ∧ i.bytes = 8 ∧ z.cells.size = 1 := by
 refine ⟨_, _, rfl, rfl, ?_, ?_, ?_⟩ <;> kernel_rfl
def OwS (G : Nat → Prop) (u w : World) (b : Nat) : Prop := TyB w 27 b ∧ (b ≠ u.heap.size + 1 ∧ (b < u.heap.size → G b))
def PtAt (G : Nat → Prop) (u w : World) (p : Nat × Nat) (t : Tm) : Prop := u.heap.size ≤ p.1 ∧ p.1 ≠ u.heap.size + 1 ∧ TyB w 27 p.1 ∧ ∃ y : TV, (∀ (j : Nat) v, (encTV y)[j]? = some v → w.cell? ⟨p.1, p.2 + j, none⟩ = some v) ∧ TermS w (OwS G u w) y t
abbrev Pw := (Nat × Nat) × Tm
def szP : List Pw → Nat
 | [] => 0
 | z :: r => z.2.size + szP r
theorem szP_app : ∀ a b : List Pw, szP (a ++ b) = szP a + szP b
 | [], b => by simp [szP]
 | z :: r, b => by
  have := szP_app r b
  simp only [List.cons_append, szP]
  omega
theorem szP_len : ∀ a : List Pw, a.length ≤ szP a
 | [] => Nat.le_refl _
 | z :: r => by
  have := szP_len r
  obtain ⟨p, ⟨k, n, s, l⟩⟩ := z
  simp only [List.length_cons, szP, Tm.size]
  omega
structure OwnAt (G : Nat → Prop) (u : World) (t : Tm) (gk : Nat) (v : Value) (wr : World) (ps : List Pw) : Prop where
 row : Row wr u.heap.size 205 1 encLo v (ps.map (·.1))
 pt : ∀ p ∈ ps, PtAt G u wr p.1 p.2
 root : PtAt G u wr (u.heap.size, 0) t
 below : Below u.heap.size u wr
 rk : wr.heap[u.heap.size + 1]? = some (.cells #[.int .i64 0, .int .i64 0, .string ⟨#[]⟩, .slice none 0 0] 27 (0, 0))
 sz : szP ps ≤ gk
 few : szP ps ≤ 1000000
section
variable {G : Nat → Prop} {u w w' : World} {p : Nat × Nat} {t : Tm}
theorem PtAt.keep (h : PtAt G u w p t) (hb : ∀ b, TyB w 27 b → w'.heap[b]? = w.heap[b]?) : PtAt G u w' p t := by
 obtain ⟨h1, h2, h3, y, h4, h5⟩ := h
 exact ⟨h1, h2, h3.keep (hb _ h3), y, fun j v hv => (World.cell?_of_block (a := ⟨p.1, p.2 + j, none⟩) (hb _ h3)).trans (h4 j v hv), h5.keep (fun b hb' => ⟨hb'.1.keep (hb b hb'.1), hb'.2⟩) fun b hb' => hb b hb'.1⟩
theorem PtAt.recopy {pb po g n c : Nat} {A' : Option Addr} {y : TV} (h : PtAt G u w p t) (hr : Recopy w w' pb po A' g n c y) (hS : ∀ b, TyB w 27 b → TyB w' 27 b) (hg : 0 < n → OwS G u w' g) : PtAt G u w' p t := by
 obtain ⟨h1, h2, h3, z, h4, h5⟩ := h
 obtain ⟨z', e1, e2⟩ := hr.at (S' := OwS G u w') (fun b hb => ⟨hS b hb.1, hb.2⟩) hg h4 h5
 exact ⟨h1, h2, hS _ h3, z', e1, e2⟩
end
theorem recopy_nil {w : World} {pb po : Nat} {y : TV} (hc : ∀ (j : Nat) v, (encTV y)[j]? = some v → w.cell? ⟨pb, po + j, none⟩ = some v) (hl : y.len = 0) : Recopy w (w.setCell ⟨pb, po + 3, none⟩ (.slice none 0 0)) pb po none 0 0 0 y :=
 ⟨hc, hl, fun b o v h1 h2 => (World.cell?_setCell_other _ _ _ _ (by intro e; injection e with e1 e2; exact h1 e1.symm e2.symm)).trans h2, World.cell?_setCell_same _ _ _ (hc 3 _ rfl), fun h => absurd h (by omega), fun b off j v _ h => absurd h (by omega)⟩
theorem TyB.setC {w : World} {t : TypeId} {k : Nat} (h : TyB w t k) (b j : Nat) (v : Value) : TyB (w.setCell ⟨b, j, none⟩ v) t k := by
 obtain ⟨cs, h⟩ := h
 by_cases hk : k = b
 ·subst hk
  exact ⟨_, blk_put h v⟩
 ·exact ⟨cs, (Below.heap_setCell _ _ _ _ hk).trans h⟩
theorem recopy_new {w : World} {pb po b off n : Nat} {y : TV} {zs : List TV} (hc : ∀ (j : Nat) v, (encTV y)[j]? = some v → w.cell? ⟨pb, po + j, none⟩ = some v) (hpb : pb < w.heap.size) (hA : y.A = some ⟨b, off, none⟩) (hn : y.len = n) (hz : zs.length = n) (hs : ∀ (i : Nat) z, zs[i]? = some z → ∀ (j : Nat) v, (encTV z)[j]? = some v → w.cell? ⟨b, off + i * 4 + j, none⟩ = some v) :
    Recopy w ((w.alloc (.cells (zs.flatMap encTV).toArray 27)).setCell ⟨pb, po + 3, none⟩ (.slice (some ⟨w.heap.size, 0, none⟩) n n)) pb po (some ⟨w.heap.size, 0, none⟩) w.heap.size n n y := by
 have hnew : (w.alloc (.cells (zs.flatMap encTV).toArray 27)).heap[w.heap.size]? = some (.cells (zs.flatMap encTV).toArray 27 (0, 0)) := heap_alloc_new _ _
 have hold : ∀ (b o : Nat) v, w.cell? ⟨b, o, none⟩ = some v → (w.alloc (.cells (zs.flatMap encTV).toArray 27)).cell? ⟨b, o, none⟩ = some v := fun b o v h => (World.cell?_of_block (a := ⟨b, o, none⟩) (Below.heap_alloc _ _ _ (World.block_lt_of_cell? w _ h))).trans h
 refine ⟨hc, hn, fun b o v h1 h2 => (World.cell?_setCell_other _ _ _ _ (by intro e; injection e with e1 e2; exact h1 e1.symm e2.symm)).trans (hold b o v h2), World.cell?_setCell_same _ _ _ (hold _ _ _ (hc 3 _ rfl)), fun _ => rfl, fun b' off' j v h1 h2 h3 => ?_⟩
 rw [hA] at h1
 injection h1 with h1
 injection h1 with h1 h1'
 subst h1 h1'
 rw [World.cell?_setCell_other _ _ _ _ (by intro e; injection e with e1 e2; omega), cell_of_row _ w.heap.size j _ _ (0, 0) hnew]
 have hi : j / 4 < zs.length := by omega
 obtain ⟨z, hzz⟩ : ∃ z, zs[j / 4]? = some z := ⟨_, List.getElem?_eq_getElem hi⟩
 obtain ⟨v', hv'⟩ : ∃ v', (encTV z)[j % 4]? = some v' := ⟨_, List.getElem?_eq_getElem (by rw [encTV_len]; omega)⟩
 have h4 := hs _ z hzz _ v' hv'
 rw [show off + j / 4 * 4 + j % 4 = off + j by omega, h3] at h4
 injection h4 with h4
 have h5 := flatMap_get encTV_len zs (j / 4) (j % 4) z v' hzz hv'
 rw [show j / 4 * 4 + j % 4 = j by omega] at h5
 rw [h4]
 simpa using h5
theorem termS_args {w : World} {S : Nat → Prop} {y : TV} {t : Tm} (h : TermS w S y t) (h0 : 0 < y.len) : ∃ (zs : List TV) (b off : Nat), zs.length = y.len ∧ t.args.length = y.len ∧ y.A = some ⟨b, off, none⟩ ∧ S b ∧ (∀ (i : Nat) z, zs[i]? = some z → ∀ (j : Nat) v, (encTV z)[j]? = some v → w.cell? ⟨b, off + i * 4 + j, none⟩ = some v) ∧ ∀ (i : Nat) z a, zs[i]? = some z → t.args[i]? = some a → TermS w S z a := by
 cases h with
 | mk _ args xs h1 h2 h3 hc ht =>
  obtain ⟨z0, hz0⟩ : ∃ z, xs[0]? = some z := ⟨_, List.getElem?_eq_getElem (by omega)⟩
  obtain ⟨b, off, e1, e2, -⟩ := hc 0 z0 hz0
  refine ⟨xs, b, off, h1, h2, e1, e2, fun i z hz j v hv => ?_, ht⟩
  obtain ⟨b', off', e1', -, e3⟩ := hc i z hz
  rw [e1] at e1'
  injection e1' with e1'
  injection e1' with q1 q2
  subst q1 q2
  exact e3 j v hv
end Go.Proofs.YtjdnigepnfeboaaGreatDoor
namespace Go.Proofs.YtjdnigepnfeboaaGreatDoor
open Go.RowKit Go.Maps
set_option maxRecDepth 100000
def FrameAt (u : World) (fb : Nat) (at' h : Int) : Prop := u.heap[fb]? = some (.cells #[.int .i64 0, .int .i64 at', .int .i64 h, .pointer none, .pointer none, .pointer none] 226 (0, 0))
theorem FrameAt.later {u v : World} {fb : Nat} {a h : Int} (hf : FrameAt u fb a h) (hb : Below u.heap.size u v) : FrameAt v fb a h := (hb.block _ (Array.getElem?_eq_some_iff.1 hf).1).trans hf
set_option maxHeartbeats 1000000 in
theorem put0_any (w : World) (a h : Int) : Calls Tryz.prog 153 #[.agg #[.int .i64 0, .int .i64 a, .int .i64 h, .pointer none, .pointer none, .pointer none], .pointer none] w fun e w' =>
    e = .returned (.pointer (some ⟨w.heap.size, 0, none⟩)) ∧ FrameAt w' w.heap.size a h ∧ Below w.heap.size w w' := by
 go_enter Tryz.func153, Tryz.ntmps153
 go_wp2_with fail
 go_ret
 exact ⟨rfl, heap_alloc_new _ _, (Below.refl _ _).alloc (Nat.le_refl _) _⟩
theorem doGoal_any (w : World) (a h : Int) : Calls Tryz.prog 149 #[.int .i64 a, .int .i64 h, .pointer none] w fun e w' =>
    e = .returned (.pointer (some ⟨w.heap.size, 0, none⟩)) ∧ FrameAt w' w.heap.size a h ∧ Below w.heap.size w w' := by
 have HP := Lib.hid (put0_any w a h)
 go_enter Tryz.func149, Tryz.ntmps149
 go_wp2_with fail
 refine HP.out.mono ?_
 rintro e w1 ⟨rfl, h1, h2⟩
 have H1 := Lib.hid h1
 clear h1
 go_wp2_with fail
 go_ret
 exact ⟨rfl, H1.out, h2⟩
variable [Base]
set_option linter.unusedSectionVars false
section
variable {sb vb room : Nat} {u u' : World} {cv bv : Value} {xs : List ScM} {cs : List Sc} {ys : List (Nat × Int)}
set_option maxHeartbeats 16000000 in
theorem Put_st (hs : StAt sb room u cv bv xs cs ys) (hv : M6 u vb []) (x : TV) (t : Tm) (hx : TermS u (TyB u 27) x t) (hm : t.may = true) (h6 : ∀ n ∈ vrT t, ok6 n) (hsz : t.size ≤ 2000) (hr : cs.length + t.size ≤ room) :
    Calls Tryz.prog 180 #[.pointer (some ⟨sb, 0, none⟩), tvV x, .map (some vb)] u (PutAll sb vb room u bv cs ys t) := by
 obtain ⟨P, hP⟩ : ∃ P : Ending → World → Prop, P = PutAll sb vb room u bv cs ys t := ⟨_, rfl⟩
 rw [← hP]
 have HP := Lib.hid hP
 have hroom := hs.room.1
 obtain ⟨U, hU⟩ : ∃ U, U = u.alloc (.cells #[.int .i64 x.k, .int .i64 x.n, .string ⟨x.s.toArray⟩, .slice x.A x.len x.cap] 27) := ⟨_, rfl⟩
 have hbU : Below u.heap.size u U := by rw [hU]; exact (Below.refl _ _).alloc (Nat.le_refl _) _
 have hz : U.heap[u.heap.size]? = some (.cells #[.int .i64 x.k, .int .i64 x.n, .string ⟨x.s.toArray⟩, .slice x.A x.len x.cap] 27 (0, 0)) := by rw [hU]; exact heap_alloc_new _ _
 obtain ⟨z0, z1, z2, z3, -⟩ := four_at hz
 have hxU : TermS U (TyB U 27) x t := hx.keep (fun b hb => hb.keep (hbU.block b hb.lt)) fun b hb => hbU.block b hb.lt
 have H := Lib.hid (And.intro (hs.later hbU) (And.intro (hv.later hbU) hxU))
 have HB := Lib.hid hbU
 have HZ := Lib.hid hz
 have HT := Lib.hid (And.intro hm (And.intro h6 (And.intro hsz hr)))
 have hlz : u.heap.size < U.heap.size := (Array.getElem?_eq_some_iff.1 hz).1
 clear hP hs hv hx hm h6 hsz hr hbU hz hxU
 unfold tvV
 go_enter Tryz.func180, Tryz.ntmps180
 go_upto_region 3 with fail
 rw [← hU]
 clear hU
 go_wp2_with fail
 refine (check_any U x t (H.out.2.2.at fun b hb => hb.lt) (by have := HT.out.2.2.1; omega) (by have := HT.out.2.2.1; have := deep_size t; omega)).mono ?_
 rintro e w1 ⟨rfl, hb1⟩
 rw [checkT_ok HT.out.1 HT.out.2.2.1]
 have hmk := mk_map w1
 obtain ⟨W2, hW2⟩ : ∃ W2, W2 = (w1.alloc (.map #[] 0)).alloc (.cells #[.pointer (some ⟨sb, 0, none⟩), .map (some vb), .map (some w1.heap.size), .int .i64 0] 383) := ⟨_, rfl⟩
 have hb2 : Below w1.heap.size w1 W2 := by rw [hW2]; exact ((Below.refl _ _).alloc (Nat.le_refl _) _).alloc (by simp) _
 have hbU2 : Below U.heap.size U W2 := hb1.trans (hb2.mono hb1.size)
 obtain ⟨fb, hfb⟩ : ∃ fb, fb = w1.heap.size := ⟨_, rfl⟩
 obtain ⟨pb, hpb⟩ : ∃ pb, pb = w1.heap.size + 1 := ⟨_, rfl⟩
 have hpc : PcAt pb sb vb fb W2 0 [] := by
  refine ⟨?_, H.out.2.1.later hbU2, ?_, ?_⟩
  ·rw [hW2, hpb, hfb]
   have := heap_alloc_new (w1.alloc (.map #[] 0)) (.cells #[.pointer (some ⟨sb, 0, none⟩), .map (some vb), .map (some w1.heap.size), .int .i64 0] 383)
   rwa [World.size_alloc] at this
  ·have h1 := (M6.made w1)
   rw [hW2, hfb]
   exact h1.later ((Below.refl _ _).alloc (Nat.le_refl _) _)
  ·have h1 := H.out.2.1.lt
   have h2 := hb1.size
   rw [hfb]
   omega
 have H2 := Lib.hid (And.intro (H.out.1.later hbU2) (And.intro hpc (H.out.2.2.keep (w' := W2) (S' := TyB W2 27) (fun b hb => hb.keep (hbU2.block b hb.lt)) fun b hb => hbU2.block b hb.lt)))
 have HB2 := Lib.hid (below_then HB.out hbU2)
 have hz2 := (hbU2.block _ hlz).trans HZ.out
 have HZ2 := Lib.hid hz2
 have hlz2 : u.heap.size < W2.heap.size := (Array.getElem?_eq_some_iff.1 hz2).1
 have HFP : Hid (u.heap.size ≤ fb ∧ u.heap.size ≤ pb) := Lib.hid (by have h2 := hb1.size; have h3 := HB.out.size; omega)
 obtain ⟨z0', z1', z2', z3', -⟩ := four_at hz2
 clear hb1 hb2 hbU2 hpc hz2 z0 z1 z2 z3 hlz H HB HZ
 go_upto_region 7 with fail
 rw [← hW2, ← hfb, show fb + 1 = pb by rw [hfb, hpb]]
 clear hW2 hmk hfb hpb
 go_wp2_with fail
 refine (count_all pb sb vb fb t.size t W2 x 0 [] (Nat.le_refl _) H2.out.2.2 H2.out.2.1 HT.out.1 HT.out.2.1 (by have := HT.out.2.2.1; omega)).mono ?_
 rintro e W3 ⟨rfl, ⟨need, l3, hpc3, hnd⟩, hf3⟩
 have hk3 : ∀ {b t'}, TyB W2 t' b → t' ≠ 383 → W3.heap[b]? = W2.heap[b]? := fun {b t'} hb hn => hf3.block b hb.lt (fun e => by
  rcases e with e | e
  ·exact hb.ne (t' := 383) ⟨_, H2.out.2.1.blk⟩ hn e
  ·exact H2.out.2.1.fresh.map.ne hb e.symm)
 have hst3 : StAt sb room W3 cv bv xs cs ys := H2.out.1.keep fun t' b ht hb => hk3 hb fun e => by subst e; exact absurd ht (by decide)
 have hx3 : TermS W3 (TyB W3 27) x t := H2.out.2.2.keep (fun b hb => hb.keep (hk3 hb (by decide))) fun b hb => hk3 hb (by decide)
 have HF3 : Hid (Fr (fun k => k = vb ∨ TyIn stP u k) u W3) := Lib.hid ((Fr.of_below _ HB2.out).past hf3 fun j e => by have := HFP.out; rcases e with e | e <;> omega)
 have H3 := Lib.hid (And.intro hst3 (And.intro hpc3 hx3))
 have hz3 := (hk3 (t' := 27) ⟨_, HZ2.out⟩ (by decide)).trans HZ2.out
 have HZ3 := Lib.hid hz3
 have hlz3 : u.heap.size < W3.heap.size := (Array.getElem?_eq_some_iff.1 hz3).1
 obtain ⟨p0, p1, p2, p3, pf⟩ := four_at hpc3.blk
 have hlp := hpc3.lt
 have hls := hst3.lt
 obtain ⟨A3, c3, e3⟩ := hst3.slice
 obtain ⟨s0, s1, -, sf⟩ := hst3.cells
 rw [e3] at s1
 have hwr : IntKind.i64.wrap ((room : Int) - (cs.length : Int)) = (room : Int) - (cs.length : Int) := IntWalk.i64_in _ (by have := hst3.few; omega)
 have hng : ¬ ((need : Int) > (room : Int) - (cs.length : Int)) := by have := HT.out.2.2.2; omega
 clear hk3 hst3 hx3 hz3 hpc3 hf3 z0' z1' z2' z3' hnd HZ2 H2 hlz2 HB2 e3
 go_wp2_with fail
 go_quiet (fail)
 rw [show decide ((room : Int) - (cs.length : Int) < (need : Int)) = false from decide_eq_false (by omega)]
 obtain ⟨V, hV⟩ : ∃ V, V = W3.drewN nq := ⟨_, rfl⟩
 have hbV : Below W3.heap.size W3 V := by rw [hV]; exact below_drewN' (Below.refl _ _) _
 rw [← hV]
 have HV := Lib.hid (And.intro (H3.out.1.later hbV) (And.intro (H3.out.2.1.later hbV) (H3.out.2.2.keep (w' := V) (S' := TyB V 27) (fun b hb => hb.keep (hbV.block b hb.lt)) fun b hb => hbV.block b hb.lt)))
 have HFV := Lib.hid (HF3.out.step hbV)
 have HZV := Lib.hid ((hbV.block _ hlz3).trans HZ3.out)
 clear hV hbV hng hwr p0 p1 p2 p3 pf hlp hls s0 s1 sf H3 HF3 HZ3 hlz3
 obtain ⟨-, -, p2, -, -⟩ := four_at HV.out.2.1.blk
 have hlp := HV.out.2.1.lt
 obtain ⟨W4, k4, m4, g4, -⟩ := HV.out.2.1.fresh.map.clear (P := Tryz.prog) (t := 104) (ty := 0) Tryz.underlying104
 have hk4 : ∀ k, k < V.heap.size → k ≠ fb → W4.heap[k]? = V.heap[k]? := fun k hk hn => g4.block k hk (fun e => hn (Option.some.inj e))
 have H4 : Hid (StAt sb room W4 cv bv xs cs ys ∧ PcAt pb sb vb fb W4 need (frI []) ∧ TermS W4 (TyB W4 27) x t) := Lib.hid (by
  have hT : ∀ {b t'}, TyB V t' b → W4.heap[b]? = V.heap[b]? := fun {b t'} hb => hk4 b hb.lt (fun e => HV.out.2.1.fresh.map.ne hb e.symm)
  exact ⟨HV.out.1.keep fun t' b _ hb => hT hb, ⟨(hT (t' := 383) ⟨_, HV.out.2.1.blk⟩).trans HV.out.2.1.blk, HV.out.2.1.vars.keep (hk4 _ HV.out.2.1.vars.lt HV.out.2.1.ne), ⟨m4, fun y hy => by cases hy⟩, HV.out.2.1.ne⟩, HV.out.2.2.keep (fun b hb => hb.keep (hT hb)) fun b hb => hT hb⟩)
 have HF4 : Hid (Fr (fun k => k = vb ∨ TyIn stP u k) u W4) := Lib.hid (HFV.out.grown g4 fun g e => .inr (by have := Option.some.inj e; have := HFP.out; omega))
 have hz4 := (hk4 _ (Array.getElem?_eq_some_iff.1 HZV.out).1 (fun e => HV.out.2.1.fresh.map.ne (t := 27) ⟨_, HZV.out⟩ e.symm)).trans HZV.out
 obtain ⟨z0, z1, z2, z3, -⟩ := four_at hz4
 have hlz4 : u.heap.size < W4.heap.size := (Array.getElem?_eq_some_iff.1 hz4).1
 obtain ⟨A4, c4, e4⟩ := H4.out.1.slice
 obtain ⟨-, s1, -, -⟩ := H4.out.1.cells
 rw [e4] at s1
 have hls := H4.out.1.lt
 clear hk4 m4 g4 hz4 e4 HV HFV HZV
 go_wp2_with fail
 refine (put_all pb sb vb fb room t.size t W4 x need cv bv xs cs [] ys (Nat.le_refl _) H4.out.2.2 H4.out.2.1 H4.out.1 (fun y hy => by cases hy) HT.out.1 HT.out.2.1 HT.out.2.2.2).mono ?_
 rintro e W5 ⟨rfl, hpc5, ⟨cv5, xs5, hs5, -⟩, hf5⟩
 obtain ⟨pq, hpq⟩ : ∃ pq, pq = putT t ⟨cs, []⟩ := ⟨_, rfl⟩
 rw [← hpq] at hpc5 hs5 ⊢
 have HPQ : Hid (pq = putT t ⟨cs, []⟩) := Lib.hid hpq
 have HMEM : Hid (cs.length ≤ pq.2.cs.length) := Lib.hid (by rw [hpq]; exact (putT_mem t ⟨cs, []⟩ (fun y hy => by cases hy)).1.ge)
 have HF5 : Hid (Fr (fun k => k = vb ∨ TyIn stP u k) u W5) := Lib.hid ⟨hf5.os.trans HF4.out.os, hf5.tape.trans HF4.out.tape, hf5.output.trans HF4.out.output, Nat.le_trans HF4.out.size hf5.size, fun k hk hn => by
  have e1 := HF4.out.block k hk hn
  refine (hf5.block k (Nat.lt_of_lt_of_le hk HF4.out.size) fun e => ?_).trans e1
  rcases e with e | ⟨h0, t', h1, cs9, e⟩
  ·have := HFP.out; omega
  ·exact hn (.inr ⟨h0, t', h1, cs9, e1 ▸ e⟩)⟩
 have H5 := Lib.hid (And.intro hs5 hpc5)
 clear hpq hpc5 hs5 hf5 p2 hlp z0 z1 z2 z3 hlz4 s1 hls HF4
 obtain ⟨A5, c5, e5⟩ := H5.out.1.slice
 obtain ⟨-, s1, -, -⟩ := H5.out.1.cells
 have hls := H5.out.1.lt
 have hfew := H5.out.1.few'
 rw [e5] at s1
 have HE5 := Lib.hid e5
 have hm5 := HMEM.out
 clear e5
 by_cases hcs : cs.length = 0
 case' pos =>
  have hgt : ¬ ((cs.length : Int) > 0) := by omega
  have HTP : Hid (-1 ≤ (-1 : Int) ∧ (-1 : Int) ≤ 100000000) := Lib.hid ⟨by omega, by omega⟩
  clear hcs
 case' neg =>
  have hgt : (cs.length : Int) > 0 := by omega
  obtain ⟨c, hc⟩ : ∃ c, pq.2.cs[cs.length - 1]? = some c := ⟨_, List.getElem?_eq_getElem (by omega)⟩
  obtain ⟨g, cap, x5, e6, -, hgl, hx5, ho5, -, -, -, -, -, -, d5⟩ := H5.out.1.at hc
  have e7 := HE5.out.symm.trans e6
  injection e7 with e7 e8 e9
  subst e7 e9
  clear e8
  obtain ⟨tp, htp⟩ : ∃ tp, tp = x5.top := ⟨_, rfl⟩
  have HTP : Hid (-1 ≤ tp ∧ tp ≤ 100000000) := Lib.hid (by rw [htp]; exact ho5.top)
  rw [← htp] at d5
  have hw1 : IntKind.i64.wrap ((cs.length : Int) - 1) = (cs.length : Int) - 1 := IntWalk.i64_in _ (by omega)
  have hw2 : (cs.length : Int) - 1 = ((cs.length - 1 : Nat) : Int) := by omega
  rw [hw2] at hw1
  have hn0 : (0 : Int) ≤ ((cs.length - 1 : Nat) : Int) := by omega
  have hn1 : ((cs.length - 1 : Nat) : Int) < (pq.2.cs.length : Int) := by omega
  clear hcs hc e6 hx5 ho5 htp
 all_goals
  go_wp2_with fail
  clear s1 hgt
  go_loopw [12, 13] (fun tv i wr => ∃ (q : Nat) (tz : Int), tv = .int .i64 tz ∧ i = .int .i64 (q : Nat) ∧ q ≤ pq.2.cs.length ∧ Hid (-1 ≤ tz ∧ tz ≤ 100000000 ∧ (∃ xs', StAt sb room wr cv5 bv xs' pq.2.cs ys) ∧ PcAt pb sb vb fb wr need (frI pq.2.fr) ∧ Fr (fun k => k = vb ∨ TyIn stP u k) u wr)) (fun _ i _ => pq.2.cs.length - (intOf i).toNat)
  case atStart => exact ⟨cs.length, _, rfl, rfl, HMEM.out, Lib.hid ⟨HTP.out.1, HTP.out.2, ⟨_, H5.out.1⟩, H5.out.2, HF5.out⟩⟩
  case round =>
   obtain ⟨q, tz, rfl, rfl, hq, HI⟩ := hrel
   clear HTP H5 HF5 HE5
   obtain ⟨xs6, HS⟩ : ∃ xs', Hid (StAt sb room wr cv5 bv xs' pq.2.cs ys) := by
    obtain ⟨xs', h⟩ := HI.out.2.2.1
    exact ⟨xs', Lib.hid h⟩
   have hls := HS.out.lt
   by_cases hlt : q < pq.2.cs.length
   ·obtain ⟨c, hc⟩ : ∃ c, pq.2.cs[q]? = some c := ⟨_, List.getElem?_eq_getElem hlt⟩
    obtain ⟨g, cap, x6, e6, -, hgl, hx6, ho6, gf, -, -, -, d3, -, d5⟩ := HS.out.at hc
    subst e6
    obtain ⟨-, s1, -, -⟩ := HS.out.cells
    have hlt1 : (q : Int) < (pq.2.cs.length : Int) := by omega
    have hge : (0 : Int) ≤ (q : Int) := by omega
    have hwq : IntKind.i64.wrap ((q : Int) + 1) = (q : Int) + 1 := IntWalk.i64_in _ (by omega)
    have HX6 := Lib.hid hx6
    have HAR := Lib.hid (And.intro ho6.args (HS.out.args q c hc))
    have har := HS.out.ar q c hc
    obtain ⟨m, hm⟩ : ∃ m, m = c.args.length := ⟨_, rfl⟩
    have HM := Lib.hid hm
    rw [← hm] at d3 har
    clear hx6 ho6 hc hm
    go_wp2_with fail
    obtain ⟨wl, rfl⟩ : ∃ wl : World, wl = wr := ⟨_, rfl⟩
    go_loopw [84, 12] (fun i tv w9 => ∃ (j : Nat) (ty : Int), i = .int .i64 (j : Nat) ∧ tv = .int .i64 ty ∧ j ≤ m ∧ w9 = wl ∧ Hid (-1 ≤ ty ∧ ty ≤ 100000000)) (fun i _ _ => m - (intOf i).toNat)
    case atStart => exact ⟨0, tz, rfl, rfl, Nat.zero_le _, rfl, Lib.hid ⟨HI.out.1, HI.out.2.1⟩⟩
    case round =>
     obtain ⟨j, ty, rfl, rfl, hj, rfl, HY⟩ := hrel
     by_cases hjl : j < m
     ·obtain ⟨a, ha⟩ : ∃ a, c.args[j]? = some a := ⟨_, List.getElem?_eq_getElem (by rw [← HM.out]; exact hjl)⟩
      obtain ⟨b, off, eA, hb, q9⟩ := HAR.out.1.at' j a ha
      rw [eA] at d3
      have hbl := hb.lt
      have hj1 : (j : Int) < (m : Int) := by omega
      have hj0 : (0 : Int) ≤ (j : Int) := by omega
      have hwj : IntKind.i64.wrap ((j : Int) + 1) = (j : Int) + 1 := IntWalk.i64_in _ (by omega)
      obtain ⟨tw, htw⟩ : ∃ z : Int, max ty (a : Int) = z := ⟨_, rfl⟩
      have HW : Hid (-1 ≤ tw ∧ tw ≤ 100000000) := Lib.hid (by have := HY.out; have := HAR.out.2 a (List.mem_of_getElem? ha); omega)
      rw [eA]
      clear ha hb eA
      go_wp2_with fail
      go_roundw
      case rel => exact ⟨j + 1, tw, rfl, rfl, by omega, trivial, HW⟩
      case measure =>
       simp only [intOf]
       omega
     ·obtain rfl : j = m := by omega
      have hng : ¬ (j : Int) < (j : Int) := by omega
      have HNX : Hid ((∃ xs', StAt sb room (wr.setCell ⟨g, q * 6 + 5, none⟩ (.int .i64 ty)) (.slice (some ⟨g, 0, none⟩) pq.2.cs.length cap) bv xs' pq.2.cs ys) ∧ PcAt pb sb vb fb (wr.setCell ⟨g, q * 6 + 5, none⟩ (.int .i64 ty)) need (frI pq.2.fr) ∧ Fr (fun k => k = vb ∨ TyIn stP u k) u (wr.setCell ⟨g, q * 6 + 5, none⟩ (.int .i64 ty))) := Lib.hid (by
       have hgt := HS.out.row.ty (g := g) rfl
       have hgge := HS.out.rowge (g := g) rfl
       refine ⟨⟨_, HS.out.top' HX6.out ty HY.out⟩, HI.out.2.2.2.1.setN hgt (by decide) _, HI.out.2.2.2.2.setCell (p := ⟨g, q * 6 + 5, none⟩) ?_ _⟩
       by_cases hgu : u.heap.size ≤ g
       ·exact .inr hgu
       ·refine .inl (Classical.byContradiction fun hn => ?_)
        have h1 := HI.out.2.2.2.2.block g (by omega) hn
        obtain ⟨cs9, h2⟩ := hgt
        exact hn (.inr ⟨hgge, 366, by decide, cs9, h1 ▸ h2⟩))
      clear hjl
      go_wp2_with fail
      go_roundw
      case rel => exact ⟨q + 1, ty, rfl, rfl, by omega, Lib.hid ⟨HY.out.1, HY.out.2, HNX.out.1, HNX.out.2.1, HNX.out.2.2⟩⟩
      case measure =>
       simp only [intOf]
       omega
   ·obtain rfl : q = pq.2.cs.length := by omega
    have hng : ¬ (pq.2.cs.length : Int) < (pq.2.cs.length : Int) := by omega
    obtain ⟨A6, c6, e6⟩ := HS.out.slice
    obtain ⟨-, s1, -, -⟩ := HS.out.cells
    rw [e6] at s1
    obtain ⟨-, -, p2, -, -⟩ := four_at HI.out.2.2.2.1.blk
    have hlp := HI.out.2.2.2.1.lt
    obtain ⟨w6, k6, r6, b6⟩ := HI.out.2.2.2.1.fresh.map.range (P := Tryz.prog) (t := 104) Tryz.underlying104
    obtain ⟨r, hr⟩ : ∃ r, r = wr.heap.size := ⟨_, rfl⟩
    have HTL : Hid (TellAt vb fb r (frI pq.2.fr) [] (frI pq.2.fr) w6 ∧ StAt sb room w6 cv5 bv xs6 pq.2.cs ys ∧ Fr (fun k => k = vb ∨ TyIn stP u k) u w6) := Lib.hid ⟨⟨by rw [hr]; exact r6, HI.out.2.2.2.1.vars.later b6, by simp, HI.out.2.2.2.1.ne, by have := HI.out.2.2.2.1.vars.lt; omega⟩, HS.out.later b6, HI.out.2.2.2.2.step b6⟩
    have HND : Hid (((frI pq.2.fr).map (·.1)).Nodup ∧ ∀ y ∈ frI pq.2.fr, ok6 y.1) := Lib.hid ⟨HI.out.2.2.2.1.fresh.map.nodup, HI.out.2.2.2.1.fresh.ok⟩
    have HRU : Hid (u.heap.size ≤ r ∧ ∀ {b t'}, TyB wr t' b → b ≠ vb) := Lib.hid ⟨by rw [hr]; exact HI.out.2.2.2.2.size, fun hb e => HI.out.2.2.2.1.vars.map.ne hb e.symm⟩
    rw [← hr] at k6
    have hnil := map_some wr vb
    clear hlt e6 r6 b6 hr
    go_wp2_with fail
    clear k6 s1 p2 hlp hls hnil
    go_loopg [] (frI pq.2.fr).length (fun gk w9 => ∃ done left, Hid (TellAt vb fb r (frI pq.2.fr) done left w9 ∧ StAt sb room w9 cv5 bv xs6 pq.2.cs ys ∧ Fr (fun k => k = vb ∨ TyIn stP u k) u w9 ∧ left.length = gk))
    case atStart => exact ⟨_, _, Lib.hid ⟨HTL.out.1, HTL.out.2.1, HTL.out.2.2, rfl⟩⟩
    case round =>
     obtain ⟨done, left, HR⟩ := hrel
     clear HTL
     by_cases hl : left = []
     ·subst hl
      have hov := HR.out.1.it.over (P := Tryz.prog) (ty := 0)
      have HQ : Hid (P (.returned (.tuple #[.int .i64 (pq.1 : Nat), .int .i64 0])) wr) := Lib.hid (by
       rw [HP.out]
       unfold PutAll
       rw [← HPQ.out]
       refine ⟨rfl, ⟨_, _, HR.out.2.1⟩, ⟨done, HR.out.1.vars, fun n => mget_perm ?_ HR.out.1.vars.map.nodup n⟩, HR.out.2.2.1⟩
       have := HR.out.1.perm
       rwa [List.append_nil] at this)
      go_wp2_with fail
      exact HQ.out
     ·obtain ⟨j, y, wn, hnx, hjx, hitn, hgn, hszn, hent⟩ := HR.out.1.it.next (P := Tryz.prog) (ty := 0) hl
      obtain ⟨w9, k9, t9, g9⟩ := HR.out.1.step HND.out.1 HND.out.2 hitn hgn hjx
      have HNX : Hid (TellAt vb fb r (frI pq.2.fr) (done ++ [y]) (left.eraseIdx j) w9 ∧ StAt sb room w9 cv5 bv xs6 pq.2.cs ys ∧ Fr (fun k => k = vb ∨ TyIn stP u k) u w9 ∧ (left.eraseIdx j).length = gk - 1 ∧ gk - 1 < gk) := Lib.hid (by
       have hj := (List.getElem?_eq_some_iff.1 hjx).1
       have hlen := HR.out.2.2.2
       refine ⟨t9, ?_, (HR.out.2.2.1.grown hgn fun g e => .inr (by have := Option.some.inj e; have := HRU.out.1; omega)).grown g9 fun g e => .inl (.inl (Option.some.inj e).symm), by rw [List.length_eraseIdx, if_pos hj]; omega, by omega⟩
       refine HR.out.2.1.keep fun t' b _ hb => ?_
       have h1 : b ≠ r := fun e => by
        obtain ⟨es, clock, seen, -, -, -, hr9, -⟩ := HR.out.1.it.it
        obtain ⟨cs9, hb⟩ := hb
        rw [e, hr9] at hb
        cases hb
       have h2 : b ≠ vb := fun e => HR.out.1.vars.map.ne hb e.symm
       rw [g9.block b (by have := hb.lt; omega) (fun e => h2 (Option.some.inj e)), hgn.block b hb.lt (fun e => h1 (Option.some.inj e))])
      obtain ⟨y1, y2⟩ := y
      simp only [ev6] at hnx hent
      simp only at k9
      clear hitn hgn hszn hjx t9 g9 hl
      go_wp2_with fail
      go_roundg (gk - 1)
      case measure => exact HNX.out.2.2.2.2
      case rel => exact ⟨_, _, Lib.hid ⟨HNX.out.1, HNX.out.2.1, HNX.out.2.2.1, HNX.out.2.2.2.1⟩⟩
end
end Go.Proofs.YtjdnigepnfeboaaGreatDoor
