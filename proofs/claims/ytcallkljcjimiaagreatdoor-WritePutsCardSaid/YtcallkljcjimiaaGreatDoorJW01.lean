import Derived.Test.YtcallkljcjimiaaGreatDoorJW00
import Derived.Test.YtcallkljcjimiaaGreatDoorProg
import Derived.Lib.Hide
import Derived.WalkKit
import Derived.WalkSmall
import Derived.WalkSpells
import Derived.Laws.AppendOwnNone
import Derived.Deep.AppendLies
import Derived.Deep.RegionLaw
namespace Go.Proofs.YtcallkljcjimiaaGreatDoor
open Go.RowKit
inductive Tm
 | mk (k n : Int) (s : List UInt8) (args : List Tm)
def Tm.k : Tm → Int | .mk k _ _ _ => k
def Tm.n : Tm → Int | .mk _ n _ _ => n
def Tm.s : Tm → List UInt8 | .mk _ _ s _ => s
def Tm.args : Tm → List Tm | .mk _ _ _ l => l
def mayP (k n : Int) (s : List UInt8) (m : Nat) : Bool :=
 if k = 1 then decide (0 ≤ n ∧ s = [] ∧ m = 0) else if k = 2 then decide (s = [] ∧ m = 0) else if k = 3 then decide (n = 0 ∧ s.length ≤ 1000 ∧ m = 0)
 else if k = 4 then decide (n = 0 ∧ s.length ≤ 1000 ∧ 1 ≤ m ∧ m ≤ 255) else false
mutual
def Tm.size : Tm → Nat | .mk _ _ _ l => 1 + Tm.sizes l
def Tm.sizes : List Tm → Nat | [] => 0 | t :: r => t.size + Tm.sizes r
end
mutual
def Tm.deep : Tm → Nat | .mk _ _ _ l => 1 + Tm.deeps l
def Tm.deeps : List Tm → Nat | [] => 0 | t :: r => max t.deep (Tm.deeps r)
end
mutual
def Tm.may : Tm → Bool | .mk k n s l => mayP k n s l.length && Tm.mays l
def Tm.mays : List Tm → Bool | [] => true | t :: r => t.may && Tm.mays r
end
structure TV where
 k : Int
 n : Int
 s : List UInt8
 A : Option Addr
 len : Nat
 cap : Nat
def encTV (x : TV) : List Value := [.int .i64 x.k, .int .i64 x.n, .string ⟨x.s.toArray⟩, .slice x.A x.len x.cap]
def tvV (x : TV) : Value := .agg #[.int .i64 x.k, .int .i64 x.n, .string ⟨x.s.toArray⟩, .slice x.A x.len x.cap]
theorem encTV_len (x : TV) : (encTV x).length = 4 := rfl
theorem encTV_one (x : TV) : ∀ u ∈ encTV x, u.oneCell' = true := by
 intro u hu
 simp [encTV] at hu
 rcases hu with rfl | rfl | rfl | rfl <;> rfl
inductive TermAt (w : World) (B : Nat) : TV → Tm → Prop
 | mk (x : TV) (args : List Tm) (xs : List TV) (h1 : xs.length = x.len) (h2 : args.length = x.len) (h3 : x.s.length ≤ maxLen)
     (hc : ∀ i y, xs[i]? = some y → ∃ b off, x.A = some ⟨b, off, none⟩ ∧ b < B ∧ ∀ j u, (encTV y)[j]? = some u → w.cell? ⟨b, off + i * 4 + j, none⟩ = some u)
     (ht : ∀ (i : Nat) (y : TV) (t : Tm), xs[i]? = some y → args[i]? = some t → TermAt w B y t) : TermAt w B x (.mk x.k x.n x.s args)
theorem TermAt.keep {w w' : World} {B B' : Nat} {x : TV} {t : Tm} (h : TermAt w B x t) (hB : B ≤ B') (hb : ∀ k, k < B → w'.heap[k]? = w.heap[k]?) : TermAt w' B' x t := by
 induction h with
 | mk x args xs h1 h2 h3 hc ht ih =>
  refine .mk x args xs h1 h2 h3 (fun i y hy => ?_) ih
  obtain ⟨b, off, e1, e2, e3⟩ := hc i y hy
  exact ⟨b, off, e1, by omega, fun j u hu => (World.cell?_of_block (a := ⟨b, off + i * 4 + j, none⟩) (hb b e2)).trans (e3 j u hu)⟩
theorem TermAt.blw {w w' : World} {B : Nat} {x : TV} {t : Tm} (h : TermAt w B x t) (hb : Below B w w') : TermAt w' B x t := h.keep (Nat.le_refl _) hb.block
theorem TermAt.up {w : World} {B B' : Nat} {x : TV} {t : Tm} (h : TermAt w B x t) (hB : B ≤ B') : TermAt w B' x t := h.keep hB fun _ _ => rfl
theorem TermAt.later {w w' : World} {x : TV} {t : Tm} (h : TermAt w w.heap.size x t) (hb : Below w.heap.size w w') : TermAt w' w'.heap.size x t := h.keep hb.size hb.block
theorem TermAt.open {w : World} {B : Nat} {x : TV} {t : Tm} (h : TermAt w B x t) : t.k = x.k ∧ t.n = x.n ∧ t.s = x.s ∧ t.args.length = x.len ∧ x.s.length ≤ maxLen ∧
    ∀ i ti, t.args[i]? = some ti → ∃ y b off, x.A = some ⟨b, off, none⟩ ∧ b < B ∧ TermAt w B y ti ∧ ∀ j u, (encTV y)[j]? = some u → w.cell? ⟨b, off + i * 4 + j, none⟩ = some u := by
 cases h with
 | mk _ args xs h1 h2 h3 hc ht =>
  refine ⟨rfl, rfl, rfl, h2, h3, fun i ti hi => ?_⟩
  have hlt := (List.getElem?_eq_some_iff.1 hi).1
  have hlt2 : i < xs.length := by rw [h1, ← h2]; exact hlt
  obtain ⟨b, off, e1, e2, e3⟩ := hc i _ (List.getElem?_eq_getElem hlt2)
  exact ⟨_, b, off, e1, e2, ht i _ ti (List.getElem?_eq_getElem hlt2) hi, e3⟩
set_option maxRecDepth 100000
set_option maxHeartbeats 4000000 in
theorem may_any (w : World) (x : TV) (hs : x.s.length ≤ maxLen) (hl : x.len ≤ maxLen) :
    Calls Tryz.prog 131 #[tvV x] w fun e w' => e = .returned (.bool (mayP x.k x.n x.s x.len)) ∧ Below w.heap.size w w' := by
 obtain ⟨k, n, s, A, m, c⟩ := x
 simp only at hs hl
 unfold tvV
 simp only
 obtain ⟨r, hr⟩ : ∃ r, r = mayP k n s m := ⟨_, rfl⟩
 rw [← hr]
 have HRR := Lib.hid hr
 have hs' : (s.length : Int) ≤ 9223372036854775807 := by unfold maxLen at hs; omega
 have hm' : (m : Int) ≤ 9223372036854775807 := by unfold maxLen at hl; omega
 clear hr hs hl
 by_cases h1 : k = 1
 ·subst h1
  go_enter Tryz.func131, Tryz.ntmps131
  go_wp2_with fail
  all_goals
   go_ret
   refine ⟨?_, (Below.refl _ _).alloc (Nat.le_refl _) _⟩
   have h := HRR.out
   clear HRR
   subst h
   congr 2
   simp_all [mayP] <;> (first | (intros; omega) | (rw [Bool.eq_iff_iff]; simp; omega) | (rw [Bool.eq_iff_iff]; simp))
 by_cases h2 : k = 2
 ·subst h2
  clear h1
  go_enter Tryz.func131, Tryz.ntmps131
  go_wp2_with fail
  all_goals
   go_ret
   refine ⟨?_, (Below.refl _ _).alloc (Nat.le_refl _) _⟩
   have h := HRR.out
   clear HRR
   subst h
   congr 2
   simp_all [mayP] <;> (first | (intros; omega) | (rw [Bool.eq_iff_iff]; simp; omega) | (rw [Bool.eq_iff_iff]; simp))
 by_cases h3 : k = 3
 ·subst h3
  clear h1 h2
  go_enter Tryz.func131, Tryz.ntmps131
  go_wp2_with fail
  all_goals
   go_ret
   refine ⟨?_, (Below.refl _ _).alloc (Nat.le_refl _) _⟩
   have h := HRR.out
   clear HRR
   subst h
   congr 2
   simp_all [mayP] <;> (first | (intros; omega) | (rw [Bool.eq_iff_iff]; simp; omega) | (rw [Bool.eq_iff_iff]; simp))
 by_cases h4 : k = 4
 ·subst h4
  clear h1 h2 h3
  go_enter Tryz.func131, Tryz.ntmps131
  go_wp2_with fail
  all_goals
   go_ret
   refine ⟨?_, (Below.refl _ _).alloc (Nat.le_refl _) _⟩
   have h := HRR.out
   clear HRR
   subst h
   congr 2
   simp_all [mayP] <;> (first | (intros; omega) | (rw [Bool.eq_iff_iff]; simp; omega) | (rw [Bool.eq_iff_iff]; simp))
 ·go_enter Tryz.func131, Tryz.ntmps131
  go_wp2_with fail
  all_goals
   go_ret
   refine ⟨?_, (Below.refl _ _).alloc (Nat.le_refl _) _⟩
   have h := HRR.out
   clear HRR
   subst h
   congr 2
   simp_all [mayP]
structure Meas where
 bad : Bool
 size : Nat
 deep : Nat
def MeasAt (w : World) (b : Nat) (m : Meas) : Prop := w.heap[b]? = some (.cells #[.bool m.bad, .int .i64 m.size, .int .i64 m.deep] 125 (0, 0))
def Meas.step (m : Meas) (k n : Int) (s : List UInt8) (a d : Nat) : Meas := ⟨m.bad || !mayP k n s a, m.size + 1, max m.deep d⟩
theorem blk_put {w : World} {b i : Nat} {cs : Array Value} {t : TypeId} {fr : Nat × Nat} (h : w.heap[b]? = some (.cells cs t fr)) (u : Value) : (w.setCell ⟨b, i, none⟩ u).heap[b]? = some (.cells (cs.setIfInBounds i u) t fr) := by
 simp [World.setCell, Array.getElem?_modify, h]
theorem meas_cells {w1 : World} {b : Nat} {a0 a1 a2 : Value} {t : TypeId} (h : w1.heap[b]? = some (.cells #[a0, a1, a2] t (0, 0))) :
    w1.cell? ⟨b, 0, none⟩ = some a0 ∧ w1.cell? ⟨b, 1, none⟩ = some a1 ∧ w1.cell? ⟨b, 2, none⟩ = some a2 ∧ (∀ o, w1.frozen? ⟨b, o, none⟩ = false) :=
 ⟨by rw [cell_of_row w1 b 0 _ t (0, 0) h]; rfl, by rw [cell_of_row w1 b 1 _ t (0, 0) h]; rfl, by rw [cell_of_row w1 b 2 _ t (0, 0) h]; rfl, fun o => by simp [World.frozen?, h]⟩
set_option maxHeartbeats 4000000 in
theorem take_any (w : World) (b : Nat) (m : Meas) (x : TV) (d : Nat) (hs : x.s.length ≤ maxLen) (hl : x.len ≤ maxLen) (hb : MeasAt w b m) (hsz : m.size ≤ 1000000000) :
    Calls Tryz.prog 104 #[.pointer (some ⟨b, 0, none⟩), tvV x, .int .i64 d] w fun e w' => e = .returned (.tuple #[]) ∧ MeasAt w' b (m.step x.k x.n x.s x.len d) ∧ Fr (fun k => k = b) w w' := by
 have HM : Hid (∀ W : World, Calls Tryz.prog 131 #[tvV x] W fun e W' => e = .returned (.bool (mayP x.k x.n x.s x.len)) ∧ Below W.heap.size W W') := Lib.hid fun W => may_any W x hs hl
 obtain ⟨k, n, s, A, a, c⟩ := x
 unfold tvV at *
 simp only at HM ⊢
 unfold Meas.step
 generalize mayP k n s a = q at *
 obtain ⟨bad, sz, dp⟩ := m
 simp only at hsz ⊢
 have hbl : b < w.heap.size := (Array.getElem?_eq_some_iff.1 hb).1
 have hne : b ≠ w.heap.size := by omega
 unfold MeasAt at hb
 simp only at hb
 have c0 : w.cell? ⟨b, 0, none⟩ = some (.bool bad) := by rw [cell_of_row w b 0 _ _ (0, 0) hb]; rfl
 have c1 : w.cell? ⟨b, 1, none⟩ = some (.int .i64 sz) := by rw [cell_of_row w b 1 _ _ (0, 0) hb]; rfl
 have c2 : w.cell? ⟨b, 2, none⟩ = some (.int .i64 dp) := by rw [cell_of_row w b 2 _ _ (0, 0) hb]; rfl
 have hf : ∀ o, w.frozen? ⟨b, o, none⟩ = false := fun o => by simp [World.frozen?, hb]
 have HB := Lib.hid hb
 clear hb
 by_cases hdd : dp < d
 ·have hmax : max dp d = d := by omega
  have hdd' : (dp : Int) < (d : Int) := by omega
  rw [hmax]
  clear hmax hdd
  cases q
  ·go_enter Tryz.func104, Tryz.ntmps104
   go_wp2_with fail
   refine (HM.out _).mono ?_
   rintro e w2 ⟨rfl, hb2⟩
   have hw2 : w2.heap[b]? = some (.cells #[.bool bad, .int .i64 ((sz : Int) + 1), .int .i64 (d : Nat)] 125 (0, 0)) := by
    rw [hb2.block b (by simp [World.setCell]; omega), Below.heap_alloc _ _ _ (by simp [World.setCell]; omega)]
    exact blk_put (blk_put HB.out _) _
   have hf2 : Fr (fun k => k = b) w w2 := (((Fr.refl (fun k => k = b) w).setCell (p := ⟨b, 1, none⟩) (.inl rfl) _).setCell (p := ⟨b, 2, none⟩) (.inl rfl) _).alloc _ |>.step hb2
   have HF2 := Lib.hid hf2
   have HW2 := Lib.hid hw2
   obtain ⟨d0, d1, d2, df⟩ := meas_cells hw2
   clear hb2 hw2 hf2
   go_wp2_with fail
   go_end0
   exact ⟨rfl, by rw [Bool.not_false, Bool.or_true]; exact blk_put HW2.out _, HF2.out.setCell (p := ⟨b, 0, none⟩) (.inl rfl) _⟩
  ·go_enter Tryz.func104, Tryz.ntmps104
   go_wp2_with fail
   refine (HM.out _).mono ?_
   rintro e w2 ⟨rfl, hb2⟩
   have hw2 : w2.heap[b]? = some (.cells #[.bool bad, .int .i64 ((sz : Int) + 1), .int .i64 (d : Nat)] 125 (0, 0)) := by
    rw [hb2.block b (by simp [World.setCell]; omega), Below.heap_alloc _ _ _ (by simp [World.setCell]; omega)]
    exact blk_put (blk_put HB.out _) _
   have hf2 : Fr (fun k => k = b) w w2 := (((Fr.refl (fun k => k = b) w).setCell (p := ⟨b, 1, none⟩) (.inl rfl) _).setCell (p := ⟨b, 2, none⟩) (.inl rfl) _).alloc _ |>.step hb2
   have HF2 := Lib.hid hf2
   have HW2 := Lib.hid hw2
   obtain ⟨d0, d1, d2, df⟩ := meas_cells hw2
   clear hb2 hw2 hf2
   go_wp2_with fail
   go_end0
   exact ⟨rfl, by rw [Bool.not_true, Bool.or_false]; exact HW2.out, HF2.out⟩
 ·have hmax : max dp d = dp := by omega
  have hdd' : ¬ (dp : Int) < (d : Int) := by omega
  rw [hmax]
  clear hmax hdd
  cases q
  ·go_enter Tryz.func104, Tryz.ntmps104
   go_wp2_with fail
   refine (HM.out _).mono ?_
   rintro e w2 ⟨rfl, hb2⟩
   have hw2 : w2.heap[b]? = some (.cells #[.bool bad, .int .i64 ((sz : Int) + 1), .int .i64 (dp : Nat)] 125 (0, 0)) := by
    rw [hb2.block b (by simp [World.setCell]; omega), Below.heap_alloc _ _ _ (by simp [World.setCell]; omega)]
    exact blk_put (blk_put HB.out _) _
   have hf2 : Fr (fun k => k = b) w w2 := (((Fr.refl (fun k => k = b) w).setCell (p := ⟨b, 1, none⟩) (.inl rfl) _).setCell (p := ⟨b, 2, none⟩) (.inl rfl) _).alloc _ |>.step hb2
   have HF2 := Lib.hid hf2
   have HW2 := Lib.hid hw2
   obtain ⟨d0, d1, d2, df⟩ := meas_cells hw2
   clear hb2 hw2 hf2
   go_wp2_with fail
   go_end0
   exact ⟨rfl, by rw [Bool.not_false, Bool.or_true]; exact blk_put HW2.out _, HF2.out.setCell (p := ⟨b, 0, none⟩) (.inl rfl) _⟩
  ·go_enter Tryz.func104, Tryz.ntmps104
   go_wp2_with fail
   refine (HM.out _).mono ?_
   rintro e w2 ⟨rfl, hb2⟩
   have hw2 : w2.heap[b]? = some (.cells #[.bool bad, .int .i64 ((sz : Int) + 1), .int .i64 (dp : Nat)] 125 (0, 0)) := by
    rw [hb2.block b (by simp [World.setCell]; omega), Below.heap_alloc _ _ _ (by simp [World.setCell]; omega)]
    exact blk_put (blk_put HB.out _) _
   have hf2 : Fr (fun k => k = b) w w2 := (((Fr.refl (fun k => k = b) w).setCell (p := ⟨b, 1, none⟩) (.inl rfl) _).setCell (p := ⟨b, 2, none⟩) (.inl rfl) _).alloc _ |>.step hb2
   have HF2 := Lib.hid hf2
   have HW2 := Lib.hid hw2
   obtain ⟨d0, d1, d2, df⟩ := meas_cells hw2
   clear hb2 hw2 hf2
   go_wp2_with fail
   go_end0
   exact ⟨rfl, by rw [Bool.not_true, Bool.or_false]; exact HW2.out, HF2.out⟩
theorem step_run {P : Program} {w w' : World} {ops : Array Oper} {o : Oper} {a : Act} {K : Act → World → Prop} {Q : Exit → Act → World → Prop} {E : Prop} (hgd : o.guard = none) (s x : Operand) (t : TypeId)
    (ho : o.op = .call { callee := .builtin .append, args := #[s, x], argTypes := #[t, t] }) {v v' y : Value} (hs : a.eval s = v) (hx : a.eval x = y)
    (hrun : (Builtin.append_ #[t, t] o.type #[v, y]).run P w = .ok v' w') (h : K (a.put o.dst v') w') : if Region.wanted o (yielded ops a.tmps) = true then Oper.wp P o a w K Q else E := by
 have hw : Region.wanted o (yielded ops a.tmps) = true := by simp [Region.wanted, hgd]
 rw [if_pos hw]
 unfold Oper.wp
 simp [execOp, ho, resolve, invoke, builtin, hs, hx, hrun, Result.andThen]
 exact h
theorem cell_made (w : World) (cs : Array Value) (t : TypeId) (i : Nat) (u : Value) (h : cs[i]? = some u) : (w.alloc (.cells cs t)).cell? ⟨w.heap.size, i, none⟩ = some u := by
 rw [cell_of_row _ _ i cs t (0, 0) (heap_alloc_new w _)]
 exact h
section
variable {P : Program} {α : Type} {w : World} {B sz : Nat} {e : TypeId} {enc : α → List Value}
theorem Row.one (henc : ∀ x, (enc x).length = sz) (w : World) (x : α) (hB : B ≤ w.heap.size) : Row (w.alloc (.cells (enc x).toArray e)) B e sz enc (.slice (some ⟨w.heap.size, 0, none⟩) 1 1) [x] := by
 refine ⟨by simp [henc], .inr ⟨w.heap.size, 1, (enc x).toArray, rfl, hB, heap_alloc_new w _, Nat.le_refl _, by unfold maxLen; omega, by simp [henc], ?_⟩⟩
 rw [List.flatMap_cons, List.flatMap_nil, List.append_nil]
 simp only [List.length_cons, List.length_nil, Nat.zero_add, Nat.one_mul]
 exact List.take_of_length_le (by rw [henc]; exact Nat.le_refl _)
theorem Row.push {t : TypeId} (t' : TypeId) {i : TypeInfo} {z : Value} {bytes : Nat} (ht : P.underlying t = some (.slice e)) (hi : P.info? e = some i) (hz : i.zero = some z) (hsize : i.size = sz) (hby : i.bytes = bytes) (hzs : z.cells.size = sz) (hsz : 0 < sz)
    (henc : ∀ x, (enc x).length = sz) (h1 : ∀ x, ∀ u ∈ enc x, u.oneCell' = true) {v : Value} {l : List α} (h : Row w B e sz enc v l) (y : α) (g cap : Nat) (hnews : ∀ j u, (enc y)[j]? = some u → w.cell? ⟨g, j, none⟩ = some u)
    (h63 : l.length + 1 ≤ maxLen) (hbytes : (l.length + 1) * bytes ≤ 140737488355328) (hbase : B ≤ w.heap.size) :
    ∃ g' cap' w', (Builtin.append_ #[t, t] t' #[v, .slice (some ⟨g, 0, none⟩) 1 cap]).run P w = .ok (.slice (some ⟨g', 0, none⟩) (l.length + 1) cap') w' ∧ Row w' B e sz enc (.slice (some ⟨g', 0, none⟩) (l.length + 1) cap') (l ++ [y]) ∧ w.grownBy w' v.ownBlock ∧
     (v.ownBlock = some g' ∨ g' = w.heap.size) := by
 obtain ⟨g', cap', w', e1, e2, e3, e4, _⟩ := run_append_lies (P := P) w t t' B e i z sz bytes ht hi hz hsize hby hzs hsz v l.length (l.flatMap enc) h.own ⟨g, 0, none⟩ 1 cap (enc y) (by rw [henc, Nat.one_mul])
  (fun j u hu => by
    have : (⟨g, 0, none⟩ : Addr).add j = ⟨g, j, none⟩ := by unfold Addr.add; split <;> simp_all
    rw [this]
    exact hnews j u hu) (h1 y) (by omega) h63 hbytes hbase w.heap.size rfl
 refine ⟨g', cap', w', e1, ⟨?_⟩, e3, e4⟩
 rw [List.flatMap_append, List.length_append]
 simpa using e2
end
def allocs : World → List Obj → World
 | w, [] => w
 | w, o :: r => allocs (w.alloc o) r
theorem allocs_size : ∀ (w : World) (l : List Obj), (allocs w l).heap.size = w.heap.size + l.length
 | w, [] => rfl
 | w, o :: r => by rw [allocs, allocs_size, List.length_cons]; simp; omega
theorem allocs_below : ∀ (w : World) (l : List Obj), Below w.heap.size w (allocs w l)
 | w, [] => Below.refl _ _
 | w, o :: r => ((Below.refl w.heap.size w).alloc (Nat.le_refl _) o).trans ((allocs_below (w.alloc o) r).mono (by simp))
theorem allocs_at : ∀ (w : World) (l : List Obj) (i : Nat) (o : Obj), l[i]? = some o → (allocs w l).heap[w.heap.size + i]? = some o
 | w, [], i, o, h => by simp at h
 | w, x :: r, 0, o, h => by
  simp at h
  subst h
  rw [allocs, Nat.add_zero, (allocs_below (w.alloc x) r).block w.heap.size (by simp)]
  exact heap_alloc_new w _
 | w, x :: r, i + 1, o, h => by
  have := allocs_at (w.alloc x) r i o (by simpa using h)
  rw [allocs, show w.heap.size + (i + 1) = (w.alloc x).heap.size + i by simp; omega]
  exact this
end Go.Proofs.YtcallkljcjimiaaGreatDoor
