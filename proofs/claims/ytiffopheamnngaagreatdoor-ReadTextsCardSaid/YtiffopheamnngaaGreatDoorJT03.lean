import Derived.Test.YtiffopheamnngaaGreatDoorJT02
import Derived.Laws.AppendOwnNone
import Derived.Deep.AppendLies
import Derived.Deep.RegionLaw
import Derived.WalkSpells
import Derived.BigQuiet
import Derived.StillTailTactics
namespace Go.Proofs.YtiffopheamnngaaGreatDoor
open Go.RowKit
theorem Row.cap_le {α : Type} {w : World} {B sz n cap : Nat} {A : Option Addr} {e : TypeId} {enc : α → List Value} {l : List α} (h : Row w B e sz enc (.slice A n cap) l) : n ≤ cap := by
 rcases h.own.2 with ⟨e1, _⟩ | ⟨g, cap', cur, e1, _, _, hn, _⟩
 ·injection e1 with _ a b; omega
 ·injection e1 with _ a b; omega
theorem step_run {P : Program} {w w' : World} {ops : Array Oper} {o : Oper} {a : Act} {K : Act → World → Prop} {Q : Exit → Act → World → Prop} {E : Prop} (hgd : o.guard = none) (s x : Operand) (t : TypeId)
    (ho : o.op = .call { callee := .builtin .append, args := #[s, x], argTypes := #[t, t] }) {v v' y : Value} (hs : a.eval s = v) (hx : a.eval x = y)
    (hrun : (Builtin.append_ #[t, t] o.type #[v, y]).run P w = .ok v' w') (h : K (a.put o.dst v') w') : if Region.wanted o (yielded ops a.tmps) = true then Oper.wp P o a w K Q else E := by
 have hw : Region.wanted o (yielded ops a.tmps) = true := by simp [Region.wanted, hgd]
 rw [if_pos hw]
 unfold Oper.wp
 simp [execOp, ho, resolve, invoke, builtin, hs, hx, hrun, Result.andThen]
 exact h
theorem cell_made (w : World) (cs : Array Value) (t : TypeId) (i : Nat) (u : Value) (h : cs[i]? = some u) : (w.alloc (.cells cs t)).cell? ⟨w.heap.size, i, none⟩ = some u := by
 rw [cell_of_row _ _ i cs t (0, 0) (heap_alloc_new w _)]
 exact h
section
variable {P : Program} {α : Type} {w : World} {B sz : Nat} {e : TypeId} {enc : α → List Value}
theorem Row.one (henc : ∀ x, (enc x).length = sz) (w : World) (x : α) (hB : B ≤ w.heap.size) : Row (w.alloc (.cells (enc x).toArray e)) B e sz enc (.slice (some ⟨w.heap.size, 0, none⟩) 1 1) [x] := by
 refine ⟨by simp [henc], .inr ⟨w.heap.size, 1, (enc x).toArray, rfl, hB, heap_alloc_new w _, Nat.le_refl _, by unfold maxLen; omega, by simp [henc], ?_⟩⟩
 rw [List.flatMap_cons, List.flatMap_nil, List.append_nil]
 simp only [List.length_cons, List.length_nil, Nat.zero_add, Nat.one_mul]
 exact List.take_of_length_le (by rw [henc]; exact Nat.le_refl _)
theorem Row.push {t : TypeId} (t' : TypeId) {i : TypeInfo} {z : Value} {bytes : Nat} (ht : P.underlying t = some (.slice e)) (hi : P.info? e = some i) (hz : i.zero = some z) (hsize : i.size = sz) (hby : i.bytes = bytes) (hzs : z.cells.size = sz) (hsz : 0 < sz)
    (henc : ∀ x, (enc x).length = sz) (h1 : ∀ x, ∀ u ∈ enc x, u.oneCell' = true) {v : Value} {l : List α} (h : Row w B e sz enc v l) (y : α) (g cap : Nat) (hnews : ∀ j u, (enc y)[j]? = some u → w.cell? ⟨g, j, none⟩ = some u)
    (h63 : l.length + 1 ≤ maxLen) (hbytes : (l.length + 1) * bytes ≤ 140737488355328) (hbase : B ≤ w.heap.size) :
    ∃ g' cap' w', (Builtin.append_ #[t, t] t' #[v, .slice (some ⟨g, 0, none⟩) 1 cap]).run P w = .ok (.slice (some ⟨g', 0, none⟩) (l.length + 1) cap') w' ∧ Row w' B e sz enc (.slice (some ⟨g', 0, none⟩) (l.length + 1) cap') (l ++ [y]) ∧ w.grownBy w' v.ownBlock ∧
     (v.ownBlock = some g' ∨ g' = w.heap.size) := by
 obtain ⟨g', cap', w', e1, e2, e3, e4, _⟩ := run_append_lies (P := P) w t t' B e i z sz bytes ht hi hz hsize hby hzs hsz v l.length (l.flatMap enc) h.own ⟨g, 0, none⟩ 1 cap (enc y) (by rw [henc, Nat.one_mul])
  (fun j u hu => by
    have : (⟨g, 0, none⟩ : Addr).add j = ⟨g, j, none⟩ := by unfold Addr.add; split <;> simp_all
    rw [this]
    exact hnews j u hu) (h1 y) (by omega) h63 hbytes hbase w.heap.size rfl
 refine ⟨g', cap', w', e1, ⟨?_⟩, e3, e4⟩
 rw [List.flatMap_append, List.length_append]
 simpa using e2
end
def allocs : World → List Obj → World
 | w, [] => w
 | w, o :: r => allocs (w.alloc o) r
theorem allocs_size : ∀ (w : World) (l : List Obj), (allocs w l).heap.size = w.heap.size + l.length
 | w, [] => rfl
 | w, o :: r => by rw [allocs, allocs_size, List.length_cons]; simp; omega
theorem allocs_below : ∀ (w : World) (l : List Obj), Below w.heap.size w (allocs w l)
 | w, [] => Below.refl _ _
 | w, o :: r => ((Below.refl w.heap.size w).alloc (Nat.le_refl _) o).trans ((allocs_below (w.alloc o) r).mono (by simp))
theorem allocs_at : ∀ (w : World) (l : List Obj) (i : Nat) (o : Obj), l[i]? = some o → (allocs w l).heap[w.heap.size + i]? = some o
 | w, [], i, o, h => by simp at h
 | w, x :: r, 0, o, h => by
  simp at h
  subst h
  rw [allocs, Nat.add_zero, (allocs_below (w.alloc x) r).block w.heap.size (by simp)]
  exact heap_alloc_new w _
 | w, x :: r, i + 1, o, h => by
  have := allocs_at (w.alloc x) r i o (by simpa using h)
  rw [allocs, show w.heap.size + (i + 1) = (w.alloc x).heap.size + i by simp; omega]
  exact this
end Go.Proofs.YtiffopheamnngaaGreatDoor
namespace Go.Proofs.YtiffopheamnngaaGreatDoor
open Go.RowKit
set_option maxRecDepth 100000
set_option maxHeartbeats 4000000 in
theorem may_any (w : World) (x : TV) (hs : x.s.length ≤ maxLen) (hl : x.len ≤ maxLen) :
    Calls Tryz.prog 107 #[tvV x] w fun e w' => e = .returned (.bool (mayP x.k x.n x.s x.len)) ∧ Below w.heap.size w w' := by
 obtain ⟨k, n, s, A, m, c⟩ := x
 simp only at hs hl
 unfold tvV
 simp only
 obtain ⟨r, hr⟩ : ∃ r, r = mayP k n s m := ⟨_, rfl⟩
 rw [← hr]
 have HRR := Lib.hid hr
 have hs' : (s.length : Int) ≤ 9223372036854775807 := by unfold maxLen at hs; omega
 have hm' : (m : Int) ≤ 9223372036854775807 := by unfold maxLen at hl; omega
 clear hr hs hl
 by_cases h1 : k = 1
 ·subst h1
  go_enter Tryz.func107, Tryz.ntmps107
  go_wp2_with fail
  all_goals
   go_ret
   refine ⟨?_, (Below.refl _ _).alloc (Nat.le_refl _) _⟩
   have h := HRR.out
   clear HRR
   subst h
   congr 2
   simp_all [mayP] <;> (first | (intros; omega) | (rw [Bool.eq_iff_iff]; simp; omega) | (rw [Bool.eq_iff_iff]; simp))
 by_cases h2 : k = 2
 ·subst h2
  clear h1
  go_enter Tryz.func107, Tryz.ntmps107
  go_wp2_with fail
  all_goals
   go_ret
   refine ⟨?_, (Below.refl _ _).alloc (Nat.le_refl _) _⟩
   have h := HRR.out
   clear HRR
   subst h
   congr 2
   simp_all [mayP] <;> (first | (intros; omega) | (rw [Bool.eq_iff_iff]; simp; omega) | (rw [Bool.eq_iff_iff]; simp))
 by_cases h3 : k = 3
 ·subst h3
  clear h1 h2
  go_enter Tryz.func107, Tryz.ntmps107
  go_wp2_with fail
  all_goals
   go_ret
   refine ⟨?_, (Below.refl _ _).alloc (Nat.le_refl _) _⟩
   have h := HRR.out
   clear HRR
   subst h
   congr 2
   simp_all [mayP] <;> (first | (intros; omega) | (rw [Bool.eq_iff_iff]; simp; omega) | (rw [Bool.eq_iff_iff]; simp))
 by_cases h4 : k = 4
 ·subst h4
  clear h1 h2 h3
  go_enter Tryz.func107, Tryz.ntmps107
  go_wp2_with fail
  all_goals
   go_ret
   refine ⟨?_, (Below.refl _ _).alloc (Nat.le_refl _) _⟩
   have h := HRR.out
   clear HRR
   subst h
   congr 2
   simp_all [mayP] <;> (first | (intros; omega) | (rw [Bool.eq_iff_iff]; simp; omega) | (rw [Bool.eq_iff_iff]; simp))
 ·go_enter Tryz.func107, Tryz.ntmps107
  go_wp2_with fail
  all_goals
   go_ret
   refine ⟨?_, (Below.refl _ _).alloc (Nat.le_refl _) _⟩
   have h := HRR.out
   clear HRR
   subst h
   congr 2
   simp_all [mayP]
structure Meas where
 bad : Bool
 size : Nat
 deep : Nat
def MeasAt (w : World) (b : Nat) (m : Meas) : Prop := w.heap[b]? = some (.cells #[.bool m.bad, .int .i64 m.size, .int .i64 m.deep] 127 (0, 0))
def Meas.step (m : Meas) (k n : Int) (s : List UInt8) (a d : Nat) : Meas := ⟨m.bad || !mayP k n s a, m.size + 1, max m.deep d⟩
theorem blk_put {w : World} {b i : Nat} {cs : Array Value} {t : TypeId} {fr : Nat × Nat} (h : w.heap[b]? = some (.cells cs t fr)) (u : Value) : (w.setCell ⟨b, i, none⟩ u).heap[b]? = some (.cells (cs.setIfInBounds i u) t fr) := by
 simp [World.setCell, Array.getElem?_modify, h]
theorem meas_cells {w1 : World} {b : Nat} {a0 a1 a2 : Value} {t : TypeId} (h : w1.heap[b]? = some (.cells #[a0, a1, a2] t (0, 0))) :
    w1.cell? ⟨b, 0, none⟩ = some a0 ∧ w1.cell? ⟨b, 1, none⟩ = some a1 ∧ w1.cell? ⟨b, 2, none⟩ = some a2 ∧ (∀ o, w1.frozen? ⟨b, o, none⟩ = false) :=
 ⟨by rw [cell_of_row w1 b 0 _ t (0, 0) h]; rfl, by rw [cell_of_row w1 b 1 _ t (0, 0) h]; rfl, by rw [cell_of_row w1 b 2 _ t (0, 0) h]; rfl, fun o => by simp [World.frozen?, h]⟩
set_option maxHeartbeats 4000000 in
theorem take_any (w : World) (b : Nat) (m : Meas) (x : TV) (d : Nat) (hs : x.s.length ≤ maxLen) (hl : x.len ≤ maxLen) (hb : MeasAt w b m) (hsz : m.size ≤ 1000000000) :
    Calls Tryz.prog 90 #[.pointer (some ⟨b, 0, none⟩), tvV x, .int .i64 d] w fun e w' => e = .returned (.tuple #[]) ∧ MeasAt w' b (m.step x.k x.n x.s x.len d) ∧ Fr (fun k => k = b) w w' := by
 have HM : Hid (∀ W : World, Calls Tryz.prog 107 #[tvV x] W fun e W' => e = .returned (.bool (mayP x.k x.n x.s x.len)) ∧ Below W.heap.size W W') := Lib.hid fun W => may_any W x hs hl
 obtain ⟨k, n, s, A, a, c⟩ := x
 unfold tvV at *
 simp only at HM ⊢
 unfold Meas.step
 generalize mayP k n s a = q at *
 obtain ⟨bad, sz, dp⟩ := m
 simp only at hsz ⊢
 have hbl : b < w.heap.size := (Array.getElem?_eq_some_iff.1 hb).1
 have hne : b ≠ w.heap.size := by omega
 unfold MeasAt at hb
 simp only at hb
 have c0 : w.cell? ⟨b, 0, none⟩ = some (.bool bad) := by rw [cell_of_row w b 0 _ _ (0, 0) hb]; rfl
 have c1 : w.cell? ⟨b, 1, none⟩ = some (.int .i64 sz) := by rw [cell_of_row w b 1 _ _ (0, 0) hb]; rfl
 have c2 : w.cell? ⟨b, 2, none⟩ = some (.int .i64 dp) := by rw [cell_of_row w b 2 _ _ (0, 0) hb]; rfl
 have hf : ∀ o, w.frozen? ⟨b, o, none⟩ = false := fun o => by simp [World.frozen?, hb]
 have HB := Lib.hid hb
 clear hb
 by_cases hdd : dp < d
 ·have hmax : max dp d = d := by omega
  have hdd' : (dp : Int) < (d : Int) := by omega
  rw [hmax]
  clear hmax hdd
  cases q
  ·go_enter Tryz.func90, Tryz.ntmps90
   go_wp2_with fail
   refine (HM.out _).mono ?_
   rintro e w2 ⟨rfl, hb2⟩
   have hw2 : w2.heap[b]? = some (.cells #[.bool bad, .int .i64 ((sz : Int) + 1), .int .i64 (d : Nat)] 127 (0, 0)) := by
    rw [hb2.block b (by simp [World.setCell]; omega), Below.heap_alloc _ _ _ (by simp [World.setCell]; omega)]
    exact blk_put (blk_put HB.out _) _
   have hf2 : Fr (fun k => k = b) w w2 := (((Fr.refl (fun k => k = b) w).setCell (p := ⟨b, 1, none⟩) (.inl rfl) _).setCell (p := ⟨b, 2, none⟩) (.inl rfl) _).alloc _ |>.step hb2
   have HF2 := Lib.hid hf2
   have HW2 := Lib.hid hw2
   obtain ⟨d0, d1, d2, df⟩ := meas_cells hw2
   clear hb2 hw2 hf2
   go_wp2_with fail
   go_end0
   exact ⟨rfl, by rw [Bool.not_false, Bool.or_true]; exact blk_put HW2.out _, HF2.out.setCell (p := ⟨b, 0, none⟩) (.inl rfl) _⟩
  ·go_enter Tryz.func90, Tryz.ntmps90
   go_wp2_with fail
   refine (HM.out _).mono ?_
   rintro e w2 ⟨rfl, hb2⟩
   have hw2 : w2.heap[b]? = some (.cells #[.bool bad, .int .i64 ((sz : Int) + 1), .int .i64 (d : Nat)] 127 (0, 0)) := by
    rw [hb2.block b (by simp [World.setCell]; omega), Below.heap_alloc _ _ _ (by simp [World.setCell]; omega)]
    exact blk_put (blk_put HB.out _) _
   have hf2 : Fr (fun k => k = b) w w2 := (((Fr.refl (fun k => k = b) w).setCell (p := ⟨b, 1, none⟩) (.inl rfl) _).setCell (p := ⟨b, 2, none⟩) (.inl rfl) _).alloc _ |>.step hb2
   have HF2 := Lib.hid hf2
   have HW2 := Lib.hid hw2
   obtain ⟨d0, d1, d2, df⟩ := meas_cells hw2
   clear hb2 hw2 hf2
   go_wp2_with fail
   go_end0
   exact ⟨rfl, by rw [Bool.not_true, Bool.or_false]; exact HW2.out, HF2.out⟩
 ·have hmax : max dp d = dp := by omega
  have hdd' : ¬ (dp : Int) < (d : Int) := by omega
  rw [hmax]
  clear hmax hdd
  cases q
  ·go_enter Tryz.func90, Tryz.ntmps90
   go_wp2_with fail
   refine (HM.out _).mono ?_
   rintro e w2 ⟨rfl, hb2⟩
   have hw2 : w2.heap[b]? = some (.cells #[.bool bad, .int .i64 ((sz : Int) + 1), .int .i64 (dp : Nat)] 127 (0, 0)) := by
    rw [hb2.block b (by simp [World.setCell]; omega), Below.heap_alloc _ _ _ (by simp [World.setCell]; omega)]
    exact blk_put (blk_put HB.out _) _
   have hf2 : Fr (fun k => k = b) w w2 := (((Fr.refl (fun k => k = b) w).setCell (p := ⟨b, 1, none⟩) (.inl rfl) _).setCell (p := ⟨b, 2, none⟩) (.inl rfl) _).alloc _ |>.step hb2
   have HF2 := Lib.hid hf2
   have HW2 := Lib.hid hw2
   obtain ⟨d0, d1, d2, df⟩ := meas_cells hw2
   clear hb2 hw2 hf2
   go_wp2_with fail
   go_end0
   exact ⟨rfl, by rw [Bool.not_false, Bool.or_true]; exact blk_put HW2.out _, HF2.out.setCell (p := ⟨b, 0, none⟩) (.inl rfl) _⟩
  ·go_enter Tryz.func90, Tryz.ntmps90
   go_wp2_with fail
   refine (HM.out _).mono ?_
   rintro e w2 ⟨rfl, hb2⟩
   have hw2 : w2.heap[b]? = some (.cells #[.bool bad, .int .i64 ((sz : Int) + 1), .int .i64 (dp : Nat)] 127 (0, 0)) := by
    rw [hb2.block b (by simp [World.setCell]; omega), Below.heap_alloc _ _ _ (by simp [World.setCell]; omega)]
    exact blk_put (blk_put HB.out _) _
   have hf2 : Fr (fun k => k = b) w w2 := (((Fr.refl (fun k => k = b) w).setCell (p := ⟨b, 1, none⟩) (.inl rfl) _).setCell (p := ⟨b, 2, none⟩) (.inl rfl) _).alloc _ |>.step hb2
   have HF2 := Lib.hid hf2
   have HW2 := Lib.hid hw2
   obtain ⟨d0, d1, d2, df⟩ := meas_cells hw2
   clear hb2 hw2 hf2
   go_wp2_with fail
   go_end0
   exact ⟨rfl, by rw [Bool.not_true, Bool.or_false]; exact HW2.out, HF2.out⟩
theorem below_call' {w E u : World} (h : Below w.heap.size w E) (hb : Below E.heap.size E u) : Below w.heap.size w u := h.trans (hb.mono h.size)
theorem below_alloc' {w E : World} (h : Below w.heap.size w E) (o : Obj) : Below w.heap.size w (E.alloc o) := h.alloc h.size o
theorem below_drewN' {w E : World} (h : Below w.heap.size w E) (n : Nat) : Below w.heap.size w (E.drewN n) := ⟨h.os, h.tape, h.output, h.size, h.block⟩
structure ToksAt (w : World) (B : Nat) (A : Option Addr) (n : Nat) (l : List Tok) : Prop where
 len : l.length = n
 at' : ∀ (i : Nat) (t : Tok), l[i]? = some t → ∃ b off, A = some ⟨b, off, none⟩ ∧ b < B ∧ w.cell? ⟨b, off + i * 6, none⟩ = some (.int .i64 t.kind) ∧ w.cell? ⟨b, off + i * 6 + 1, none⟩ = some (.int .i64 t.line) ∧ w.cell? ⟨b, off + i * 6 + 2, none⟩ = some (.int .i64 t.n) ∧
  w.cell? ⟨b, off + i * 6 + 3, none⟩ = some (.string ⟨t.s.toArray⟩) ∧ w.cell? ⟨b, off + i * 6 + 4, none⟩ = some (.bool t.opn) ∧ w.cell? ⟨b, off + i * 6 + 5, none⟩ = some (.bool t.tight)
theorem ToksAt.keep {w w' : World} {B : Nat} {A : Option Addr} {n : Nat} {l : List Tok} (h : ToksAt w B A n l) (hb : ∀ k, k < B → w'.heap[k]? = w.heap[k]?) : ToksAt w' B A n l :=
 ⟨h.len, fun i t ht => by
  obtain ⟨b, off, h1, h2, c0, c1, c2, c3, c4, c5⟩ := h.at' i t ht
  exact ⟨b, off, h1, h2, (World.cell?_of_block (a := ⟨b, off + i * 6, none⟩) (hb b h2)).trans c0, (World.cell?_of_block (a := ⟨b, off + i * 6 + 1, none⟩) (hb b h2)).trans c1, (World.cell?_of_block (a := ⟨b, off + i * 6 + 2, none⟩) (hb b h2)).trans c2,
   (World.cell?_of_block (a := ⟨b, off + i * 6 + 3, none⟩) (hb b h2)).trans c3, (World.cell?_of_block (a := ⟨b, off + i * 6 + 4, none⟩) (hb b h2)).trans c4, (World.cell?_of_block (a := ⟨b, off + i * 6 + 5, none⟩) (hb b h2)).trans c5⟩⟩
def tokW (t : Tok) : Value := .agg #[.int .i64 t.kind, .int .i64 t.line, .int .i64 t.n, .string ⟨t.s.toArray⟩, .bool t.opn, .bool t.tight]
structure RdV where
 A : Option Addr
 n : Nat
 c : Nat
 ob : Value
 bv : Value
 wv : Value
 x : TV
 vb : Value
 nv : Value
def rdCells (v : RdV) (s : RdS) : Array Value :=
 #[.slice v.A v.n v.c, .int .i64 (s.at' : Int), v.ob, v.bv, v.wv, .int .i64 s.most, .bool s.hv, .int .i64 v.x.k, .int .i64 v.x.n, .string ⟨v.x.s.toArray⟩, .slice v.x.A v.x.len v.x.cap, .int .i64 s.pri, v.vb, v.nv, .int .i64 s.cnt]
def RdB (u : World) (rb : Nat) (v : RdV) (s : RdS) : Prop := u.heap[rb]? = some (.cells (rdCells v s) 72 (0, 0))
theorem RdB.lt {u : World} {rb : Nat} {v : RdV} {s : RdS} (h : RdB u rb v s) : rb < u.heap.size := (Array.getElem?_eq_some_iff.1 h).1
theorem RdB.later {u u' : World} {rb : Nat} {v : RdV} {s : RdS} (h : RdB u rb v s) (hb : Below u.heap.size u u') : RdB u' rb v s := (hb.block _ h.lt).trans h
theorem RdB.cell {u : World} {rb : Nat} {v : RdV} {s : RdS} (h : RdB u rb v s) {i : Nat} {x : Value} (hx : (rdCells v s)[i]? = some x) : u.cell? ⟨rb, i, none⟩ = some x := by
 rw [cell_of_row u rb i _ _ (0, 0) h]
 exact hx
theorem RdB.free {u : World} {rb : Nat} {v : RdV} {s : RdS} (h : RdB u rb v s) (o : Nat) : u.frozen? ⟨rb, o, none⟩ = false := by simp [World.frozen?, show u.heap[rb]? = _ from h]
theorem RdB.put {u : World} {rb : Nat} {v v' : RdV} {s s' : RdS} (h : RdB u rb v s) (i : Nat) (x : Value) (he : (rdCells v s).setIfInBounds i x = rdCells v' s') : RdB (u.setCell ⟨rb, i, none⟩ x) rb v' s' := by
 have := blk_put (i := i) h x
 rw [he] at this
 exact this
structure RdAt (u : World) (rb : Nat) (v : RdV) (ts : List Tok) (s : RdS) (B : Nat) : Prop where
 blk : RdB u rb v s
 toks : ToksAt u B v.A v.n ts
 base : B ≤ rb
 few : ts.length ≤ 20000
 in' : s.at' ≤ ts.length
theorem RdAt.later {u u' : World} {rb : Nat} {v : RdV} {ts : List Tok} {s : RdS} {B : Nat} (h : RdAt u rb v ts s B) (hb : Below u.heap.size u u') : RdAt u' rb v ts s B :=
 ⟨h.blk.later hb, h.toks.keep fun k hk => hb.block k (by have := h.blk.lt; have := h.base; omega), h.base, h.few, h.in'⟩
theorem RdAt.put {u : World} {rb : Nat} {v v' : RdV} {ts : List Tok} {s s' : RdS} {B : Nat} (h : RdAt u rb v ts s B) (i : Nat) (x : Value) (he : (rdCells v s).setIfInBounds i x = rdCells v' s') (hA : v'.A = v.A) (hn : v'.n = v.n) (hi : s'.at' ≤ ts.length) : RdAt (u.setCell ⟨rb, i, none⟩ x) rb v' ts s' B :=
 ⟨h.blk.put i x he, by rw [hA, hn]; exact h.toks.keep fun k hk => Deep.blk_setCell_other _ _ _ _ (by have := h.base; show k ≠ rb; omega), h.base, h.few, hi⟩
theorem six_at {w1 : World} {b : Nat} {a0 a1 a2 a3 a4 a5 : Value} {t : TypeId} (h : w1.heap[b]? = some (.cells #[a0, a1, a2, a3, a4, a5] t (0, 0))) :
    w1.cell? ⟨b, 0, none⟩ = some a0 ∧ w1.cell? ⟨b, 1, none⟩ = some a1 ∧ w1.cell? ⟨b, 2, none⟩ = some a2 ∧ w1.cell? ⟨b, 3, none⟩ = some a3 ∧ w1.cell? ⟨b, 4, none⟩ = some a4 ∧ w1.cell? ⟨b, 5, none⟩ = some a5 ∧ (∀ o, w1.frozen? ⟨b, o, none⟩ = false) :=
 ⟨by rw [cell_of_row w1 b 0 _ t (0, 0) h]; rfl, by rw [cell_of_row w1 b 1 _ t (0, 0) h]; rfl, by rw [cell_of_row w1 b 2 _ t (0, 0) h]; rfl, by rw [cell_of_row w1 b 3 _ t (0, 0) h]; rfl, by rw [cell_of_row w1 b 4 _ t (0, 0) h]; rfl, by rw [cell_of_row w1 b 5 _ t (0, 0) h]; rfl, fun o => by simp [World.frozen?, h]⟩
set_option maxHeartbeats 4000000 in
theorem peek_any (u : World) (rb : Nat) (v : RdV) (ts : List Tok) (s : RdS) (B : Nat) (h : RdAt u rb v ts s B) (k : Nat) (hk : k ≤ 2) :
    Calls Tryz.prog 57 #[.pointer (some ⟨rb, 0, none⟩), .int .i64 k] u fun e u' => e = .returned (tokW (peekF ts (s.at' + k))) ∧ Below u.heap.size u u' := by
 have c0 : u.cell? ⟨rb, 0, none⟩ = some (.slice v.A v.n v.c) := h.blk.cell (i := 0) rfl
 have c1 : u.cell? ⟨rb, 1, none⟩ = some (.int .i64 (s.at' : Int)) := h.blk.cell (i := 1) rfl
 have hlt := h.blk.lt
 have hf := h.few
 have hin := h.in'
 have hln := h.toks.len
 have HT := Lib.hid h.toks
 have hlu : B ≤ u.heap.size := by have := h.base; omega
 obtain ⟨A, n, c, ob, bv, wv, x, vb, nv⟩ := v
 simp only at c0 hln HT
 clear h
 obtain ⟨a, ha⟩ : ∃ a, a = s.at' := ⟨_, rfl⟩
 rw [← ha] at c1 hin ⊢
 clear ha
 by_cases hlast : a + k < ts.length
 ·have hg := List.getElem?_eq_getElem hlast
  have hp : peekF ts (a + k) = ts[a + k] := by unfold peekF; rw [List.getD_eq_getElem?_getD, hg]; rfl
  rw [hp]
  generalize ts[a + k] = t at hg
  obtain ⟨b, off, e1, e2, d0, d1, d2, d3, d4, d5⟩ := HT.out.at' _ t hg
  subst e1
  have hbl : b < u.heap.size := by omega
  have hl1 : (a : Int) + (k : Int) < (n : Int) := by omega
  have hl0 : (0 : Int) ≤ (a : Int) + (k : Int) := by omega
  have hsum : (a : Int) + (k : Int) = ((a + k : Nat) : Int) := by omega
  have hl2 : ((a + k : Nat) : Int) < (n : Int) := by omega
  have hl3 : (0 : Int) ≤ ((a + k : Nat) : Int) := by omega
  clear hg hp hln
  generalize a + k = m at *
  have hwr : IntKind.i64.wrap ((a : Int) + (k : Int)) = (m : Int) := by rw [hsum]; exact IntWalk.i64_in _ (by omega)
  have hwm : IntKind.i64.wrap (m : Int) = (m : Int) := IntWalk.i64_in _ (by omega)
  clear hsum
  unfold tokW
  go_enter Tryz.func57, Tryz.ntmps57
  go_wp2_with fail
  go_quiet (fail)
  go_wp2_with fail
  have hbW : Below u.heap.size u ((u.alloc (.cells #[.int .i64 0, .int .i64 0, .int .i64 0, .string ⟨#[]⟩, .bool false, .bool false] 48)).drewN nq) := below_drewN' (below_alloc' (Below.refl _ _) _) nq
  have hnew : ((u.alloc (.cells #[.int .i64 0, .int .i64 0, .int .i64 0, .string ⟨#[]⟩, .bool false, .bool false] 48)).drewN nq).heap[u.heap.size]? = some (.cells #[.int .i64 0, .int .i64 0, .int .i64 0, .string ⟨#[]⟩, .bool false, .bool false] 48 (0, 0)) := heap_alloc_new u _
  generalize (u.alloc (.cells #[.int .i64 0, .int .i64 0, .int .i64 0, .string ⟨#[]⟩, .bool false, .bool false] 48)).drewN nq = W at hbW hnew ⊢
  have w0 := (hbW.cell (p := ⟨rb, 0, none⟩) hlt).trans c0
  have w1 := (hbW.cell (p := ⟨rb, 1, none⟩) hlt).trans c1
  have y0 := (hbW.cell (p := ⟨b, off + m * 6, none⟩) hbl).trans d0
  have y1 := (hbW.cell (p := ⟨b, off + m * 6 + 1, none⟩) hbl).trans d1
  have y2 := (hbW.cell (p := ⟨b, off + m * 6 + 2, none⟩) hbl).trans d2
  have y3 := (hbW.cell (p := ⟨b, off + m * 6 + 3, none⟩) hbl).trans d3
  have y4 := (hbW.cell (p := ⟨b, off + m * 6 + 4, none⟩) hbl).trans d4
  have y5 := (hbW.cell (p := ⟨b, off + m * 6 + 5, none⟩) hbl).trans d5
  obtain ⟨n0, n1, n2, n3, n4, n5, nf⟩ := six_at hnew
  have HBW := Lib.hid hbW
  clear c0 c1 d0 d1 d2 d3 d4 d5 hbW hnew
  (refine wp_region_still_tail 12 (by kernel_rfl) (by kernel_rfl) ?_; simp only [List.take_succ_cons, List.take_zero, List.drop_succ_cons, List.drop_zero]; repeat (with_reducible refine wpStill_step ?_; intro KK hKK; go_simp; with_reducible refine hKK _ ?_; clear hKK KK)); try (with_reducible refine wpStill_nil ?_)
  go_wp2_with fail
  have hul : u.heap.size < W.heap.size := World.block_lt_of_cell? W _ n0
  exact bodyPost_ret (v := .agg #[.int .i64 t.kind, .int .i64 t.line, .int .i64 t.n, .string ⟨t.s.toArray⟩, .bool t.opn, .bool t.tight]) (by simp [results, Tryz.results57, go_sem, n0, n1, n2, n3, n4, n5]) rfl
   ⟨rfl, ((((((HBW.out.setCell (p := ⟨u.heap.size, 0, none⟩) (Nat.le_refl _) _).setCell (p := ⟨u.heap.size, 1, none⟩) (Nat.le_refl _) _).setCell (p := ⟨u.heap.size, 2, none⟩) (Nat.le_refl _) _).setCell (p := ⟨u.heap.size, 3, none⟩) (Nat.le_refl _) _).setCell (p := ⟨u.heap.size, 4, none⟩) (Nat.le_refl _) _).setCell (p := ⟨u.heap.size, 5, none⟩) (Nat.le_refl _) _).drew⟩
 ·have hp : peekF ts (a + k) = noTok := by unfold peekF; rw [List.getD_eq_getElem?_getD, List.getElem?_eq_none (by omega)]; rfl
  rw [hp]
  have hl1 : ¬ ((a : Int) + (k : Int) < (n : Int)) := by omega
  have hsum : (a : Int) + (k : Int) = ((a + k : Nat) : Int) := by omega
  have hwr : IntKind.i64.wrap ((a : Int) + (k : Int)) = ((a + k : Nat) : Int) := by rw [hsum]; exact IntWalk.i64_in _ (by omega)
  have hwm : IntKind.i64.wrap ((a + k : Nat) : Int) = ((a + k : Nat) : Int) := IntWalk.i64_in _ (by omega)
  have hge : n ≤ a + k := by omega
  clear hp hsum
  generalize a + k = m at *
  unfold tokW noTok
  go_enter Tryz.func57, Tryz.ntmps57
  go_wp2_with fail
  go_quiet (fail)
  have hbW : Below u.heap.size u ((u.alloc (.cells #[.int .i64 0, .int .i64 0, .int .i64 0, .string ⟨#[]⟩, .bool false, .bool false] 48)).drewN nq) := below_drewN' (below_alloc' (Below.refl _ _) _) nq
  have hnew : ((u.alloc (.cells #[.int .i64 0, .int .i64 0, .int .i64 0, .string ⟨#[]⟩, .bool false, .bool false] 48)).drewN nq).heap[u.heap.size]? = some (.cells #[.int .i64 0, .int .i64 0, .int .i64 0, .string ⟨#[]⟩, .bool false, .bool false] 48 (0, 0)) := heap_alloc_new u _
  generalize (u.alloc (.cells #[.int .i64 0, .int .i64 0, .int .i64 0, .string ⟨#[]⟩, .bool false, .bool false] 48)).drewN nq = W at hbW hnew ⊢
  obtain ⟨n0, n1, n2, n3, n4, n5, nf⟩ := six_at hnew
  have HBW := Lib.hid hbW
  clear hbW hnew
  go_wp2_with fail
  have hul : u.heap.size < W.heap.size := World.block_lt_of_cell? W _ n0
  exact bodyPost_ret (v := .agg #[.int .i64 0, .int .i64 0, .int .i64 0, .string ⟨#[]⟩, .bool false, .bool false]) (by simp [results, Tryz.results57, go_sem, n0, n1, n2, n3, n4, n5]) rfl
   ⟨rfl, (((((HBW.out.setCell (p := ⟨u.heap.size, 0, none⟩) (Nat.le_refl _) _).setCell (p := ⟨u.heap.size, 1, none⟩) (Nat.le_refl _) _).setCell (p := ⟨u.heap.size, 2, none⟩) (Nat.le_refl _) _).setCell (p := ⟨u.heap.size, 3, none⟩) (Nat.le_refl _) _).setCell (p := ⟨u.heap.size, 4, none⟩) (Nat.le_refl _) _).setCell (p := ⟨u.heap.size, 5, none⟩) (Nat.le_refl _) _⟩
end Go.Proofs.YtiffopheamnngaaGreatDoor
