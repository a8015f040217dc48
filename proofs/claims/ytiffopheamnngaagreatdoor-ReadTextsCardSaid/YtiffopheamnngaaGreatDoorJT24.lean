import Derived.Test.YtiffopheamnngaaGreatDoorJT12
namespace Go.Proofs.YtiffopheamnngaaGreatDoor
open Go.RowKit
set_option maxRecDepth 100000
abbrev AbT := TV × Nat
def encAb (x : AbT) : List Value := encTV x.1 ++ [.int .i64 x.2]
theorem encAb_len (x : AbT) : (encAb x).length = 5 := rfl
theorem encAb_one (x : AbT) : ∀ u ∈ encAb x, u.oneCell' = true := by
 intro u hu
 simp [encAb, encTV] at hu
 rcases hu with rfl | rfl | rfl | rfl | rfl <;> rfl
theorem ab_info : ∃ i z, Tryz.prog.info? 164 = some i ∧ i.zero = some z ∧ i.size = 5 ∧ i.bytes = 64 ∧ z.cells.size = 5 := by
 refine ⟨_, _, rfl, rfl, ?_, ?_, ?_⟩ <;> kernel_rfl
inductive Stk (w : World) (B : Nat) : List AbT → List (Tm × Nat) → Prop
 | nil : Stk w B [] []
 | snoc (st : List AbT) (pd : List (Tm × Nat)) (x : TV) (t : Tm) (d : Nat) (h : Stk w B st pd) (ht : TermAt w B x t) : Stk w B (st ++ [(x, d)]) ((t, d) :: pd)
theorem Stk.len {w : World} {B : Nat} {st : List AbT} {pd : List (Tm × Nat)} (h : Stk w B st pd) : st.length = pd.length := by
 induction h with
 | nil => rfl
 | snoc st pd x t d _ _ ih => simp [ih]
theorem Stk.pop {w : World} {B : Nat} {st : List AbT} {t : Tm} {d : Nat} {pd : List (Tm × Nat)} (h : Stk w B st ((t, d) :: pd)) : ∃ st' x, st = st' ++ [(x, d)] ∧ Stk w B st' pd ∧ TermAt w B x t := by
 cases h with
 | snoc st pd x t d h ht => exact ⟨st, x, rfl, h, ht⟩
def pdSize : List (Tm × Nat) → Nat | [] => 0 | (t, _) :: r => t.size + pdSize r
def pdDeep : List (Tm × Nat) → Nat | [] => 0 | (t, d) :: r => max (d + t.deep - 1) (pdDeep r)
def pdMay : List (Tm × Nat) → Bool | [] => true | (t, _) :: r => t.may && pdMay r
def Meas.all (m : Meas) (pd : List (Tm × Nat)) : Meas := ⟨m.bad || !pdMay pd, m.size + pdSize pd, max m.deep (pdDeep pd)⟩
def pdArgs (d : Nat) (l : List Tm) : List (Tm × Nat) := l.map fun t => (t, d)
theorem deep_pos : ∀ t : Tm, 1 ≤ t.deep
 | .mk k n s l => by rw [Tm.deep]; omega
theorem size_pos : ∀ t : Tm, 1 ≤ t.size
 | .mk k n s l => by rw [Tm.size]; omega
theorem pdSize_args (d : Nat) (r : List (Tm × Nat)) : ∀ l : List Tm, pdSize (pdArgs d l ++ r) = Tm.sizes l + pdSize r
 | [] => by simp [pdArgs, Tm.sizes]
 | t :: l => by
  have := pdSize_args d r l
  simp only [pdArgs, List.map_cons, List.cons_append, pdSize, Tm.sizes] at this ⊢
  omega
theorem pdMay_args (d : Nat) (r : List (Tm × Nat)) : ∀ l : List Tm, pdMay (pdArgs d l ++ r) = (Tm.mays l && pdMay r)
 | [] => by simp [pdArgs, Tm.mays]
 | t :: l => by
  have := pdMay_args d r l
  simp only [pdArgs, List.map_cons, List.cons_append, pdMay, Tm.mays] at this ⊢
  rw [this, Bool.and_assoc]
theorem pdDeep_args (d : Nat) (r : List (Tm × Nat)) : ∀ l : List Tm, max d (pdDeep (pdArgs (d + 1) l ++ r)) = max (d + Tm.deeps l) (pdDeep r)
 | [] => by simp [pdArgs, Tm.deeps]
 | t :: l => by
  have h := pdDeep_args d r l
  have hp := deep_pos t
  simp only [pdArgs, List.map_cons, List.cons_append, pdDeep, Tm.deeps] at h ⊢
  omega
theorem Meas.all_nil (m : Meas) : m.all [] = m := by
 obtain ⟨a, b, c⟩ := m
 simp [Meas.all, pdMay, pdSize, pdDeep]
theorem args_sizes : ∀ l : List Tm, l.length ≤ Tm.sizes l
 | [] => Nat.zero_le _
 | t :: l => by
  have := args_sizes l
  have := size_pos t
  simp only [List.length_cons, Tm.sizes]
  omega
theorem args_size (t : Tm) : t.args.length + 1 ≤ t.size := by
 obtain ⟨k, n, s, l⟩ := t
 have := args_sizes l
 simp only [Tm.args, Tm.size]
 omega
theorem size_args (t : Tm) : t.size = 1 + Tm.sizes t.args := by
 obtain ⟨k, n, s, l⟩ := t
 rfl
theorem sizes_drop : ∀ (a : Nat) (l : List Tm), Tm.sizes (l.drop a) ≤ Tm.sizes l
 | 0, l => by simp
 | a + 1, [] => by simp
 | a + 1, t :: l => by
  have := sizes_drop a l
  simp only [List.drop_succ_cons, Tm.sizes]
  omega
theorem mem_sizes : ∀ (l : List Tm) (t : Tm), t ∈ l → t.size ≤ Tm.sizes l
 | x :: l, t, h => by
  simp only [Tm.sizes]
  rcases List.mem_cons.1 h with rfl | h
  ·omega
  ·have := mem_sizes l t h
   omega
theorem pdSize_len : ∀ l : List (Tm × Nat), l.length ≤ pdSize l
 | [] => Nat.zero_le _
 | (t, d) :: l => by
  have := pdSize_len l
  have := size_pos t
  simp only [List.length_cons, pdSize]
  omega
theorem Meas.all_step (m : Meas) (t : Tm) (d : Nat) (r : List (Tm × Nat)) (hd : 1 ≤ d) : (m.step t.k t.n t.s t.args.length d).all (pdArgs (d + 1) t.args ++ r) = m.all ((t, d) :: r) := by
 obtain ⟨k, n, s, l⟩ := t
 have h := pdDeep_args d r l
 simp only [Meas.all, Meas.step, Tm.k, Tm.n, Tm.s, Tm.args, pdSize_args, pdMay_args, pdSize, pdMay, pdDeep, Tm.size, Tm.may, Tm.deep, Meas.mk.injEq]
 refine ⟨by cases m.bad <;> cases mayP k n s l.length <;> cases Tm.mays l <;> cases pdMay r <;> rfl, by omega, by omega⟩
structure WalkInv (w : World) (b B : Nat) (st : List AbT) (pd : List (Tm × Nat)) (m : Meas) (v : Value) (u : World) : Prop where
 row : Row u w.heap.size 164 5 encAb v st
 stk : Stk w B st pd
 meas : MeasAt u b m
 fr : Fr (fun k => k = b ∨ w.heap.size ≤ k) w u
theorem tvV_lit (x : TV) : tvV x = .agg #[.int .i64 x.k, .int .i64 x.n, .string ⟨x.s.toArray⟩, .slice x.A x.len x.cap] := rfl
set_option maxHeartbeats 8000000 in
theorem walkM_any (w : World) (b B : Nat) (m : Meas) (x : TV) (t : Tm) (hx : TermAt w B x t) (hB : B ≤ b) (hb : MeasAt w b m) (hsz : t.size + m.size ≤ 100000000) :
    Calls Tryz.prog 89 #[tvV x, .func (Fn.func 90) #[.pointer (some ⟨b, 0, none⟩)] #[]] w fun e w' => e = .returned (.tuple #[]) ∧ MeasAt w' b (m.all [(t, 1)]) ∧ Fr (fun k => k = b) w w' := by
 have hbl : b < w.heap.size := (Array.getElem?_eq_some_iff.1 hb).1
 obtain ⟨i, z, hi, hz, hsi, hby, hzs⟩ := ab_info
 have hI : WalkInv w b B [(x, 1)] [(t, 1)] m (.slice (some ⟨w.heap.size + 1, 0, none⟩) 1 1) ((w.alloc (.cells (encTV x).toArray 34)).alloc (.cells (encAb (x, 1)).toArray 164)) := by
  refine ⟨?_, .snoc [] [] x t 1 .nil hx, ?_, ((Fr.refl _ w).alloc _).alloc _⟩
  ·have := Row.one (B := w.heap.size) (e := 164) encAb_len (w.alloc (.cells (encTV x).toArray 34)) (x, 1) (by simp)
   simpa using this
  ·unfold MeasAt
   rw [Below.heap_alloc _ _ _ (by simp; omega), Below.heap_alloc _ _ _ hbl]
   exact hb
 have HI := Lib.hid hI
 obtain ⟨M, hM⟩ : ∃ M, M = m.all [(t, 1)] := ⟨_, rfl⟩
 rw [← hM]
 have HM := Lib.hid hM
 clear hI hM hx hb
 rw [tvV_lit]
 go_enter Tryz.func89, Tryz.ntmps89
 go_wp2_with fail
 change Code.wp _ _ _ _ ((w.alloc (.cells (encTV x).toArray 34)).alloc (.cells (encAb (x, 1)).toArray 164))
 go_loopg [4] t.size (fun g v u => ∃ st pd m', WalkInv w b B st pd m' v u ∧ Hid (m'.all pd = M ∧ pdSize pd = g ∧ m'.size + pdSize pd ≤ 100000000 ∧ ∀ p ∈ pd, 1 ≤ p.2 ∧ p.2 + p.1.size ≤ 100000001))
 case atStart => exact ⟨_, _, _, HI.out, Lib.hid ⟨HM.out.symm, by simp [pdSize], by simp [pdSize]; omega, fun p hp => by simp at hp; subst hp; simp only; omega⟩⟩
 case round =>
  obtain ⟨st, pd, m', hR, HH⟩ := hrel
  clear HI
  obtain _ | ⟨⟨t1, d⟩, pd⟩ := pd
  ·have hl := hR.stk.len
   obtain rfl : st = [] := List.eq_nil_of_length_eq_zero hl
   obtain ⟨A1, c1, rfl⟩ := hR.row.shape
   have HR := Lib.hid hR
   clear hR hl
   go_wp2_with fail
   go_end0
   have e1 : m' = M := by rw [← HH.out.1, Meas.all_nil]
   exact ⟨rfl, by rw [← e1]; exact HR.out.meas, HR.out.fr.mono fun k hk e => e.elim id (fun h => by omega)⟩
  ·obtain ⟨st, x1, rfl, hs1, ht1⟩ := hR.stk.pop
   obtain ⟨tk, tn, ts, tl, tm, targ⟩ := ht1.open
   obtain ⟨g, cap, rfl, hg0, hg1, hcap, hcs⟩ := hR.row.cells encAb_len (by simp)
   obtain ⟨hd1, hd2⟩ : 1 ≤ d ∧ d + t1.size ≤ 100000001 := HH.out.2.2.2 _ (List.mem_cons_self ..)
   have hal := Meas.all_step m' t1 d pd hd1
   rw [tk, tn, ts, tl] at hal
   have hsz1 : pdSize ((t1, d) :: pd) = t1.size + pdSize pd := rfl
   have hts : t1.args.length + 1 ≤ t1.size := args_size t1
   have hb9 := HH.out.2.2.1
   have hps := size_pos t1
   have hll : x1.len ≤ 100000000 := by omega
   have hst : st.length ≤ 100000000 := by
    have h1 := hs1.len
    have h2 := pdSize_len pd
    omega
   have e0 := (hcs st.length (x1, d) (by simp) 0 _ rfl).1
   have e1 := (hcs st.length (x1, d) (by simp) 1 _ rfl).1
   have e2 := (hcs st.length (x1, d) (by simp) 2 _ rfl).1
   have e3 := (hcs st.length (x1, d) (by simp) 3 _ rfl).1
   have e4 := (hcs st.length (x1, d) (by simp) 4 _ rfl).1
   simp only [Nat.add_zero] at e0
   have hrow := hR.row
   rw [List.length_append, List.length_cons, List.length_nil] at hrow hcap ⊢
   have hfront := Row.front encAb_len hrow
   have hwr : w.heap.size ≤ wr.heap.size := hR.fr.size
   have hF1 : Fr (fun k => k = b ∨ w.heap.size ≤ k) w (wr.alloc (.cells (encAb (x1, d)).toArray 164)) := hR.fr.alloc _
   have hM1 : MeasAt (wr.alloc (.cells (encAb (x1, d)).toArray 164)) b m' := by
    unfold MeasAt
    rw [Below.heap_alloc _ _ _ (by omega)]
    exact hR.meas
   have hbx : (wr.alloc (.cells (encAb (x1, d)).toArray 164)).heap[wr.heap.size]? = some (.cells (encAb (x1, d)).toArray 164 (0, 0)) := heap_alloc_new wr _
   have hR1 := hfront.alloc (.cells (encAb (x1, d)).toArray 164)
   obtain ⟨w2, hw2⟩ : ∃ w2, w2 = wr.alloc (.cells (encAb (x1, d)).toArray 164) := ⟨_, rfl⟩
   obtain ⟨bx, hbxe⟩ : ∃ bx, bx = wr.heap.size := ⟨_, rfl⟩
   rw [← hw2] at hF1 hM1 hbx hR1
   rw [← hbxe] at hbx
   have hrl : st.length < st.length + 1 := Nat.lt_succ_self _
   have HT1 := Lib.hid ht1
   have HARG := Lib.hid targ
   have HAL := Lib.hid hal
   have HS1 := Lib.hid hs1
   have HF1 := Lib.hid hF1
   have HM1 := Lib.hid hM1
   have HBX := Lib.hid hbx
   have HR1 := Lib.hid hR1
   have HTL := Lib.hid tl
   have hcN : (st.length : Int) + 1 ≤ (cap : Int) := by omega
   have hg9 : g < bx := by omega
   have hs9 : st.length ≤ cap := by omega
   clear hR ht1 tk tn ts tl targ hcs hal hs1 hrow hfront hF1 hM1 hbx hR1
   go_wp2_with fail
   change Calls _ _ _ (wr.alloc (.cells (encAb (x1, d)).toArray 164)) _
   rw [← hw2, ← hbxe]
   refine (take_any w2 b m' x1 d tm (by unfold maxLen; omega) HM1.out (by omega)).mono ?_
   rintro e w3 ⟨rfl, hm3, hf3⟩
   have hbx2 := (Array.getElem?_eq_some_iff.1 HBX.out).1
   have hb3 : w3.heap[bx]? = some (.cells (encAb (x1, d)).toArray 164 (0, 0)) := (hf3.block bx hbx2 (by omega)).trans HBX.out
   have hI3 : WalkInv w b B st pd (m'.step x1.k x1.n x1.s x1.len d) (.slice (some ⟨g, 0, none⟩) st.length cap) w3 :=
    ⟨HR1.out.keep fun k hk => hf3.block k (HR1.out.lt k hk).2 (by have := (HR1.out.lt k hk).1; omega), HS1.out, hm3, HF1.out.trans (hf3.weak fun k hk => .inl hk)⟩
   have HI3 := Lib.hid hI3
   have HB3 := Lib.hid hb3
   have d3 : w3.cell? ⟨bx, 3, none⟩ = some (.slice x1.A x1.len x1.cap) := by rw [cell_of_row w3 bx 3 _ _ (0, 0) hb3]; rfl
   clear hm3 hf3 hb3 hI3 HR1 HM1 HF1 hw2 hbxe e0 e1 e2 e3 e4 hg1 hwr hbx2 HBX
   have hm9 : m'.size + 1 ≤ 100000000 := by omega
   go_wp2_with fail
   go_loopw [4, 6] (fun v i u => ∃ a st', a ≤ x1.len ∧ i = .int .i64 ((a : Int) - 1) ∧ Hid (WalkInv w b B st' (pdArgs (d + 1) (t1.args.drop a) ++ pd) (m'.step x1.k x1.n x1.s x1.len d) v u ∧ u.heap[bx]? = some (.cells (encAb (x1, d)).toArray 164 (0, 0)) ∧ v.ownBlock ≠ some bx)) (fun _ i _ => (intOf i + 1).toNat)
   case atStart =>
    refine ⟨x1.len, st, Nat.le_refl _, rfl, Lib.hid ⟨?_, HB3.out, ?_⟩⟩
    ·have e9 : t1.args.drop x1.len = [] := by rw [← HTL.out, List.drop_length]
     rw [e9]
     exact HI3.out
    ·simp [Value.ownBlock]; omega
   case round =>
    obtain ⟨a, st', ha, rfl, HR⟩ := hrel
    clear d3
    have d3 : wr.cell? ⟨bx, 3, none⟩ = some (.slice x1.A x1.len x1.cap) := by rw [cell_of_row wr bx 3 _ _ (0, 0) HR.out.2.1]; rfl
    have d4 : wr.cell? ⟨bx, 4, none⟩ = some (.int .i64 d) := by rw [cell_of_row wr bx 4 _ _ (0, 0) HR.out.2.1]; rfl
    obtain _ | a := a
    ·have HF : Hid (WalkInv w b B st' (pdArgs (d + 1) t1.args ++ pd) (m'.step x1.k x1.n x1.s x1.len d) _ wr) := Lib.hid HR.out.1
     go_wp2_with fail
     have hh := HH.out
     go_roundg (pdSize (pdArgs (d + 1) t1.args ++ pd))
     case measure =>
      rw [pdSize_args, ← hh.2.1]
      show Tm.sizes t1.args + pdSize pd < t1.size + pdSize pd
      rw [size_args t1]
      omega
     case rel =>
      refine ⟨_, _, _, HF.out, Lib.hid ⟨by rw [HAL.out]; exact hh.1, rfl, ?_, ?_⟩⟩
      ·rw [pdSize_args]
       have h1 := size_args t1
       show m'.size + 1 + _ ≤ _
       omega
      ·intro p hp
       rcases List.mem_append.1 hp with hp | hp
       ·obtain ⟨t', ht', rfl⟩ := List.mem_map.1 hp
        have h1 := mem_sizes t1.args t' ht'
        have h2 := size_args t1
        simp only
        omega
       ·exact hh.2.2.2 p (List.mem_cons_of_mem _ hp)
    ·have hla : a < t1.args.length := by rw [HTL.out]; omega
     obtain ⟨y, b9, off9, hA9, hb9', ht9, hc9⟩ := HARG.out a _ (List.getElem?_eq_getElem hla)
     have hdrop : t1.args.drop a = t1.args[a] :: t1.args.drop (a + 1) := List.drop_eq_getElem_cons hla
     generalize t1.args[a] = ty at ht9 hdrop
     have hbw := HR.out.1.fr
     have hc9' : ∀ j u, (encTV y)[j]? = some u → wr.cell? ⟨b9, off9 + a * 4 + j, none⟩ = some u := fun j u hu =>
      (hbw.cell (p := ⟨b9, off9 + a * 4 + j, none⟩) (by simp only; omega) (by simp only; omega)).trans (hc9 j u hu)
     have f0 := hc9' 0 _ rfl
     have f1 := hc9' 1 _ rfl
     have f2 := hc9' 2 _ rfl
     have f3 := hc9' 3 _ rfl
     simp only [Nat.add_zero] at f0
     have hlen := HR.out.1.stk.len
     have hst9 : st'.length ≤ 100000000 := by
      have h1 := pdSize_len (pdArgs (d + 1) (t1.args.drop (a + 1)) ++ pd)
      rw [pdSize_args] at h1
      have h2 := sizes_drop (a + 1) t1.args
      have h3 := size_args t1
      have h4 := HH.out.2.2.1
      have h5 : pdSize ((t1, d) :: pd) = t1.size + pdSize pd := rfl
      omega
     have hwr9 := hbw.size
     have hbb9 : b < wr.heap.size := by omega
     have hblk := heap_alloc_new wr (.cells (encAb (y, d + 1)).toArray 164)
     obtain ⟨g9, cap9, w9, hr9, hR9, hg9', ho9⟩ := Row.push (P := Tryz.prog) 165 Tryz.underlying165 hi hz hsi hby hzs (by decide) encAb_len encAb_one
      (w := (wr.alloc (.cells (encAb (y, d + 1)).toArray 164)).drew) (HR.out.1.row.later (((Below.refl _ _).alloc (Nat.le_refl _) _).drew)) (y, d + 1) wr.heap.size 1
      (fun j u hu => cell_made wr _ _ j u (by simpa using hu)) (by unfold maxLen; omega) (by omega) (by simp; omega)
     obtain ⟨v9, hv9⟩ : ∃ v9, v9 = Value.slice (some ⟨g9, 0, none⟩) (st'.length + 1) cap9 := ⟨_, rfl⟩
     rw [← hv9] at hr9 hR9
     have hr9 : (Builtin.append_ #[165, 165] 165 #[_, .slice (some ⟨wr.heap.size, 0, none⟩) 1 1]).run Tryz.prog (wr.alloc (.cells #[.int .i64 y.k, .int .i64 y.n, .string ⟨y.s.toArray⟩, .slice y.A y.len y.cap, .int .i64 ((d : Int) + 1)] 164)).drew = .ok v9 w9 := hr9
     have hbx3 := (Array.getElem?_eq_some_iff.1 HR.out.2.1).1
     have hne : u4.ownBlock ≠ some b := fun e => by have := (HR.out.1.row.lt b e).1; omega
     have hI9 : WalkInv w b B (st' ++ [(y, d + 1)]) (pdArgs (d + 1) (t1.args.drop a) ++ pd) (m'.step x1.k x1.n x1.s x1.len d) v9 w9 := by
      refine ⟨hR9, ?_, ?_, ?_⟩
      ·rw [hdrop]
       exact .snoc _ _ y ty (d + 1) HR.out.1.stk ht9
      ·unfold MeasAt
       rw [hg9'.block b (by simp; omega) (fun e => hne e.symm)]
       exact (Below.heap_alloc _ _ _ hbb9).trans HR.out.1.meas
      ·exact ((HR.out.1.fr.alloc _).drew).grown hg9' (fun k e => .inl (.inr (HR.out.1.row.lt k e).1))
     have hbx9 : w9.heap[bx]? = some (.cells (encAb (x1, d)).toArray 164 (0, 0)) := by
      rw [hg9'.block bx (by simp; omega) (fun e => HR.out.2.2 e.symm)]
      exact (Below.heap_alloc _ _ _ hbx3).trans HR.out.2.1
     have hob9 : v9.ownBlock ≠ some bx := by
      rw [hv9]
      intro e
      have e' : g9 = bx := by simpa [Value.ownBlock] using e
      rcases ho9 with h | h
      ·exact HR.out.2.2 (by rw [h, e'])
      ·simp at h
       omega
     have HX9 := Lib.hid (And.intro hI9 (And.intro hbx9 hob9))
     have hd9 : (d : Int) + 1 ≤ 200000000 := by omega
     have hwd : IntKind.i64.wrap ((d : Int) + 1) = (d : Int) + 1 := IntWalk.i64_in _ (by omega)
     have ha9 : (a : Int) < (x1.len : Int) := by omega
     have hl9 : wr.heap.size ≠ bx := by omega
     have hbl9 : bx < wr.heap.size := hbx3
     have hb99 : b9 < wr.heap.size := by omega
     rw [show (((a + 1 : Nat) : Int) - 1) = (a : Int) by omega]
     clear hI9 hbx9 hob9 hne hg9' ho9 hblk hR9 hv9 hc9 hc9' hdrop ht9 hbw hlen
     obtain ⟨xk, xn, xs, xA, xl, xc⟩ := x1
     simp only at hA9 d3 d4 ha9 ha
     subst hA9
     go_wp2_with fail
     go_region_law (first | (refine step_run rfl (.tmp 39) (.tmp 50) 165 rfl (by rfl) (by rfl) hr9 ?_))
     all_goals
      go_wp2_with fail
      go_roundw
      case rel => exact ⟨a, _, by omega, rfl, HX9⟩
      case measure => simp [intOf]
def Meas.none : Meas := ⟨false, 0, 0⟩
theorem meas_all (t : Tm) : Meas.none.all [(t, 1)] = ⟨!t.may, t.size, t.deep⟩ := by
 have := deep_pos t
 have e : max 0 (max (1 + t.deep - 1) 0) = t.deep := by omega
 simp only [Meas.none, Meas.all, pdMay, pdSize, pdDeep, Bool.and_true, Bool.false_or, Nat.zero_add, Nat.add_zero, e]
set_option maxHeartbeats 4000000 in
theorem measured_any (w : World) (x : TV) (t : Tm) (hx : TermAt w w.heap.size x t) (hsz : t.size ≤ 10000000) :
    Calls Tryz.prog 65 #[tvV x] w fun e w' => e = .returned (.agg #[.bool (!t.may), .int .i64 t.size, .int .i64 t.deep]) ∧ Below w.heap.size w w' := by
 have HX := Lib.hid hx
 have hmm := meas_all t
 generalize (!t.may) = q at hmm ⊢
 have HMM := Lib.hid hmm
 clear hx hmm
 rw [tvV_lit]
 go_enter Tryz.func65, Tryz.ntmps65
 go_wp2_with fail
 generalize hW : World.alloc (World.alloc (World.alloc w (.cells #[.int .i64 x.k, .int .i64 x.n, .string ⟨x.s.toArray⟩, .slice x.A x.len x.cap] 34)) (.cells #[.bool false, .int .i64 0, .int .i64 0] 127)) (.cells #[.bool false, .int .i64 0, .int .i64 0] 127) = W
 have hbW : MeasAt W (w.heap.size + 1 + 1) Meas.none := by
  unfold MeasAt
  rw [← hW]
  have := heap_alloc_new ((w.alloc (.cells #[.int .i64 x.k, .int .i64 x.n, .string ⟨x.s.toArray⟩, .slice x.A x.len x.cap] 34)).alloc (.cells #[.bool false, .int .i64 0, .int .i64 0] 127)) (.cells #[.bool false, .int .i64 0, .int .i64 0] 127)
  simpa [Meas.none] using this
 have hrW : W.heap[w.heap.size + 1]? = some (.cells #[.bool false, .int .i64 0, .int .i64 0] 127 (0, 0)) := by
  rw [← hW, Below.heap_alloc _ _ _ (by simp)]
  have := heap_alloc_new (w.alloc (.cells #[.int .i64 x.k, .int .i64 x.n, .string ⟨x.s.toArray⟩, .slice x.A x.len x.cap] 34)) (.cells #[.bool false, .int .i64 0, .int .i64 0] 127)
  simpa using this
 have hfW : Below w.heap.size w W := by rw [← hW]; exact (((Below.refl _ w).alloc (Nat.le_refl _) _).alloc (by simp) _).alloc (by simp; omega) _
 refine (walkM_any W (w.heap.size + 1 + 1) w.heap.size Meas.none x t (HX.out.blw hfW) (by omega) hbW (by simp only [Meas.none]; omega)).mono ?_
 rintro e w2 ⟨rfl, hb2, hf2⟩
 rw [HMM.out] at hb2
 have hB2 := Lib.hid (hfW.trans (hf2.below (B := w.heap.size) hfW.size (fun k hk => by omega)))
 obtain ⟨c0, c1, c2, hf⟩ := meas_cells hb2
 obtain ⟨d0, d1, d2, df⟩ := meas_cells ((hf2.block (w.heap.size + 1) (Array.getElem?_eq_some_iff.1 hrW).1 (by omega)).trans hrW)
 clear hb2 hf2 hfW hbW hW hrW
 go_wp2_with fail
 refine bodyPost_ret (v := .agg #[.bool q, .int .i64 t.size, .int .i64 t.deep]) (by simp [results, Tryz.results65, go_sem, d0, d1, d2]) rfl ⟨rfl, ?_⟩
 repeat (refine Below.setCell ?_ (by simp; try omega) _)
 exact hB2.out
def checkT (t : Tm) : Int := if t.may = false then 2 else if 2000 < t.deep then 4 else if 20000 < t.size then 3 else 0
set_option maxHeartbeats 4000000 in
theorem check_any (w : World) (x : TV) (t : Tm) (hx : TermAt w w.heap.size x t) (hsz : t.size ≤ 10000000) (hdp : t.deep ≤ 10000000) :
    Calls Tryz.prog 35 #[tvV x] w fun e w' => e = .returned (.int .i64 (checkT t)) ∧ Below w.heap.size w w' := by
 have HM : Hid (∀ o, Calls Tryz.prog 65 #[tvV x] (w.alloc o) fun e w' => e = .returned (.agg #[.bool (!t.may), .int .i64 t.size, .int .i64 t.deep]) ∧ Below (w.alloc o).heap.size (w.alloc o) w') :=
  Lib.hid fun o => measured_any _ x t (hx.later ((Below.refl _ _).alloc (Nat.le_refl _) _)) hsz
 clear hx
 rw [tvV_lit] at *
 obtain ⟨r, hr⟩ : ∃ r, r = checkT t := ⟨_, rfl⟩
 rw [← hr]
 have HR := Lib.hid hr
 unfold checkT at HR
 clear hr
 generalize t.may = q at *
 generalize t.size = n at *
 generalize t.deep = d at *
 cases q
 ·go_enter Tryz.func35, Tryz.ntmps35
  go_wp2_with fail
  refine (HM.out _).mono ?_
  rintro e w1 ⟨rfl, hb⟩
  have HB := Lib.hid (((Below.refl w.heap.size w).alloc (Nat.le_refl _) _).trans (hb.mono (by simp)))
  clear hb
  go_wp2_with fail
  go_ret
  exact ⟨by rw [HR.out]; simp, HB.out.alloc HB.out.size _⟩
 ·go_enter Tryz.func35, Tryz.ntmps35
  go_wp2_with fail
  refine (HM.out _).mono ?_
  rintro e w1 ⟨rfl, hb⟩
  have HB := Lib.hid (((Below.refl w.heap.size w).alloc (Nat.le_refl _) _).trans (hb.mono (by simp)))
  clear hb
  go_wp2_with fail
  all_goals
   go_ret
   refine ⟨?_, HB.out.alloc HB.out.size _⟩
   have e9 : r = if 2000 < d then 4 else if 20000 < n then 3 else 0 := by have h := HR.out; simpa using h
   rw [e9]
   show Ending.returned (Value.int .i64 _) = _
   congr 2
   (repeat' split) <;> omega
open Go.RowKit Go.Maps
theorem arg_in {w : World} {B : Nat} {x : TV} {t : Tm} (h : TermAt w B x t) {i : Nat} (hi : i < t.args.length) :
    ∃ b off y, x.A = some ⟨b, off, none⟩ ∧ b < B ∧ TermAt w B y (t.args.getD i noTm) ∧
     (w.cell? ⟨b, off + i * 4, none⟩ = some (.int .i64 y.k) ∧ w.cell? ⟨b, off + i * 4 + 1, none⟩ = some (.int .i64 y.n) ∧ w.cell? ⟨b, off + i * 4 + 2, none⟩ = some (.string ⟨y.s.toArray⟩) ∧ w.cell? ⟨b, off + i * 4 + 3, none⟩ = some (.slice y.A y.len y.cap)) := by
 obtain ⟨k1, k2, k3, k4, k5, ka⟩ := h.open
 have e0 : t.args[i]? = some (t.args.getD i noTm) := by rw [List.getD_eq_getElem?_getD, List.getElem?_eq_getElem hi]; rfl
 obtain ⟨y, b, off, hA, hb, ht, hc⟩ := ka i _ e0
 exact ⟨b, off, y, hA, hb, ht, hc 0 _ rfl, hc 1 _ rfl, hc 2 _ rfl, hc 3 _ rfl⟩
theorem arg_lt {t : Tm} {i : Nat} (h : i < t.args.length) : (t.args.getD i noTm).size < t.size := by
 have h1 := mem_sizes t.args (t.args.getD i noTm) (by rw [List.getD_eq_getElem?_getD, List.getElem?_eq_getElem h]; exact List.getElem_mem h)
 have h2 := size_args t
 omega
theorem sizes_len : ∀ l : List Tm, l.length ≤ Tm.sizes l
 | [] => Nat.le_refl _
 | t :: r => by
  have h1 := sizes_len r
  have h2 := size_pos t
  rw [Tm.sizes, List.length_cons]
  omega
theorem sizes_step (l : List Tm) (k : Nat) (h : k < l.length) : Tm.sizes (l.take (k + 1)) = Tm.sizes (l.take k) + (l.getD k noTm).size := by
 have : ∀ (l : List Tm) (k : Nat), k < l.length → Tm.sizes (l.take (k + 1)) = Tm.sizes (l.take k) + (l.getD k noTm).size := by
  intro l
  induction l with
  | nil => intro k h; simp at h
  | cons a r ih =>
   intro k h
   cases k with
   | zero => simp [Tm.sizes]
   | succ k =>
    have := ih k (by simpa using h)
    rw [List.take_succ_cons, Tm.sizes, List.take_succ_cons, Tm.sizes, List.getD_cons_succ, this]
    omega
 exact this l k h
theorem sizes_takeLe : ∀ (l : List Tm) (k : Nat), Tm.sizes (l.take k) ≤ Tm.sizes l
 | [], k => by simp [Tm.sizes]
 | a :: r, 0 => by simp [Tm.sizes]
 | a :: r, k + 1 => by
  have := sizes_takeLe r k
  rw [List.take_succ_cons, Tm.sizes, Tm.sizes]
  omega
def RSz (n : Nat) : Prop := ∀ (t : Tm) (u : World) (x : TV), t.size ≤ n → t.size ≤ 1000000000 → TermAt u u.heap.size x t →
 Calls Tryz.prog 71 #[tvV x] u fun e u' => e = .returned (.int .i64 t.size) ∧ Below u.heap.size u u'
set_option maxHeartbeats 8000000 in
theorem rsz_step {n : Nat} (hC : RSz n) : RSz (n + 1) := by
 intro t u x hn hsz hx
 obtain ⟨k1, k2, k3, k4, k5, -⟩ := hx.open
 have hsa := size_args t
 have hsl := sizes_len t.args
 obtain ⟨W, hW⟩ : ∃ W, W = u.alloc (.cells #[.int .i64 x.k, .int .i64 x.n, .string ⟨x.s.toArray⟩, .slice x.A x.len x.cap] 34) := ⟨_, rfl⟩
 obtain ⟨bx, hbx⟩ : ∃ b, b = u.heap.size := ⟨_, rfl⟩
 have hbW : Below u.heap.size u W := by rw [hW]; exact (Below.refl _ _).alloc (Nat.le_refl _) _
 have hx0 : W.heap[bx]? = some (.cells #[.int .i64 x.k, .int .i64 x.n, .string ⟨x.s.toArray⟩, .slice x.A x.len x.cap] 34 (0, 0)) := by rw [hW, hbx]; exact heap_alloc_new _ _
 have HC := Lib.hid hC
 have HX := Lib.hid (hx.blw hbW)
 have HB := Lib.hid (And.intro hbW hbx)
 have HSZ := Lib.hid (And.intro hn (And.intro hsz (And.intro hsa (And.intro hsl k4))))
 obtain ⟨f0, f1, f2, f3, -⟩ := four_at hx0
 obtain ⟨Z, hZ⟩ : ∃ Z, Z = t.size := ⟨_, rfl⟩
 rw [← hZ]
 have HZ := Lib.hid hZ
 clear hC hn hsz hx k1 k2 k3 k4 k5 hsa hsl hbW hx0 hZ
 rw [tvV_lit]
 go_enter Tryz.func71, Tryz.ntmps71
 go_upto_region 1 with fail
 rw [← hW, ← hbx]
 clear hW hbx
 go_wp2_with fail
 clear f0 f1 f2 f3
 go_loopw [3, 9] (fun v i wr => ∃ k : Nat, k ≤ x.len ∧ i = .int .i64 k ∧ v = .int .i64 ((1 + Tm.sizes (t.args.take k) : Nat) : Int) ∧ Hid (Below W.heap.size W wr)) (fun _ i _ => x.len - (intOf i).toNat)
 case atStart => exact ⟨0, Nat.zero_le _, rfl, by simp [Tm.sizes], Lib.hid (Below.refl _ _)⟩
 case round =>
  obtain ⟨k, hk, rfl, rfl, HI⟩ := hrel
  by_cases hkl : k < x.len
  case neg =>
   have b9 : decide ((k : Int) < (x.len : Int)) = false := by simp; omega
   have hke : k = x.len := by omega
   have hzz : 1 + Tm.sizes (t.args.take k) = Z := by rw [hke, ← HSZ.out.2.2.2.2, List.take_length, HZ.out, HSZ.out.2.2.1]
   rw [hzz]
   have HF := Lib.hid (HB.out.1.trans (HI.out.mono HB.out.1.size))
   clear hke hzz
   go_wp2_with fail
   go_ret
   exact ⟨rfl, HF.out⟩
  have b9 : decide ((k : Int) < (x.len : Int)) = true := by simp; omega
  have hk0 : (0 : Int) ≤ (k : Int) := by omega
  have hk1 : (k : Int) < (x.len : Int) := by omega
  have hka : k < t.args.length := by rw [HSZ.out.2.2.2.2]; exact hkl
  have hbu : Below u.heap.size u wr := HB.out.1.trans (HI.out.mono HB.out.1.size)
  obtain ⟨b, off, y, hA, hbB, hy, m0, m1, m2, m3⟩ := arg_in (HX.out.blw (HI.out.mono HB.out.1.size)) hka
  have hbw : b < wr.heap.size := by have := hbu.size; omega
  obtain ⟨V1, hV1⟩ : ∃ V1, V1 = wr.alloc (.cells #[.int .i64 y.k, .int .i64 y.n, .string ⟨y.s.toArray⟩, .slice y.A y.len y.cap] 34) := ⟨_, rfl⟩
  obtain ⟨b6, hb6⟩ : ∃ b6, b6 = wr.heap.size := ⟨_, rfl⟩
  have hbV1 : Below wr.heap.size wr V1 := by rw [hV1]; exact (Below.refl _ _).alloc (Nat.le_refl _) _
  have hy0 : V1.heap[b6]? = some (.cells #[.int .i64 y.k, .int .i64 y.n, .string ⟨y.s.toArray⟩, .slice y.A y.len y.cap] 34 (0, 0)) := by rw [hV1, hb6]; exact heap_alloc_new _ _
  have hst := sizes_step t.args k hka
  have hle := sizes_takeLe t.args (k + 1)
  have hcl := HC.out (t.args.getD k noTm) V1 y (by have := arg_lt hka; have := HSZ.out.1; omega) (by have := arg_lt hka; have := HSZ.out.2.1; omega) (((hy.up (by have := hbu.size; omega)).blw (B := wr.heap.size) hbV1).up hbV1.size)
  rw [tvV_lit] at hcl
  obtain ⟨a, ha⟩ : ∃ a, a = 1 + Tm.sizes (t.args.take k) := ⟨_, rfl⟩
  obtain ⟨z, hz⟩ : ∃ z, z = (t.args.getD k noTm).size := ⟨_, rfl⟩
  have haz : 1 + Tm.sizes (t.args.take (k + 1)) = a + z := by rw [ha, hz, hst]; omega
  have haz2 : a + z ≤ 1000000001 := by have := HSZ.out; omega
  rw [← hz] at hcl
  rw [← ha]
  have HCL := Lib.hid hcl
  have HAZ := Lib.hid haz
  have hw3 : IntKind.i64.wrap ((a : Int) + (z : Int)) = ((a + z : Nat) : Int) := by rw [IntWalk.i64_in _ (by omega)]; omega
  have hw2 : IntKind.i64.wrap ((k : Int) + 1) = (k : Int) + 1 := IntWalk.i64_in _ (by have := HSZ.out; omega)
  have HB1 := Lib.hid (And.intro hbV1 (And.intro hbu hkl))
  have HY0 := Lib.hid hy0
  rw [hA] at *
  clear hcl hbV1 hbu hy0 hA hbB hy hka hst hle ha hz haz haz2
  go_upto_region 5 with fail
  rw [← hV1, ← hb6]
  clear hV1 hb6 m0 m1 m2 m3 hbw
  obtain ⟨y0, y1, y2, y3, -⟩ := four_at HY0.out
  go_wp2_with fail
  refine HCL.out.mono ?_
  rintro e V2 ⟨rfl, hb2⟩
  have HN := Lib.hid (HI.out.trans ((HB1.out.1.trans (hb2.mono HB1.out.1.size)).mono HI.out.size))
  clear hb2 y0 y1 y2 y3
  go_wp2_with fail
  go_roundw
  case rel => exact ⟨k + 1, by have := HB1.out.2.2; omega, rfl, by rw [HAZ.out, Int.natCast_add], HN⟩
  case measure =>
   simp only [intOf]
   have := HB1.out.2.2
   omega
theorem rsz_all : ∀ n, RSz n
 | 0 => fun t _ _ h _ _ => by have := size_pos t; omega
 | n + 1 => rsz_step (rsz_all n)
theorem deeps_step (l : List Tm) (k : Nat) (h : k < l.length) : Tm.deeps (l.take (k + 1)) = max (Tm.deeps (l.take k)) (l.getD k noTm).deep := by
 have : ∀ (l : List Tm) (k : Nat), k < l.length → Tm.deeps (l.take (k + 1)) = max (Tm.deeps (l.take k)) (l.getD k noTm).deep := by
  intro l
  induction l with
  | nil => intro k h; simp at h
  | cons a r ih =>
   intro k h
   cases k with
   | zero => simp [Tm.deeps]
   | succ k =>
    have := ih k (by simpa using h)
    rw [List.take_succ_cons, Tm.deeps, List.take_succ_cons, Tm.deeps, List.getD_cons_succ, this]
    omega
 exact this l k h
theorem deep_args (t : Tm) : t.deep = 1 + Tm.deeps t.args := by
 obtain ⟨k, n, s, l⟩ := t
 rw [Tm.deep]
 rfl
mutual
theorem deep_le_sizeO : ∀ t : Tm, t.deep ≤ t.size
 | .mk k n s l => by
  rw [Tm.deep, Tm.size]
  have := deeps_le_sizes l
  omega
theorem deeps_le_sizes : ∀ l : List Tm, Tm.deeps l ≤ Tm.sizes l
 | [] => Nat.le_refl _
 | t :: r => by
  rw [Tm.deeps, Tm.sizes]
  have := deep_le_sizeO t
  have := deeps_le_sizes r
  omega
end
def RDp (n : Nat) : Prop := ∀ (t : Tm) (u : World) (x : TV), t.size ≤ n → t.size ≤ 1000000000 → TermAt u u.heap.size x t →
 Calls Tryz.prog 70 #[tvV x] u fun e u' => e = .returned (.int .i64 t.deep) ∧ Below u.heap.size u u'
set_option maxHeartbeats 8000000 in
theorem rdp_step {n : Nat} (hC : RDp n) : RDp (n + 1) := by
 intro t u x hn hsz hx
 obtain ⟨k1, k2, k3, k4, k5, -⟩ := hx.open
 have hsa := size_args t
 have hsl := sizes_len t.args
 obtain ⟨W, hW⟩ : ∃ W, W = u.alloc (.cells #[.int .i64 x.k, .int .i64 x.n, .string ⟨x.s.toArray⟩, .slice x.A x.len x.cap] 34) := ⟨_, rfl⟩
 obtain ⟨bx, hbx⟩ : ∃ b, b = u.heap.size := ⟨_, rfl⟩
 have hbW : Below u.heap.size u W := by rw [hW]; exact (Below.refl _ _).alloc (Nat.le_refl _) _
 have hx0 : W.heap[bx]? = some (.cells #[.int .i64 x.k, .int .i64 x.n, .string ⟨x.s.toArray⟩, .slice x.A x.len x.cap] 34 (0, 0)) := by rw [hW, hbx]; exact heap_alloc_new _ _
 have HC := Lib.hid hC
 have HX := Lib.hid (hx.blw hbW)
 have HB := Lib.hid (And.intro hbW hbx)
 have HSZ := Lib.hid (And.intro hn (And.intro hsz (And.intro hsa (And.intro hsl k4))))
 obtain ⟨f0, f1, f2, f3, -⟩ := four_at hx0
 obtain ⟨Z, hZ⟩ : ∃ Z, Z = t.deep := ⟨_, rfl⟩
 rw [← hZ]
 have HZ := Lib.hid hZ
 clear hC hn hsz hx k1 k2 k3 k4 k5 hsa hsl hbW hx0 hZ
 rw [tvV_lit]
 go_enter Tryz.func70, Tryz.ntmps70
 go_upto_region 1 with fail
 rw [← hW, ← hbx]
 clear hW hbx
 go_wp2_with fail
 clear f0 f1 f2 f3
 go_loopw [3, 9] (fun v i wr => ∃ k : Nat, k ≤ x.len ∧ i = .int .i64 k ∧ v = .int .i64 ((Tm.deeps (t.args.take k) : Nat) : Int) ∧ Hid (Below W.heap.size W wr)) (fun _ i _ => x.len - (intOf i).toNat)
 case atStart => exact ⟨0, Nat.zero_le _, rfl, by simp [Tm.deeps], Lib.hid (Below.refl _ _)⟩
 case round =>
  obtain ⟨k, hk, rfl, rfl, HI⟩ := hrel
  by_cases hkl : k < x.len
  case neg =>
   have b9 : decide ((k : Int) < (x.len : Int)) = false := by simp; omega
   have hke : k = x.len := by omega
   have hdl := deeps_le_sizes (t.args.take k)
   have hsl := sizes_takeLe t.args k
   have hzz : Tm.deeps (t.args.take k) + 1 = Z := by rw [hke, ← HSZ.out.2.2.2.2, List.take_length, HZ.out, deep_args]; omega
   obtain ⟨a, ha⟩ : ∃ a, a = Tm.deeps (t.args.take k) := ⟨_, rfl⟩
   rw [← ha] at hzz hdl ⊢
   have hw4 : IntKind.i64.wrap (Z : Int) = (Z : Int) := IntWalk.i64_in _ (by have := HSZ.out; omega)
   have hw5 : (a : Int) + 1 = (Z : Int) := by omega
   have HF := Lib.hid (HB.out.1.trans (HI.out.mono HB.out.1.size))
   clear hke hzz hdl hsl ha
   go_wp2_with fail
   go_ret
   exact ⟨rfl, HF.out⟩
  have b9 : decide ((k : Int) < (x.len : Int)) = true := by simp; omega
  have hk0 : (0 : Int) ≤ (k : Int) := by omega
  have hk1 : (k : Int) < (x.len : Int) := by omega
  have hka : k < t.args.length := by rw [HSZ.out.2.2.2.2]; exact hkl
  have hbu : Below u.heap.size u wr := HB.out.1.trans (HI.out.mono HB.out.1.size)
  obtain ⟨b, off, y, hA, hbB, hy, m0, m1, m2, m3⟩ := arg_in (HX.out.blw (HI.out.mono HB.out.1.size)) hka
  have hbw : b < wr.heap.size := by have := hbu.size; omega
  obtain ⟨V1, hV1⟩ : ∃ V1, V1 = wr.alloc (.cells #[.int .i64 y.k, .int .i64 y.n, .string ⟨y.s.toArray⟩, .slice y.A y.len y.cap] 34) := ⟨_, rfl⟩
  obtain ⟨b6, hb6⟩ : ∃ b6, b6 = wr.heap.size := ⟨_, rfl⟩
  have hbV1 : Below wr.heap.size wr V1 := by rw [hV1]; exact (Below.refl _ _).alloc (Nat.le_refl _) _
  have hy0 : V1.heap[b6]? = some (.cells #[.int .i64 y.k, .int .i64 y.n, .string ⟨y.s.toArray⟩, .slice y.A y.len y.cap] 34 (0, 0)) := by rw [hV1, hb6]; exact heap_alloc_new _ _
  have hst := deeps_step t.args k hka
  have hcl := HC.out (t.args.getD k noTm) V1 y (by have := arg_lt hka; have := HSZ.out.1; omega) (by have := arg_lt hka; have := HSZ.out.2.1; omega) (((hy.up (by have := hbu.size; omega)).blw (B := wr.heap.size) hbV1).up hbV1.size)
  rw [tvV_lit] at hcl
  obtain ⟨a, ha⟩ : ∃ a, a = Tm.deeps (t.args.take k) := ⟨_, rfl⟩
  obtain ⟨z, hz⟩ : ∃ z, z = (t.args.getD k noTm).deep := ⟨_, rfl⟩
  have haz : Tm.deeps (t.args.take (k + 1)) = max a z := by rw [ha, hz, hst]
  have hmx : ((max a z : Nat) : Int) = max (a : Int) (z : Int) := by omega
  rw [← hz] at hcl
  rw [← ha]
  have HCL := Lib.hid hcl
  have HAZ := Lib.hid haz
  have hw2 : IntKind.i64.wrap ((k : Int) + 1) = (k : Int) + 1 := IntWalk.i64_in _ (by have := HSZ.out; omega)
  have HB1 := Lib.hid (And.intro hbV1 (And.intro hbu hkl))
  have HY0 := Lib.hid hy0
  rw [hA] at *
  clear hcl hbV1 hbu hy0 hA hbB hy hka hst ha hz haz
  go_upto_region 5 with fail
  rw [← hV1, ← hb6]
  clear hV1 hb6 m0 m1 m2 m3 hbw
  obtain ⟨y0, y1, y2, y3, -⟩ := four_at HY0.out
  go_wp2_with fail
  refine HCL.out.mono ?_
  rintro e V2 ⟨rfl, hb2⟩
  have HN := Lib.hid (HI.out.trans ((HB1.out.1.trans (hb2.mono HB1.out.1.size)).mono HI.out.size))
  clear hb2 y0 y1 y2 y3
  go_wp2_with fail
  go_roundw
  case rel => exact ⟨k + 1, by have := HB1.out.2.2; omega, rfl, by rw [HAZ.out, hmx]; first | done | (congr 1; split <;> omega), HN⟩
  case measure =>
   simp only [intOf]
   have := HB1.out.2.2
   omega
theorem rdp_all : ∀ n, RDp n
 | 0 => fun t _ _ h _ _ => by have := size_pos t; omega
 | n + 1 => rdp_step (rdp_all n)
theorem may_is (t : Tm) : t.may = (mayP t.k t.n t.s t.args.length && Tm.mays t.args) := by
 obtain ⟨k, n, s, l⟩ := t
 rw [Tm.may]
 rfl
theorem mays_nil {l : List Tm} (h : l.length = 0) : Tm.mays l = true := by
 rw [List.length_eq_zero_iff.1 h]
 rfl
theorem mays_take (l : List Tm) (k : Nat) (h : k < l.length) : Tm.mays (l.take (k + 1)) = (Tm.mays (l.take k) && (l.getD k noTm).may) := by
 have : ∀ (l : List Tm) (k : Nat), k < l.length → Tm.mays (l.take (k + 1)) = (Tm.mays (l.take k) && (l.getD k noTm).may) := by
  intro l
  induction l with
  | nil => intro k h; simp at h
  | cons a r ih =>
   intro k h
   cases k with
   | zero => simp [Tm.mays]
   | succ k =>
    have := ih k (by simpa using h)
    rw [List.take_succ_cons, Tm.mays, List.take_succ_cons, Tm.mays, List.getD_cons_succ, this, Bool.and_assoc]
 exact this l k h
theorem mays_false {l : List Tm} {k : Nat} (h : k < l.length) (hm : (l.getD k noTm).may = false) : Tm.mays l = false := by
 have : ∀ (l : List Tm) (k : Nat), k < l.length → (l.getD k noTm).may = false → Tm.mays l = false := by
  intro l
  induction l with
  | nil => intro k h; simp at h
  | cons a r ih =>
   intro k h hm
   cases k with
   | zero =>
    rw [Tm.mays]
    have : a.may = false := by simpa using hm
    rw [this]
    rfl
   | succ k =>
    rw [List.getD_cons_succ] at hm
    rw [Tm.mays, ih k (by simpa using h) hm, Bool.and_false]
 exact this l k h hm
theorem beq_len (n : Nat) : ((n : Int) == 0) = decide (n = 0) := by
 by_cases h : n = 0
 ·subst h; rfl
 ·rw [decide_eq_false h, beq_eq_false_iff_ne]; omega
def RMy (n : Nat) : Prop := ∀ (t : Tm) (u : World) (x : TV), t.size ≤ n → t.size ≤ 1000000000 → TermAt u u.heap.size x t →
 Calls Tryz.prog 69 #[tvV x] u fun e u' => e = .returned (.bool t.may) ∧ Below u.heap.size u u'
set_option maxHeartbeats 8000000 in
theorem rmy_step {n : Nat} (hC : RMy n) : RMy (n + 1) := by
 intro t u x hn hsz hx
 obtain ⟨k1, k2, k3, k4, k5, -⟩ := hx.open
 have hsa := size_args t
 have hsl := sizes_len t.args
 obtain ⟨W, hW⟩ : ∃ W, W = u.alloc (.cells #[.int .i64 x.k, .int .i64 x.n, .string ⟨x.s.toArray⟩, .slice x.A x.len x.cap] 34) := ⟨_, rfl⟩
 obtain ⟨bx, hbx⟩ : ∃ b, b = u.heap.size := ⟨_, rfl⟩
 have hbW : Below u.heap.size u W := by rw [hW]; exact (Below.refl _ _).alloc (Nat.le_refl _) _
 have hx0 : W.heap[bx]? = some (.cells #[.int .i64 x.k, .int .i64 x.n, .string ⟨x.s.toArray⟩, .slice x.A x.len x.cap] 34 (0, 0)) := by rw [hW, hbx]; exact heap_alloc_new _ _
 obtain ⟨R, hR⟩ : ∃ R, R = t.may := ⟨_, rfl⟩
 rw [← hR]
 have HR : Hid (R = (mayP x.k x.n x.s x.len && Tm.mays t.args)) := Lib.hid (by rw [hR, may_is, k1, k2, k3, k4])
 have HC := Lib.hid hC
 have HX := Lib.hid (hx.blw hbW)
 have HB := Lib.hid (And.intro hbW hbx)
 have HSZ := Lib.hid (And.intro hn (And.intro hsz (And.intro hsa (And.intro hsl k4))))
 have hss : (⟨x.s.toArray⟩ : ByteArray).size = x.s.length := by simp [ByteArray.size]
 obtain ⟨f0, f1, f2, f3, -⟩ := four_at hx0
 clear hC hn hsz hx k1 k2 k3 k4 k5 hsa hsl hbW hx0 hR
 rw [tvV_lit]
 have hleaf : ∀ q : Bool, mayP x.k x.n x.s x.len = (q && decide (x.len = 0)) → R = (q && ((x.len : Int) == 0)) := fun q h => by
  rw [HR.out, h, beq_len]
  by_cases h0 : x.len = 0
  ·rw [mays_nil (by rw [HSZ.out.2.2.2.2, h0]), Bool.and_true]
  ·simp [h0]
 have HLF := Lib.hid hleaf
 clear hleaf
 have hem : x.s.isEmpty = decide (x.s = []) := by cases x.s <;> rfl
 have HEM := Lib.hid hem
 clear hem
 by_cases e1 : x.k = 1
 ·have b1 : (x.k == 1) = true := by rw [e1]; rfl
  have hr := HLF.out (decide (0 ≤ x.n) && decide (x.s = [])) (by unfold mayP; rw [if_pos e1]; simp only [Bool.decide_and, Bool.and_assoc])
  have HRR := Lib.hid hr
  clear e1 hr
  go_enter Tryz.func69, Tryz.ntmps69
  go_upto_region 1 with fail
  rw [← hW, ← hbx]
  clear hW hbx
  go_wp2_with fail
  all_goals
   go_ret
   refine ⟨?_, HB.out.1⟩
   rw [HRR.out]
   refine congrArg Ending.returned (congrArg Value.bool ?_)
   first | (simp [*]; done) | (simp_all; done) | (simp_all; intros; omega)
 have n1 : (x.k == 1) = false := by simpa using e1
 by_cases e2 : x.k = 2
 ·have b1 : (x.k == 2) = true := by rw [e2]; rfl
  have hr := HLF.out (decide (x.s = [])) (by unfold mayP; rw [if_neg e1, if_pos e2]; simp only [Bool.decide_and])
  have HRR := Lib.hid hr
  clear e1 e2 hr
  go_enter Tryz.func69, Tryz.ntmps69
  go_upto_region 1 with fail
  rw [← hW, ← hbx]
  clear hW hbx
  go_wp2_with fail
  all_goals
   go_ret
   refine ⟨?_, HB.out.1⟩
   rw [HRR.out]
   refine congrArg Ending.returned (congrArg Value.bool ?_)
   first | (simp [*]; done) | (simp_all; done) | (simp_all; intros; omega)
 have n2 : (x.k == 2) = false := by simpa using e2
 by_cases e3 : x.k = 3
 ·have b1 : (x.k == 3) = true := by rw [e3]; rfl
  have hr := HLF.out (decide (x.n = 0) && decide (x.s.length ≤ 1000)) (by unfold mayP; rw [if_neg e1, if_neg e2, if_pos e3]; simp only [Bool.decide_and, Bool.and_assoc])
  have HRR := Lib.hid hr
  clear e1 e2 e3 hr
  go_enter Tryz.func69, Tryz.ntmps69
  go_upto_region 1 with fail
  rw [← hW, ← hbx]
  clear hW hbx
  go_wp2_with fail
  all_goals
   go_ret
   refine ⟨?_, HB.out.1⟩
   rw [HRR.out]
   refine congrArg Ending.returned (congrArg Value.bool ?_)
   first | (simp [*]; done) | (simp_all; done) | (simp_all; intros; omega)
 have n3 : (x.k == 3) = false := by simpa using e3
 by_cases e4 : x.k = 4
 case neg =>
  have n4 : (x.k == 4) = false := by simpa using e4
  have hr : R = false := by rw [HR.out]; unfold mayP; rw [if_neg e1, if_neg e2, if_neg e3, if_neg e4]; rfl
  clear e1 e2 e3 e4
  go_enter Tryz.func69, Tryz.ntmps69
  go_upto_region 1 with fail
  rw [← hW, ← hbx]
  clear hW hbx
  go_wp2_with fail
  go_ret
  exact ⟨by first | rfl | (rw [hr]; rfl), HB.out.1⟩
 have b1 : (x.k == 4) = true := by rw [e4]; rfl
 have HR4 : Hid (R = (decide (x.n = 0 ∧ x.s.length ≤ 1000 ∧ 1 ≤ x.len ∧ x.len ≤ 255) && Tm.mays t.args)) := Lib.hid (by rw [HR.out]; unfold mayP; rw [if_neg e1, if_neg e2, if_neg e3, if_pos e4])
 clear e1 e2 e3 e4
 by_cases g1 : x.n = 0
 case neg =>
  have hr : R = false := by rw [HR4.out, decide_eq_false (by omega), Bool.false_and]
  have c1 : (x.n != 0) = true := by simpa using g1
  clear g1
  go_enter Tryz.func69, Tryz.ntmps69
  go_upto_region 1 with fail
  rw [← hW, ← hbx]
  clear hW hbx
  go_wp2_with fail
  go_ret
  exact ⟨by first | rfl | (rw [hr]; rfl), HB.out.1⟩
 by_cases g2 : 1000 < x.s.length
 ·have c1 : (x.n != 0) = false := by simpa using g1
  have hr : R = false := by rw [HR4.out, decide_eq_false (by omega), Bool.false_and]
  have c2 : (1000 : Int) < (x.s.length : Int) := by omega
  clear g1 g2
  go_enter Tryz.func69, Tryz.ntmps69
  go_upto_region 1 with fail
  rw [← hW, ← hbx]
  clear hW hbx
  go_wp2_with fail
  go_ret
  exact ⟨by first | rfl | (rw [hr]; rfl), HB.out.1⟩
 by_cases g3 : x.len = 0
 ·have c1 : (x.n != 0) = false := by simpa using g1
  have hr : R = false := by rw [HR4.out, decide_eq_false (by omega), Bool.false_and]
  have c2 : ¬ (1000 : Int) < (x.s.length : Int) := by omega
  have c3 : ((x.len : Int) == 0) = true := by rw [g3]; rfl
  clear g1 g2 g3
  go_enter Tryz.func69, Tryz.ntmps69
  go_upto_region 1 with fail
  rw [← hW, ← hbx]
  clear hW hbx
  go_wp2_with fail
  go_ret
  exact ⟨by first | rfl | (rw [hr]; rfl), HB.out.1⟩
 by_cases g4 : 255 < x.len
 ·have c1 : (x.n != 0) = false := by simpa using g1
  have hr : R = false := by rw [HR4.out, decide_eq_false (by omega), Bool.false_and]
  have c2 : ¬ (1000 : Int) < (x.s.length : Int) := by omega
  have c3 : ((x.len : Int) == 0) = false := by rw [beq_eq_false_iff_ne]; omega
  have c4 : (255 : Int) < (x.len : Int) := by omega
  clear g1 g2 g3 g4
  go_enter Tryz.func69, Tryz.ntmps69
  go_upto_region 1 with fail
  rw [← hW, ← hbx]
  clear hW hbx
  go_wp2_with fail
  go_ret
  exact ⟨by first | rfl | (rw [hr]; rfl), HB.out.1⟩
 have HRM : Hid (R = Tm.mays t.args) := Lib.hid (by rw [HR4.out, decide_eq_true ⟨g1, by omega, by omega, by omega⟩, Bool.true_and])
 have c1 : (x.n != 0) = false := by simpa using g1
 have c2 : ¬ (1000 : Int) < (x.s.length : Int) := by omega
 have c3 : ((x.len : Int) == 0) = false := by rw [beq_eq_false_iff_ne]; omega
 have c4 : ¬ (255 : Int) < (x.len : Int) := by omega
 clear g1 g2 g3 g4 HEM
 go_enter Tryz.func69, Tryz.ntmps69
 go_upto_region 1 with fail
 rw [← hW, ← hbx]
 clear hW hbx
 go_wp2_with fail
 clear f0 f1 f2 f3 c1 c2 c3 c4
 go_loopw [77] (fun i wr => ∃ k : Nat, k ≤ x.len ∧ i = .int .i64 k ∧ Hid (Below W.heap.size W wr ∧ Tm.mays (t.args.take k) = true)) (fun i _ => x.len - (intOf i).toNat)
 case atStart => exact ⟨0, Nat.zero_le _, rfl, Lib.hid ⟨Below.refl _ _, rfl⟩⟩
 case round =>
  obtain ⟨k, hk, rfl, HI⟩ := hrel
  by_cases hkl : k < x.len
  case neg =>
   have b9 : decide ((k : Int) < (x.len : Int)) = false := by simp; omega
   have hrr : R = true := by
    have hke : k = x.len := by omega
    have h1 := HI.out.2
    rw [hke, ← HSZ.out.2.2.2.2, List.take_length] at h1
    rw [HRM.out, h1]
   have HF := Lib.hid (HB.out.1.trans (HI.out.1.mono HB.out.1.size))
   go_wp2_with fail
   go_ret
   exact ⟨by rw [hrr]; rfl, HF.out⟩
  have b9 : decide ((k : Int) < (x.len : Int)) = true := by simp; omega
  have hk0 : (0 : Int) ≤ (k : Int) := by omega
  have hk1 : (k : Int) < (x.len : Int) := by omega
  have hka : k < t.args.length := by rw [HSZ.out.2.2.2.2]; exact hkl
  have hbu : Below u.heap.size u wr := HB.out.1.trans (HI.out.1.mono HB.out.1.size)
  obtain ⟨b, off, y, hA, hbB, hy, m0, m1, m2, m3⟩ := arg_in (HX.out.blw (HI.out.1.mono HB.out.1.size)) hka
  have hbw : b < wr.heap.size := by have := hbu.size; omega
  obtain ⟨V1, hV1⟩ : ∃ V1, V1 = wr.alloc (.cells #[.int .i64 y.k, .int .i64 y.n, .string ⟨y.s.toArray⟩, .slice y.A y.len y.cap] 34) := ⟨_, rfl⟩
  obtain ⟨b6, hb6⟩ : ∃ b6, b6 = wr.heap.size := ⟨_, rfl⟩
  have hbV1 : Below wr.heap.size wr V1 := by rw [hV1]; exact (Below.refl _ _).alloc (Nat.le_refl _) _
  have hy0 : V1.heap[b6]? = some (.cells #[.int .i64 y.k, .int .i64 y.n, .string ⟨y.s.toArray⟩, .slice y.A y.len y.cap] 34 (0, 0)) := by rw [hV1, hb6]; exact heap_alloc_new _ _
  have hcl := HC.out (t.args.getD k noTm) V1 y (by have := arg_lt hka; have := HSZ.out.1; omega) (by have := arg_lt hka; have := HSZ.out.2.1; omega) (((hy.up (by have := hbu.size; omega)).blw (B := wr.heap.size) hbV1).up hbV1.size)
  rw [tvV_lit] at hcl
  obtain ⟨Q, hQ⟩ : ∃ Q, Q = (t.args.getD k noTm).may := ⟨_, rfl⟩
  rw [← hQ] at hcl
  have HQT : Hid (Q = true → Tm.mays (t.args.take (k + 1)) = true) := Lib.hid fun e => by rw [mays_take _ _ hka, HI.out.2, ← hQ, e]; rfl
  have HQF : Hid (Q = false → R = false) := Lib.hid fun e => by rw [HRM.out]; exact mays_false hka (by rw [← hQ, e])
  have HCL := Lib.hid hcl
  have hw2 : IntKind.i64.wrap ((k : Int) + 1) = (k : Int) + 1 := IntWalk.i64_in _ (by have := HSZ.out; omega)
  have HB1 := Lib.hid (And.intro hbV1 (And.intro hbu hkl))
  have HY0 := Lib.hid hy0
  rw [hA] at *
  clear hcl hbV1 hbu hy0 hA hbB hy hka hQ
  go_upto_region 14 with fail
  rw [← hV1, ← hb6]
  clear hV1 hb6 m0 m1 m2 m3 hbw
  obtain ⟨y0, y1, y2, y3, -⟩ := four_at HY0.out
  go_wp2_with fail
  refine HCL.out.mono ?_
  rintro e V2 ⟨rfl, hb2⟩
  have HN := Lib.hid (HI.out.1.trans ((HB1.out.1.trans (hb2.mono HB1.out.1.size)).mono HI.out.1.size))
  clear hb2 y0 y1 y2 y3
  cases Q with
  | true =>
   have HM := Lib.hid (HQT.out rfl)
   go_wp2_with fail
   go_roundw
   case rel => exact ⟨k + 1, by have := HB1.out.2.2; omega, rfl, Lib.hid ⟨HN.out, HM.out⟩⟩
   case measure =>
    simp only [intOf]
    have := HB1.out.2.2
    omega
  | false =>
   have hrr := HQF.out rfl
   have HF := Lib.hid (HB.out.1.trans (HN.out.mono HB.out.1.size))
   go_wp2_with fail
   go_ret
   exact ⟨by rw [hrr]; rfl, HF.out⟩
theorem rmy_all : ∀ n, RMy n
 | 0 => fun t _ _ h _ _ => by have := size_pos t; omega
 | n + 1 => rmy_step (rmy_all n)
set_option maxHeartbeats 4000000 in
theorem rcheck_any (u : World) (x : TV) (t : Tm) (hx : TermAt u u.heap.size x t) (hsz : t.size ≤ 1000000000) :
    Calls Tryz.prog 38 #[tvV x] u fun e u' => e = .returned (.int .i64 (checkT t)) ∧ Below u.heap.size u u' := by
 obtain ⟨W, hW⟩ : ∃ W, W = u.alloc (.cells #[.int .i64 x.k, .int .i64 x.n, .string ⟨x.s.toArray⟩, .slice x.A x.len x.cap] 34) := ⟨_, rfl⟩
 obtain ⟨bx, hbx⟩ : ∃ b, b = u.heap.size := ⟨_, rfl⟩
 have hbW : Below u.heap.size u W := by rw [hW]; exact (Below.refl _ _).alloc (Nat.le_refl _) _
 have hx0 : W.heap[bx]? = some (.cells #[.int .i64 x.k, .int .i64 x.n, .string ⟨x.s.toArray⟩, .slice x.A x.len x.cap] 34 (0, 0)) := by rw [hW, hbx]; exact heap_alloc_new _ _
 have hxW := hx.later hbW
 obtain ⟨M, hM⟩ : ∃ M, M = t.may := ⟨_, rfl⟩
 obtain ⟨D, hD⟩ : ∃ D, D = t.deep := ⟨_, rfl⟩
 obtain ⟨Z, hZ⟩ : ∃ Z, Z = t.size := ⟨_, rfl⟩
 obtain ⟨R, hR⟩ : ∃ R, R = checkT t := ⟨_, rfl⟩
 rw [← hR]
 have HR : Hid (R = if M = false then 2 else if 2000 < D then 4 else if 20000 < Z then 3 else 0) := Lib.hid (by rw [hR, hM, hD, hZ]; rfl)
 have hm := rmy_all t.size t W x (Nat.le_refl _) hsz hxW
 rw [← hM, tvV_lit] at hm
 have HM := Lib.hid hm
 have HDP : Hid (∀ v, Below W.heap.size W v → Calls Tryz.prog 70 #[.agg #[.int .i64 x.k, .int .i64 x.n, .string ⟨x.s.toArray⟩, .slice x.A x.len x.cap]] v fun e v' => e = .returned (.int .i64 (D : Int)) ∧ Below W.heap.size W v') := Lib.hid fun v hv => by
  have := rdp_all t.size t v x (Nat.le_refl _) hsz (hxW.later hv)
  rw [← hD, tvV_lit] at this
  exact this.mono fun e v' ⟨h1, h2⟩ => ⟨h1, hv.trans (h2.mono hv.size)⟩
 have HSP : Hid (∀ v, Below W.heap.size W v → Calls Tryz.prog 71 #[.agg #[.int .i64 x.k, .int .i64 x.n, .string ⟨x.s.toArray⟩, .slice x.A x.len x.cap]] v fun e v' => e = .returned (.int .i64 (Z : Int)) ∧ Below W.heap.size W v') := Lib.hid fun v hv => by
  have := rsz_all t.size t v x (Nat.le_refl _) hsz (hxW.later hv)
  rw [← hZ, tvV_lit] at this
  exact this.mono fun e v' ⟨h1, h2⟩ => ⟨h1, hv.trans (h2.mono hv.size)⟩
 have HB := Lib.hid hbW
 have HX0 := Lib.hid hx0
 obtain ⟨f0, f1, f2, f3, -⟩ := four_at hx0
 clear hM hD hZ hR hm hbW hx0 hxW hx hsz
 rw [tvV_lit]
 go_enter Tryz.func38, Tryz.ntmps38
 go_upto_region 1 with fail
 rw [← hW, ← hbx]
 clear hW hbx
 go_wp2_with fail
 refine HM.out.mono ?_
 rintro e V ⟨rfl, hb⟩
 have HV := Lib.hid hb
 have hx1 := (hb.block bx (Array.getElem?_eq_some_iff.1 HX0.out).1).trans HX0.out
 clear hb f0 f1 f2 f3
 cases M with
 | false =>
  have hr : R = 2 := by rw [HR.out, if_pos rfl]
  clear hx1
  go_wp2_with fail
  go_ret
  exact ⟨by first | rfl | (rw [hr]; rfl), HB.out.trans (HV.out.mono HB.out.size)⟩
 | true =>
  obtain ⟨f0, f1, f2, f3, -⟩ := four_at hx1
  clear hx1
  go_wp2_with fail
  refine (HDP.out _ HV.out).mono ?_
  rintro e V2 ⟨rfl, hb⟩
  have HV2 := Lib.hid hb
  have hx1 := (hb.block bx (Array.getElem?_eq_some_iff.1 HX0.out).1).trans HX0.out
  clear hb f0 f1 f2 f3
  by_cases h2 : 2000 < D
  ·have hr : R = 4 := by rw [HR.out, if_neg (by decide), if_pos h2]
   have h3 : (2000 : Int) < (D : Int) := by omega
   clear hx1 h2
   go_wp2_with fail
   go_ret
   exact ⟨by first | rfl | (rw [hr]; rfl), HB.out.trans (HV2.out.mono HB.out.size)⟩
  ·have h3 : ¬ (2000 : Int) < (D : Int) := by omega
   obtain ⟨f0, f1, f2, f3, -⟩ := four_at hx1
   have HR2 : Hid (R = if 20000 < Z then 3 else 0) := Lib.hid (by rw [HR.out, if_neg (by decide), if_neg h2])
   clear hx1 h2
   go_wp2_with fail
   refine (HSP.out _ HV2.out).mono ?_
   rintro e V3 ⟨rfl, hb⟩
   have HV3 := Lib.hid hb
   clear hb f0 f1 f2 f3
   by_cases h4 : 20000 < Z
   ·have hr : R = 3 := by rw [HR2.out, if_pos h4]
    have h5 : (20000 : Int) < (Z : Int) := by omega
    clear h4
    go_wp2_with fail
    go_ret
    exact ⟨by first | rfl | (rw [hr]; rfl), HB.out.trans (HV3.out.mono HB.out.size)⟩
   ·have hr : R = 0 := by rw [HR2.out, if_neg h4]
    have h5 : ¬ (20000 : Int) < (Z : Int) := by omega
    clear h4
    go_wp2_with fail
    go_ret
    exact ⟨by first | rfl | (rw [hr]; rfl), HB.out.trans (HV3.out.mono HB.out.size)⟩
end Go.Proofs.YtiffopheamnngaaGreatDoor
