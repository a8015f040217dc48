import Derived.Test.YtjdnigepnfeboaaGreatDoorJG08
import Derived.Deep.RegionHeld3
namespace Go.Proofs.YtjdnigepnfeboaaGreatDoor
open Go.RowKit
set_option maxRecDepth 100000
mutual
def Tm.noVar : Tm → Bool | .mk k _ _ l => decide (k ≠ 1) && Tm.noVars l
def Tm.noVars : List Tm → Bool | [] => true | t :: r => t.noVar && Tm.noVars r
end
theorem noVars_mem : ∀ (l : List Tm), Tm.noVars l = true → ∀ t ∈ l, t.noVar = true
 | x :: l, h, t, ht => by
  simp only [Tm.noVars, Bool.and_eq_true] at h
  rcases List.mem_cons.1 ht with rfl | ht
  ·exact h.1
  ·exact noVars_mem l h.2 t ht
theorem noVar_parts {t : Tm} (h : t.noVar = true) : t.k ≠ 1 ∧ ∀ x ∈ t.args, x.noVar = true := by
 obtain ⟨k, n, s, l⟩ := t
 simp only [Tm.noVar, Bool.and_eq_true, decide_eq_true_eq] at h
 exact ⟨h.1, noVars_mem l h.2⟩
structure WalkQ (w : World) (B : Nat) (st : List AbT) (pd : List (Tm × Nat)) (v : Value) (u : World) : Prop where
 row : Row u w.heap.size 320 5 encAb v st
 stk : Stk w B st pd
 fr : Below w.heap.size w u
set_option maxHeartbeats 1000000 in
theorem takeQ_any (w : World) (b : Nat) (x : TV) (d : Nat) (hk : x.k ≠ 1) :
    Calls Tryz.prog 219 #[.pointer (some ⟨b, 0, none⟩), tvV x, .int .i64 d] w fun e w' => e = .returned (.tuple #[]) ∧ Below w.heap.size w w' := by
 rw [tvV_lit]
 go_enter Tryz.func219, Tryz.ntmps219
 go_wp2_with fail
 go_end0
 exact ⟨rfl, (Below.refl _ _).alloc (Nat.le_refl _) _⟩
set_option maxHeartbeats 8000000 in
theorem walkQ_any (w : World) (b B : Nat) (x : TV) (t : Tm) (hx : TermAt w B x t) (hB : B ≤ w.heap.size) (hnv : t.noVar = true) (hsz : t.size ≤ 100000000) :
    Calls Tryz.prog 134 #[tvV x, .func (Fn.func 219) #[.pointer (some ⟨b, 0, none⟩)] #[]] w fun e w' => e = .returned (.tuple #[]) ∧ Below w.heap.size w w' := by
 obtain ⟨i, z, hi, hz, hsi, hby, hzs⟩ := ab_info
 have hI : WalkQ w B [(x, 1)] [(t, 1)] (.slice (some ⟨w.heap.size + 1, 0, none⟩) 1 1) ((w.alloc (.cells (encTV x).toArray 27)).alloc (.cells (encAb (x, 1)).toArray 320)) := by
  refine ⟨?_, .snoc [] [] x t 1 .nil hx, ((Below.refl _ w).alloc (Nat.le_refl _) _).alloc (by simp) _⟩
  ·have := Row.one (B := w.heap.size) (e := 320) encAb_len (w.alloc (.cells (encTV x).toArray 27)) (x, 1) (by simp)
   simpa using this
 have HI := Lib.hid hI
 have HNV := Lib.hid hnv
 clear hI hx hnv
 rw [tvV_lit]
 go_enter Tryz.func134, Tryz.ntmps134
 go_wp2_with fail
 change Code.wp _ _ _ _ ((w.alloc (.cells (encTV x).toArray 27)).alloc (.cells (encAb (x, 1)).toArray 320))
 go_loopg [4] t.size (fun g v u => ∃ st pd, WalkQ w B st pd v u ∧ Hid (pdSize pd = g ∧ pdSize pd ≤ 100000000 ∧ ∀ p ∈ pd, p.1.noVar = true ∧ p.2 + p.1.size ≤ 100000001))
 case atStart => exact ⟨_, _, HI.out, Lib.hid ⟨by simp [pdSize], by simp [pdSize]; omega, fun p hp => by simp at hp; subst hp; exact ⟨HNV.out, by simp only; omega⟩⟩⟩
 case round =>
  obtain ⟨st, pd, hR, HH⟩ := hrel
  clear HI
  obtain _ | ⟨⟨t1, d⟩, pd⟩ := pd
  ·have hl := hR.stk.len
   obtain rfl : st = [] := List.eq_nil_of_length_eq_zero hl
   obtain ⟨A1, c1, rfl⟩ := hR.row.shape
   have HR := Lib.hid hR
   clear hR hl
   go_wp2_with fail
   go_end0
   exact ⟨rfl, HR.out.fr⟩
  ·obtain ⟨st, x1, rfl, hs1, ht1⟩ := hR.stk.pop
   obtain ⟨tk, tn, ts, tl, tm, targ⟩ := ht1.open
   obtain ⟨g, cap, rfl, hg0, hg1, hcap, hcs⟩ := hR.row.cells encAb_len (by simp)
   obtain ⟨hd1, hd2⟩ : t1.noVar = true ∧ d + t1.size ≤ 100000001 := HH.out.2.2 _ (List.mem_cons_self ..)
   obtain ⟨hnk, hna⟩ := noVar_parts hd1
   rw [tk] at hnk
   have HNA := Lib.hid hna
   have hsz1 : pdSize ((t1, d) :: pd) = t1.size + pdSize pd := rfl
   have hts : t1.args.length + 1 ≤ t1.size := args_size t1
   have hb9 := HH.out.2.1
   have hps := size_pos t1
   have hll : x1.len ≤ 100000000 := by omega
   have hst : st.length ≤ 100000000 := by
    have h1 := hs1.len
    have h2 := pdSize_len pd
    omega
   have e0 := (hcs st.length (x1, d) (by simp) 0 _ rfl).1
   have e1 := (hcs st.length (x1, d) (by simp) 1 _ rfl).1
   have e2 := (hcs st.length (x1, d) (by simp) 2 _ rfl).1
   have e3 := (hcs st.length (x1, d) (by simp) 3 _ rfl).1
   have e4 := (hcs st.length (x1, d) (by simp) 4 _ rfl).1
   simp only [Nat.add_zero] at e0
   have hrow := hR.row
   rw [List.length_append, List.length_cons, List.length_nil] at hrow hcap ⊢
   have hfront := Row.front encAb_len hrow
   have hwr : w.heap.size ≤ wr.heap.size := hR.fr.size
   have hF1 : Below w.heap.size w (wr.alloc (.cells (encAb (x1, d)).toArray 320)) := hR.fr.alloc hwr _
   have hbx : (wr.alloc (.cells (encAb (x1, d)).toArray 320)).heap[wr.heap.size]? = some (.cells (encAb (x1, d)).toArray 320 (0, 0)) := heap_alloc_new wr _
   have hR1 := hfront.alloc (.cells (encAb (x1, d)).toArray 320)
   obtain ⟨w2, hw2⟩ : ∃ w2, w2 = wr.alloc (.cells (encAb (x1, d)).toArray 320) := ⟨_, rfl⟩
   obtain ⟨bx, hbxe⟩ : ∃ bx, bx = wr.heap.size := ⟨_, rfl⟩
   rw [← hw2] at hF1 hbx hR1
   rw [← hbxe] at hbx
   have hrl : st.length < st.length + 1 := Nat.lt_succ_self _
   have HT1 := Lib.hid ht1
   have HARG := Lib.hid targ
   have HS1 := Lib.hid hs1
   have HF1 := Lib.hid hF1
   have HBX := Lib.hid hbx
   have HR1 := Lib.hid hR1
   have HTL := Lib.hid tl
   have hcN : (st.length : Int) + 1 ≤ (cap : Int) := by omega
   have hg9 : g < bx := by omega
   have hs9 : st.length ≤ cap := by omega
   clear hR ht1 tk tn ts tl targ hcs hs1 hrow hfront hF1 hbx hR1 hna hd1
   go_wp2_with fail
   change Calls _ _ _ (wr.alloc (.cells (encAb (x1, d)).toArray 320)) _
   rw [← hw2, ← hbxe]
   refine (takeQ_any w2 b x1 d hnk).mono ?_
   rintro e w3 ⟨rfl, hf3⟩
   have hbx2 := (Array.getElem?_eq_some_iff.1 HBX.out).1
   have hb3 : w3.heap[bx]? = some (.cells (encAb (x1, d)).toArray 320 (0, 0)) := (hf3.block bx hbx2).trans HBX.out
   have hI3 : WalkQ w B st pd (.slice (some ⟨g, 0, none⟩) st.length cap) w3 :=
    ⟨HR1.out.later hf3, HS1.out, HF1.out.trans (hf3.mono HF1.out.size)⟩
   have HI3 := Lib.hid hI3
   have HB3 := Lib.hid hb3
   have d3 : w3.cell? ⟨bx, 3, none⟩ = some (.slice x1.A x1.len x1.cap) := by rw [cell_of_row w3 bx 3 _ _ (0, 0) hb3]; rfl
   clear hf3 hb3 hI3 HR1 HF1 hw2 hbxe e0 e1 e2 e3 e4 hg1 hwr hbx2 HBX
   go_wp2_with fail
   go_loopw [4, 6] (fun v i u => ∃ a st', a ≤ x1.len ∧ i = .int .i64 ((a : Int) - 1) ∧ Hid (WalkQ w B st' (pdArgs (d + 1) (t1.args.drop a) ++ pd) v u ∧ u.heap[bx]? = some (.cells (encAb (x1, d)).toArray 320 (0, 0)) ∧ v.ownBlock ≠ some bx)) (fun _ i _ => (intOf i + 1).toNat)
   case atStart =>
    refine ⟨x1.len, st, Nat.le_refl _, rfl, Lib.hid ⟨?_, HB3.out, ?_⟩⟩
    ·have e9 : t1.args.drop x1.len = [] := by rw [← HTL.out, List.drop_length]
     rw [e9]
     exact HI3.out
    ·simp [Value.ownBlock]; omega
   case round =>
    obtain ⟨a, st', ha, rfl, HR⟩ := hrel
    clear d3
    have d3 : wr.cell? ⟨bx, 3, none⟩ = some (.slice x1.A x1.len x1.cap) := by rw [cell_of_row wr bx 3 _ _ (0, 0) HR.out.2.1]; rfl
    have d4 : wr.cell? ⟨bx, 4, none⟩ = some (.int .i64 d) := by rw [cell_of_row wr bx 4 _ _ (0, 0) HR.out.2.1]; rfl
    obtain _ | a := a
    ·have HF : Hid (WalkQ w B st' (pdArgs (d + 1) t1.args ++ pd) _ wr) := Lib.hid HR.out.1
     go_wp2_with fail
     have hh := HH.out
     go_roundg (pdSize (pdArgs (d + 1) t1.args ++ pd))
     case measure =>
      rw [pdSize_args, ← hh.1]
      show Tm.sizes t1.args + pdSize pd < t1.size + pdSize pd
      rw [size_args t1]
      omega
     case rel =>
      refine ⟨_, _, HF.out, Lib.hid ⟨rfl, ?_, ?_⟩⟩
      ·rw [pdSize_args]
       have h1 := size_args t1
       omega
      ·intro p hp
       rcases List.mem_append.1 hp with hp | hp
       ·obtain ⟨t', ht', rfl⟩ := List.mem_map.1 hp
        have h1 := mem_sizes t1.args t' ht'
        have h2 := size_args t1
        exact ⟨HNA.out t' ht', by simp only; omega⟩
       ·exact hh.2.2 p (List.mem_cons_of_mem _ hp)
    ·have hla : a < t1.args.length := by rw [HTL.out]; omega
     obtain ⟨y, b9, off9, hA9, hb9', ht9, hc9⟩ := HARG.out a _ (List.getElem?_eq_getElem hla)
     have hdrop : t1.args.drop a = t1.args[a] :: t1.args.drop (a + 1) := List.drop_eq_getElem_cons hla
     generalize t1.args[a] = ty at ht9 hdrop
     have hbw := HR.out.1.fr
     have hc9' : ∀ j u, (encTV y)[j]? = some u → wr.cell? ⟨b9, off9 + a * 4 + j, none⟩ = some u := fun j u hu =>
      (hbw.cell (p := ⟨b9, off9 + a * 4 + j, none⟩) (by simp only; omega)).trans (hc9 j u hu)
     have f0 := hc9' 0 _ rfl
     have f1 := hc9' 1 _ rfl
     have f2 := hc9' 2 _ rfl
     have f3 := hc9' 3 _ rfl
     simp only [Nat.add_zero] at f0
     have hlen := HR.out.1.stk.len
     have hst9 : st'.length ≤ 100000000 := by
      have h1 := pdSize_len (pdArgs (d + 1) (t1.args.drop (a + 1)) ++ pd)
      rw [pdSize_args] at h1
      have h2 := sizes_drop (a + 1) t1.args
      have h3 := size_args t1
      have h4 := HH.out.2.1
      have h5 : pdSize ((t1, d) :: pd) = t1.size + pdSize pd := rfl
      omega
     have hwr9 := hbw.size
     have hblk := heap_alloc_new wr (.cells (encAb (y, d + 1)).toArray 320)
     obtain ⟨g9, cap9, w9, hr9, hR9, hg9', ho9⟩ := Row.push (P := Tryz.prog) 321 Tryz.underlying321 hi hz hsi hby hzs (by decide) encAb_len encAb_one
      (w := (wr.alloc (.cells (encAb (y, d + 1)).toArray 320)).drew) (HR.out.1.row.later (((Below.refl _ _).alloc (Nat.le_refl _) _).drew)) (y, d + 1) wr.heap.size 1
      (fun j u hu => cell_made wr _ _ j u (by simpa using hu)) (by unfold maxLen; omega) (by omega) (by simp; omega)
     obtain ⟨v9, hv9⟩ : ∃ v9, v9 = Value.slice (some ⟨g9, 0, none⟩) (st'.length + 1) cap9 := ⟨_, rfl⟩
     rw [← hv9] at hr9 hR9
     have hr9 : (Builtin.append_ #[321, 321] 321 #[_, .slice (some ⟨wr.heap.size, 0, none⟩) 1 1]).run Tryz.prog (wr.alloc (.cells #[.int .i64 y.k, .int .i64 y.n, .string ⟨y.s.toArray⟩, .slice y.A y.len y.cap, .int .i64 ((d : Int) + 1)] 320)).drew = .ok v9 w9 := hr9
     have hbx3 := (Array.getElem?_eq_some_iff.1 HR.out.2.1).1
     have hI9 : WalkQ w B (st' ++ [(y, d + 1)]) (pdArgs (d + 1) (t1.args.drop a) ++ pd) v9 w9 := by
      refine ⟨hR9, ?_, ?_⟩
      ·rw [hdrop]
       exact .snoc _ _ y ty (d + 1) HR.out.1.stk ht9
      ·exact ((Fr.of_below (fun k => w.heap.size ≤ k) (HR.out.1.fr.alloc hwr9 _).drew).grown hg9' (fun k e => .inl (HR.out.1.row.lt k e).1)).below (Nat.le_refl _) (fun k hk => by omega)
     have hbx9 : w9.heap[bx]? = some (.cells (encAb (x1, d)).toArray 320 (0, 0)) := by
      rw [hg9'.block bx (by simp; omega) (fun e => HR.out.2.2 e.symm)]
      exact (Below.heap_alloc _ _ _ hbx3).trans HR.out.2.1
     have hob9 : v9.ownBlock ≠ some bx := by
      rw [hv9]
      intro e
      have e' : g9 = bx := by simpa [Value.ownBlock] using e
      rcases ho9 with h | h
      ·exact HR.out.2.2 (by rw [h, e'])
      ·simp at h
       omega
     have HX9 := Lib.hid (And.intro hI9 (And.intro hbx9 hob9))
     have hd9 : (d : Int) + 1 ≤ 200000000 := by omega
     have hwd : IntKind.i64.wrap ((d : Int) + 1) = (d : Int) + 1 := IntWalk.i64_in _ (by omega)
     have ha9 : (a : Int) < (x1.len : Int) := by omega
     have hl9 : wr.heap.size ≠ bx := by omega
     have hbl9 : bx < wr.heap.size := hbx3
     have hb99 : b9 < wr.heap.size := by omega
     rw [show (((a + 1 : Nat) : Int) - 1) = (a : Int) by omega]
     clear hI9 hbx9 hob9 hg9' ho9 hblk hR9 hv9 hc9 hc9' hdrop ht9 hbw hlen
     obtain ⟨xk, xn, xs, xA, xl, xc⟩ := x1
     simp only at hA9 d3 d4 ha9 ha
     subst hA9
     go_wp2_with fail
     go_region_law (first | (refine step_run rfl (.tmp 39) (.tmp 50) 321 rfl (by rfl) (by rfl) hr9 ?_))
     all_goals
      go_wp2_with fail
      go_roundw
      case rel => exact ⟨a, _, by omega, rfl, HX9⟩
      case measure => simp [intOf]
set_option maxHeartbeats 2000000 in
theorem vars_none (w : World) (x : TV) (t : Tm) (hx : TermAt w w.heap.size x t) (hnv : t.noVar = true) (hsz : t.size ≤ 10000000) :
    Calls Tryz.prog 129 #[tvV x] w fun e w' => e = .returned (.slice none 0 0) ∧ Below w.heap.size w w' := by
 have hmm := @run_makeMap Tryz.prog
 have HX := Lib.hid hx
 have HNV := Lib.hid hnv
 clear hx hnv
 rw [tvV_lit]
 go_enter Tryz.func129, Tryz.ntmps129
 go_wp2_with fail
 generalize hW : World.alloc (World.alloc (World.alloc w _) _) _ = W
 have hbW : Below w.heap.size w W := by rw [← hW]; exact (((Below.refl _ w).alloc (Nat.le_refl _) _).alloc (by simp) _).alloc (by simp; omega) _
 have hcW : W.cell? ⟨w.heap.size + 1 + 1, 0, none⟩ = some (.slice none 0 0) := by
  clear hbW
  subst hW
  go_simp
 have hsW : W.heap.size = w.heap.size + 3 := by rw [← hW]; simp
 refine (walkQ_any W (w.heap.size + 1 + 1) W.heap.size x t (HX.out.later hbW) (Nat.le_refl _) HNV.out (by omega)).mono ?_
 rintro e w2 ⟨rfl, hb2⟩
 have hc2 := (hb2.cell (p := ⟨w.heap.size + 1 + 1, 0, none⟩) (by simp only; omega)).trans hcW
 have HB := Lib.hid (hbW.trans (hb2.mono hbW.size))
 clear hW hbW hcW hb2 hmm hsW
 go_wp2_with fail
 go_ret
 exact ⟨rfl, HB.out⟩
def leafTV (k n : Int) (s : List UInt8) : TV := ⟨k, n, s, none, 0, 0⟩
theorem four_cells {w1 : World} {b : Nat} {a0 a1 a2 a3 : Value} {t : TypeId} (h : w1.heap[b]? = some (.cells #[a0, a1, a2, a3] t (0, 0))) :
    w1.cell? ⟨b, 0, none⟩ = some a0 ∧ w1.cell? ⟨b, 1, none⟩ = some a1 ∧ w1.cell? ⟨b, 2, none⟩ = some a2 ∧ w1.cell? ⟨b, 3, none⟩ = some a3 ∧ (∀ o, w1.frozen? ⟨b, o, none⟩ = false) :=
 ⟨by rw [cell_of_row w1 b 0 _ t (0, 0) h]; rfl, by rw [cell_of_row w1 b 1 _ t (0, 0) h]; rfl, by rw [cell_of_row w1 b 2 _ t (0, 0) h]; rfl, by rw [cell_of_row w1 b 3 _ t (0, 0) h]; rfl, fun o => by simp [World.frozen?, h]⟩
set_option maxHeartbeats 4000000 in
theorem made_leaf (w : World) (k n : Int) (s : List UInt8) (A : Option Addr) (c : Nat) (f : Value) (hk : k ≠ 1) :
    Calls Tryz.prog 131 #[tvV ⟨k, n, s, A, 0, c⟩, f] w fun e w' => e = .returned (tvV (leafTV k n s)) ∧ Below w.heap.size w w' := by
 unfold leafTV
 rw [tvV_lit, tvV_lit]
 simp only
 have hkb : (k == 1) = false := by simpa using hk
 clear hk
 go_enter Tryz.func131, Tryz.ntmps131
 go_wp2_with fail
 refine bodyPost_ret (v := .agg #[.int .i64 k, .int .i64 n, .string ⟨s.toArray⟩, .slice none 0 0]) (by simp [results, Tryz.results131, go_sem]) rfl ⟨rfl, ?_⟩
 exact ((Below.refl _ _).alloc (Nat.le_refl _) _).alloc (by simp) _
theorem make_one (u : World) : (Instr.makeSlice 25 (.int .i64 1) (.int .i64 1)).run Tryz.prog u = .ok (.slice (some ⟨u.heap.size, 0, none⟩) 1 1) (u.alloc (.cells #[.int .i64 0, .int .i64 0, .string ⟨#[]⟩, .slice none 0 0] 27)) := by
 kernel_rfl
set_option maxHeartbeats 4000000 in
theorem made_one (w : World) (k n : Int) (s : List UInt8) (b off c : Nat) (k2 n2 : Int) (s2 : List UInt8) (A2 : Option Addr) (c2 : Nat) (F : FuncId) (rc cs : Array Value) (hk : k ≠ 1) (hk2 : k2 ≠ 1)
    (e0 : w.cell? ⟨b, off, none⟩ = some (.int .i64 k2)) (e1 : w.cell? ⟨b, off + 1, none⟩ = some (.int .i64 n2)) (e2 : w.cell? ⟨b, off + 2, none⟩ = some (.string ⟨s2.toArray⟩)) (e3 : w.cell? ⟨b, off + 3, none⟩ = some (.slice A2 0 c2)) :
    Calls Tryz.prog 131 #[tvV ⟨k, n, s, some ⟨b, off, none⟩, 1, c⟩, .func (.func F) rc cs] w fun e w' => ∃ g, e = .returned (tvV ⟨k, n, s, some ⟨g, 0, none⟩, 1, 1⟩) ∧ w.heap.size ≤ g ∧
     w'.heap[g]? = some (.cells (encTV (leafTV k2 n2 s2)).toArray 27 (0, 0)) ∧ Below w.heap.size w w' := by
 rw [tvV_lit]
 simp only
 have hkb : (k == 1) = false := by simpa using hk
 have hbl := World.block_lt_of_cell? w _ e0
 simp only at hbl
 have HC : Hid (∀ W : World, Calls Tryz.prog 131 #[tvV ⟨k2, n2, s2, A2, 0, c2⟩, .func (.func F) rc cs] W fun e w' => e = .returned (tvV (leafTV k2 n2 s2)) ∧ Below W.heap.size W w') := Lib.hid fun W => made_leaf W k2 n2 s2 A2 c2 _ hk2
 have hmk := make_one
 clear hk hk2
 go_enter Tryz.func131, Tryz.ntmps131
 go_wp2_with fail
 clear hmk
 generalize hW0 : World.alloc (World.alloc (World.alloc w _) _) _ = W0
 have hb0 : Below w.heap.size w W0 := by rw [← hW0]; exact (((Below.refl _ w).alloc (Nat.le_refl _) _).alloc (by simp) _).alloc (by simp; omega) _
 have hs0 : W0.heap.size = w.heap.size + 3 := by rw [← hW0]; simp
 have hx0 : W0.heap[w.heap.size]? = some (.cells #[.int .i64 k, .int .i64 n, .string ⟨s.toArray⟩, .slice (some ⟨b, off, none⟩) 1 c] 27 (0, 0)) := by
  rw [← hW0, Below.heap_alloc _ _ _ (by simp; omega), Below.heap_alloc _ _ _ (by simp)]
  exact heap_alloc_new w _
 have hx1 : W0.heap[w.heap.size + 1]? = some (.cells #[.int .i64 0, .int .i64 0, .string ⟨#[]⟩, .slice none 0 0] 27 (0, 0)) := by
  rw [← hW0, Below.heap_alloc _ _ _ (by simp)]
  have := heap_alloc_new (w.alloc (.cells #[.int .i64 k, .int .i64 n, .string ⟨s.toArray⟩, .slice (some ⟨b, off, none⟩) 1 c] 27)) (.cells #[.int .i64 0, .int .i64 0, .string ⟨#[]⟩, .slice none 0 0] 27)
  simpa using this
 have hx2 : W0.heap[w.heap.size + 1 + 1]? = some (.cells #[.int .i64 0, .int .i64 0, .string ⟨#[]⟩, .slice none 0 0] 27 (0, 0)) := by
  rw [← hW0]
  have := heap_alloc_new ((w.alloc (.cells #[.int .i64 k, .int .i64 n, .string ⟨s.toArray⟩, .slice (some ⟨b, off, none⟩) 1 c] 27)).alloc (.cells #[.int .i64 0, .int .i64 0, .string ⟨#[]⟩, .slice none 0 0] 27)) (.cells #[.int .i64 0, .int .i64 0, .string ⟨#[]⟩, .slice none 0 0] 27)
  simpa using this
 have HB0 := Lib.hid hb0
 have HX0 := Lib.hid hx0
 have HX1 := Lib.hid hx1
 have HX2 := Lib.hid hx2
 clear hW0 hb0 hx0 hx1 hx2
 go_loopw [29] (fun i u => (i = .int .i64 0 ∧ u = W0) ∨ (i = .int .i64 1 ∧ Hid (Fr (fun k => k = w.heap.size + 1 + 1) W0 u ∧ u.heap[w.heap.size + 1 + 1]? = some (.cells (encTV (leafTV k2 n2 s2)).toArray 27 (0, 0))))) (fun i _ => 1 - (intOf i).toNat)
 case atStart => exact .inl ⟨rfl, rfl⟩
 case round =>
  rcases hrel with ⟨rfl, rfl⟩ | ⟨rfl, HD⟩
  ·rw [← HB0.out.cell (p := ⟨b, off, none⟩) hbl] at e0
   rw [← HB0.out.cell (p := ⟨b, off + 1, none⟩) hbl] at e1
   rw [← HB0.out.cell (p := ⟨b, off + 2, none⟩) hbl] at e2
   rw [← HB0.out.cell (p := ⟨b, off + 3, none⟩) hbl] at e3
   go_wp2_with fail
   refine (HC.out _).mono ?_
   rintro e w4 ⟨rfl, hb4⟩
   have hF4 : Fr (fun k => k = w.heap.size + 1 + 1) wr w4 := ((Fr.refl _ wr).alloc _).step hb4
   have hz4 := (hF4.size)
   have hx4 : w4.heap[w.heap.size + 1 + 1]? = some (.cells #[.int .i64 0, .int .i64 0, .string ⟨#[]⟩, .slice none 0 0] 27 (0, 0)) := by
    rw [hb4.block _ (by simp; omega), Below.heap_alloc _ _ _ (by omega)]
    exact HX2.out
   obtain ⟨d0, d1, d2, d3, df⟩ := four_cells hx4
   have HF4 := Lib.hid hF4
   have HX4 := Lib.hid hx4
   clear hb4 hF4 hx4 e0 e1 e2 e3
   unfold leafTV at *
   rw [tvV_lit]
   simp only
   go_wp2_with fail
   go_roundw
   case rel =>
    refine .inr ⟨rfl, Lib.hid ⟨?_, ?_⟩⟩
    ·exact (((HF4.out.setCell (p := ⟨w.heap.size + 1 + 1, 0, none⟩) (.inl rfl) _).setCell (p := ⟨w.heap.size + 1 + 1, 1, none⟩) (.inl rfl) _).setCell (p := ⟨w.heap.size + 1 + 1, 2, none⟩) (.inl rfl) _).setCell (p := ⟨w.heap.size + 1 + 1, 3, none⟩) (.inl rfl) _
    ·exact blk_put (blk_put (blk_put (blk_put HX4.out _) _) _) _
   case measure => simp [intOf]
  ·obtain ⟨hF, hG⟩ := HD.out
   have hx0 := (hF.block w.heap.size (by omega) (by omega)).trans HX0.out
   have hx1 := (hF.block (w.heap.size + 1) (by omega) (by omega)).trans HX1.out
   obtain ⟨c0, c1, c2, c3, cf⟩ := four_cells hx0
   obtain ⟨d0, d1, d2, d3, df⟩ := four_cells hx1
   clear hF hG hx0 hx1 e0 e1 e2 e3
   go_wp2_with fail
   refine bodyPost_ret (v := .agg #[.int .i64 k, .int .i64 n, .string ⟨s.toArray⟩, .slice (some ⟨w.heap.size + 1 + 1, 0, none⟩) 1 1]) (by simp [results, Tryz.results131, go_sem, d0, d1, d2, d3]) rfl ⟨w.heap.size + 1 + 1, rfl, by omega, ?_, ?_⟩
   ·repeat (rw [Deep.blk_setCell_other _ _ _ _ (by first | omega | (simp only; omega))])
    exact HD.out.2
   ·repeat (refine Below.setCell ?_ (by simp only; omega) _)
    exact HB0.out.trans (HD.out.1.below (by omega) (fun k hk => by omega))
set_option maxHeartbeats 2000000 in
theorem own_leaf (w : World) (k n : Int) (s : List UInt8) (A : Option Addr) (c : Nat) (hk : k ≠ 1) :
    Calls Tryz.prog 329 #[tvV ⟨k, n, s, A, 0, c⟩] w fun e w' => e = .returned (tvV (leafTV k n s)) ∧ Below w.heap.size w w' := by
 have HC : Hid (∀ (W : World) (f : Value), Calls Tryz.prog 131 #[tvV ⟨k, n, s, A, 0, c⟩, f] W fun e w' => e = .returned (tvV (leafTV k n s)) ∧ Below W.heap.size W w') := Lib.hid fun W f => made_leaf W k n s A c f hk
 clear hk
 unfold leafTV at *
 rw [tvV_lit, tvV_lit] at *
 simp only at *
 go_enter Tryz.func329, Tryz.ntmps329
 go_wp2_with fail
 refine (HC.out _ _).mono ?_
 rintro e w2 ⟨rfl, hb2⟩
 have hx1 : w2.heap[w.heap.size + 1]? = some (.cells #[.int .i64 0, .int .i64 0, .string ⟨#[]⟩, .slice none 0 0] 27 (0, 0)) := by
  rw [hb2.block _ (by simp)]
  have := heap_alloc_new (w.alloc (.cells #[.int .i64 k, .int .i64 n, .string ⟨s.toArray⟩, .slice A 0 c] 27)) (.cells #[.int .i64 0, .int .i64 0, .string ⟨#[]⟩, .slice none 0 0] 27)
  simpa using this
 obtain ⟨d0, d1, d2, d3, df⟩ := four_cells hx1
 have HB := Lib.hid ((((Below.refl w.heap.size w).alloc (Nat.le_refl _) _).alloc (by simp) _).trans (hb2.mono (by simp; omega)))
 clear hb2 hx1
 go_wp2_with fail
 refine bodyPost_ret (v := .agg #[.int .i64 k, .int .i64 n, .string ⟨s.toArray⟩, .slice none 0 0]) (by simp [results, Tryz.results329, go_sem, d0, d1, d2, d3]) rfl ⟨rfl, ?_⟩
 repeat (refine Below.setCell ?_ (by simp only; omega) _)
 exact HB.out
set_option maxHeartbeats 2000000 in
theorem own_one (w : World) (k n : Int) (s : List UInt8) (b off c : Nat) (k2 n2 : Int) (s2 : List UInt8) (A2 : Option Addr) (c2 : Nat) (hk : k ≠ 1) (hk2 : k2 ≠ 1)
    (e0 : w.cell? ⟨b, off, none⟩ = some (.int .i64 k2)) (e1 : w.cell? ⟨b, off + 1, none⟩ = some (.int .i64 n2)) (e2 : w.cell? ⟨b, off + 2, none⟩ = some (.string ⟨s2.toArray⟩)) (e3 : w.cell? ⟨b, off + 3, none⟩ = some (.slice A2 0 c2)) :
    Calls Tryz.prog 329 #[tvV ⟨k, n, s, some ⟨b, off, none⟩, 1, c⟩] w fun e w' => ∃ g, e = .returned (tvV ⟨k, n, s, some ⟨g, 0, none⟩, 1, 1⟩) ∧ w.heap.size ≤ g ∧
     w'.heap[g]? = some (.cells (encTV (leafTV k2 n2 s2)).toArray 27 (0, 0)) ∧ Below w.heap.size w w' := by
 have hbl := World.block_lt_of_cell? w _ e0
 simp only at hbl
 have hw : Below w.heap.size w ((w.alloc (.cells #[.int .i64 k, .int .i64 n, .string ⟨s.toArray⟩, .slice (some ⟨b, off, none⟩) 1 c] 27)).alloc (.cells #[.int .i64 0, .int .i64 0, .string ⟨#[]⟩, .slice none 0 0] 27)) := ((Below.refl w.heap.size w).alloc (Nat.le_refl _) _).alloc (by simp) _
 have HC := Lib.hid (made_one _ k n s b off c k2 n2 s2 A2 c2 359 #[] #[] hk hk2 ((hw.cell (p := ⟨b, off, none⟩) hbl).trans e0) ((hw.cell (p := ⟨b, off + 1, none⟩) hbl).trans e1) ((hw.cell (p := ⟨b, off + 2, none⟩) hbl).trans e2) ((hw.cell (p := ⟨b, off + 3, none⟩) hbl).trans e3))
 have HW := Lib.hid hw
 clear hk hk2 e0 e1 e2 e3 hw
 rw [tvV_lit] at *
 simp only at *
 go_enter Tryz.func329, Tryz.ntmps329
 go_wp2_with fail
 refine HC.out.mono ?_
 rintro e w2 ⟨g, rfl, hg, hgc, hb2⟩
 have hx1 : w2.heap[w.heap.size + 1]? = some (.cells #[.int .i64 0, .int .i64 0, .string ⟨#[]⟩, .slice none 0 0] 27 (0, 0)) := by
  rw [hb2.block _ (by simp)]
  have := heap_alloc_new (w.alloc (.cells #[.int .i64 k, .int .i64 n, .string ⟨s.toArray⟩, .slice (some ⟨b, off, none⟩) 1 c] 27)) (.cells #[.int .i64 0, .int .i64 0, .string ⟨#[]⟩, .slice none 0 0] 27)
  simpa using this
 obtain ⟨d0, d1, d2, d3, df⟩ := four_cells hx1
 have HB := Lib.hid (HW.out.trans (hb2.mono (by simp; omega)))
 have HG := Lib.hid hgc
 have hg9 : w.heap.size + 2 ≤ g := by simpa using hg
 clear hb2 hx1 hgc hg
 rw [tvV_lit]
 simp only
 go_wp2_with fail
 refine bodyPost_ret (v := .agg #[.int .i64 k, .int .i64 n, .string ⟨s.toArray⟩, .slice (some ⟨g, 0, none⟩) 1 1]) (by simp [results, Tryz.results329, go_sem, d0, d1, d2, d3]) rfl ⟨g, rfl, by omega, ?_, ?_⟩
 ·repeat (rw [Deep.blk_setCell_other _ _ _ _ (by first | omega | (simp only; omega))])
  exact HG.out
 ·repeat (refine Below.setCell ?_ (by simp only; omega) _)
  exact HB.out
structure SrcAt (w : World) (x : TV) (arg : Option (Int × Int × List UInt8)) : Prop where
 nvar : x.k ≠ 1
 str : x.s.length ≤ maxLen
 rest : match arg with
  | none => x.len = 0
  | some a => x.len = 1 ∧ a.1 ≠ 1 ∧ a.2.2.length ≤ maxLen ∧ ∃ b off A2 c2, x.A = some ⟨b, off, none⟩ ∧ b < w.heap.size ∧ ∀ j u, (encTV ⟨a.1, a.2.1, a.2.2, A2, 0, c2⟩)[j]? = some u → w.cell? ⟨b, off + j, none⟩ = some u
theorem SrcAt.later {w w' : World} {x : TV} {arg : Option (Int × Int × List UInt8)} (h : SrcAt w x arg) (hb : Below w.heap.size w w') : SrcAt w' x arg := by
 refine ⟨h.nvar, h.str, ?_⟩
 have hr := h.rest
 cases arg with
 | none => exact hr
 | some a =>
  obtain ⟨h1, h2, h3, b, off, A2, c2, h4, h5, h6⟩ := hr
  exact ⟨h1, h2, h3, b, off, A2, c2, h4, Nat.lt_of_lt_of_le h5 hb.size, fun j u hu => (hb.cell (p := ⟨b, off + j, none⟩) h5).trans (h6 j u hu)⟩
def tmOf (x : TV) (arg : Option (Int × Int × List UInt8)) : Tm := .mk x.k x.n x.s (match arg with | none => [] | some a => [.mk a.1 a.2.1 a.2.2 []])
theorem SrcAt.tm {w : World} {x : TV} {arg : Option (Int × Int × List UInt8)} (h : SrcAt w x arg) : TermAt w w.heap.size x (tmOf x arg) := by
 have hr := h.rest
 cases arg with
 | none =>
  obtain ⟨k, n, s, A, l, c⟩ := x
  simp only at hr
  subst hr
  exact TermAt.leaf w _ k n s A c h.str
 | some a =>
  obtain ⟨h1, h2, h3, b, off, A2, c2, h4, h5, h6⟩ := hr
  refine .mk x _ [⟨a.1, a.2.1, a.2.2, A2, 0, c2⟩] (by rw [h1]; rfl) (by rw [h1]; rfl) h.str (fun i y hy => ?_) (fun i y t hy ht => ?_)
  ·obtain ⟨rfl, rfl⟩ : i = 0 ∧ y = ⟨a.1, a.2.1, a.2.2, A2, 0, c2⟩ := by
    rcases Nat.eq_zero_or_pos i with rfl | h0
    ·simp at hy; exact ⟨rfl, hy.symm⟩
    ·rw [List.getElem?_eq_none (by simp; omega)] at hy; cases hy
   exact ⟨b, off, h4, h5, fun j u hu => by rw [Nat.zero_mul, Nat.add_zero]; exact h6 j u hu⟩
  ·rcases Nat.eq_zero_or_pos i with rfl | h0
   ·simp at hy ht
    subst hy ht
    exact TermAt.leaf w _ _ _ _ _ _ h3
   ·rw [List.getElem?_eq_none (by simp; omega)] at hy; cases hy
theorem SrcAt.noVar {w : World} {x : TV} {arg : Option (Int × Int × List UInt8)} (h : SrcAt w x arg) : (tmOf x arg).noVar = true ∧ (tmOf x arg).size ≤ 2 ∧ (tmOf x arg).deep ≤ 2 := by
 have hr := h.rest
 have h1 := h.nvar
 cases arg with
 | none => simp [tmOf, Tm.noVar, Tm.noVars, Tm.size, Tm.sizes, Tm.deep, Tm.deeps, h1]
 | some a => simp [tmOf, Tm.noVar, Tm.noVars, Tm.size, Tm.sizes, Tm.deep, Tm.deeps, h1, hr.2.1]
def CopyAt (B : Nat) (w : World) (x x' : TV) (arg : Option (Int × Int × List UInt8)) : Prop :=
 match arg with
 | none => x' = leafTV x.k x.n x.s
 | some a => ∃ g, x' = ⟨x.k, x.n, x.s, some ⟨g, 0, none⟩, 1, 1⟩ ∧ B ≤ g ∧ w.heap[g]? = some (.cells (encTV (leafTV a.1 a.2.1 a.2.2)).toArray 27 (0, 0))
theorem CopyAt.keep {B B' : Nat} {w w' : World} {x x' : TV} {arg : Option (Int × Int × List UInt8)} (h : CopyAt B w x x' arg) (hB : B' ≤ B) (hb : ∀ k cs, w.heap[k]? = some (.cells cs 27 (0, 0)) → B ≤ k → w'.heap[k]? = w.heap[k]?) : CopyAt B' w' x x' arg := by
 cases arg with
 | none => exact h
 | some a =>
  obtain ⟨g, h1, h2, h3⟩ := h
  exact ⟨g, h1, by omega, (hb g _ h3 h2).trans h3⟩
theorem CopyAt.later {B B' : Nat} {w w' : World} {x x' : TV} {arg : Option (Int × Int × List UInt8)} (h : CopyAt B w x x' arg) (hB : B' ≤ B) (hb : Below w.heap.size w w') : CopyAt B' w' x x' arg :=
 h.keep hB fun k _ hk _ => hb.block k (Array.getElem?_eq_some_iff.1 hk).1
theorem made_src (w : World) (x : TV) (arg : Option (Int × Int × List UInt8)) (h : SrcAt w x arg) (F : FuncId) (rc cs : Array Value) :
    Calls Tryz.prog 131 #[tvV x, .func (.func F) rc cs] w fun e w' => ∃ x', e = .returned (tvV x') ∧ CopyAt w.heap.size w' x x' arg ∧ Below w.heap.size w w' := by
 have hr := h.rest
 have hk := h.nvar
 obtain ⟨k, n, s, A, l, c⟩ := x
 cases arg with
 | none =>
  simp only at hr hk
  subst hr
  refine (made_leaf w k n s A c _ hk).mono ?_
  rintro e w' ⟨rfl, hb⟩
  exact ⟨_, rfl, rfl, hb⟩
 | some a =>
  obtain ⟨h1, h2, _, b, off, A2, c2, h4, _, h6⟩ := hr
  simp only at h1 h4 hk
  subst h1 h4
  refine (made_one w k n s b off c a.1 a.2.1 a.2.2 A2 c2 F rc cs hk h2 (h6 0 _ rfl) (h6 1 _ rfl) (h6 2 _ rfl) (h6 3 _ rfl)).mono ?_
  rintro e w' ⟨g, rfl, hg, hc, hb⟩
  exact ⟨_, rfl, ⟨g, rfl, hg, hc⟩, hb⟩
theorem own_src (w : World) (x : TV) (arg : Option (Int × Int × List UInt8)) (h : SrcAt w x arg) :
    Calls Tryz.prog 329 #[tvV x] w fun e w' => ∃ x', e = .returned (tvV x') ∧ CopyAt w.heap.size w' x x' arg ∧ Below w.heap.size w w' := by
 have hr := h.rest
 have hk := h.nvar
 obtain ⟨k, n, s, A, l, c⟩ := x
 cases arg with
 | none =>
  simp only at hr hk
  subst hr
  refine (own_leaf w k n s A c hk).mono ?_
  rintro e w' ⟨rfl, hb⟩
  exact ⟨_, rfl, rfl, hb⟩
 | some a =>
  obtain ⟨h1, h2, _, b, off, A2, c2, h4, _, h6⟩ := hr
  simp only at h1 h4 hk
  subst h1 h4
  refine (own_one w k n s b off c a.1 a.2.1 a.2.2 A2 c2 hk h2 (h6 0 _ rfl) (h6 1 _ rfl) (h6 2 _ rfl) (h6 3 _ rfl)).mono ?_
  rintro e w' ⟨g, rfl, hg, hc, hb⟩
  exact ⟨_, rfl, ⟨g, rfl, hg, hc⟩, hb⟩
abbrev Flat (bx bz : Nat) (x y : TV) (u : World) : Prop :=
 u.cell? ⟨bx, 0, none⟩ = some (.int .i64 x.k) ∧ u.cell? ⟨bx, 1, none⟩ = some (.int .i64 x.n) ∧ u.cell? ⟨bx, 2, none⟩ = some (.string ⟨x.s.toArray⟩) ∧ u.cell? ⟨bx, 3, none⟩ = some (.slice x.A x.len x.cap) ∧
 u.cell? ⟨bz, 0, none⟩ = some (.int .i64 y.k) ∧ u.cell? ⟨bz, 1, none⟩ = some (.int .i64 y.n) ∧ u.cell? ⟨bz, 2, none⟩ = some (.string ⟨y.s.toArray⟩) ∧ u.cell? ⟨bz, 3, none⟩ = some (.slice y.A y.len y.cap)
theorem flat_of {bx bz : Nat} {x y : TV} {u : World} (h1 : u.heap[bx]? = some (.cells (encTV x).toArray 27 (0, 0))) (h2 : u.heap[bz]? = some (.cells (encTV y).toArray 27 (0, 0))) : Flat bx bz x y u := by
 obtain ⟨a0, a1, a2, a3, _⟩ := four_cells h1
 obtain ⟨b0, b1, b2, b3, _⟩ := four_cells h2
 exact ⟨a0, a1, a2, a3, b0, b1, b2, b3⟩
theorem flat_drew {bx bz : Nat} {x y : TV} {u : World} (h : Flat bx bz x y u) : Flat bx bz x y u.drew := h
theorem flat_later {bx bz : Nat} {x y : TV} {u u' : World} (h : Flat bx bz x y u) (hb : Below u.heap.size u u') : Flat bx bz x y u' := by
 obtain ⟨a0, a1, a2, a3, b0, b1, b2, b3⟩ := h
 have l1 := World.block_lt_of_cell? u _ a0
 have l2 := World.block_lt_of_cell? u _ b0
 exact ⟨(hb.cell (p := ⟨bx, 0, none⟩) l1).trans a0, (hb.cell (p := ⟨bx, 1, none⟩) l1).trans a1, (hb.cell (p := ⟨bx, 2, none⟩) l1).trans a2, (hb.cell (p := ⟨bx, 3, none⟩) l1).trans a3,
  (hb.cell (p := ⟨bz, 0, none⟩) l2).trans b0, (hb.cell (p := ⟨bz, 1, none⟩) l2).trans b1, (hb.cell (p := ⟨bz, 2, none⟩) l2).trans b2, (hb.cell (p := ⟨bz, 3, none⟩) l2).trans b3⟩
theorem flat_put {bx bz k o : Nat} {x y : TV} {u : World} (h : Flat bx bz x y u) (hp : k ≠ bx ∧ k ≠ bz) (v : Value) : Flat bx bz x y (u.setCell ⟨k, o, none⟩ v) := by
 obtain ⟨a0, a1, a2, a3, b0, b1, b2, b3⟩ := h
 have e1 := Deep.blk_setCell_other u ⟨k, o, none⟩ v bx (fun e => hp.1 e.symm)
 have e2 := Deep.blk_setCell_other u ⟨k, o, none⟩ v bz (fun e => hp.2 e.symm)
 exact ⟨(World.cell?_of_block (a := ⟨bx, 0, none⟩) e1).trans a0, (World.cell?_of_block (a := ⟨bx, 1, none⟩) e1).trans a1, (World.cell?_of_block (a := ⟨bx, 2, none⟩) e1).trans a2, (World.cell?_of_block (a := ⟨bx, 3, none⟩) e1).trans a3,
  (World.cell?_of_block (a := ⟨bz, 0, none⟩) e2).trans b0, (World.cell?_of_block (a := ⟨bz, 1, none⟩) e2).trans b1, (World.cell?_of_block (a := ⟨bz, 2, none⟩) e2).trans b2, (World.cell?_of_block (a := ⟨bz, 3, none⟩) e2).trans b3⟩
set_option maxHeartbeats 4000000 in
theorem number_src (w : World) (x y : TV) (ax ay : Option (Int × Int × List UInt8)) (hx : SrcAt w x ax) (hy : SrcAt w y ay) :
    Calls Tryz.prog 66 #[tvV x, tvV y] w fun e w' => ∃ x' y', e = .returned (.tuple #[tvV x', tvV y']) ∧ CopyAt w.heap.size w' x x' ax ∧ CopyAt w.heap.size w' y y' ay ∧ Below w.heap.size w w' := by
 have hmm := @run_makeMap Tryz.prog
 obtain ⟨W0, hW0⟩ : ∃ W0, allocs w [.cells (encTV x).toArray 27, .cells (encTV y).toArray 27, .cells #[.int .i64 0, .int .i64 0, .string ⟨#[]⟩, .slice none 0 0] 27, .cells #[.int .i64 0, .int .i64 0, .string ⟨#[]⟩, .slice none 0 0] 27,
  .map #[] 0, .cells #[.map (some (w.heap.size + 1 + 1 + 1 + 1))] 212] = W0 := ⟨_, rfl⟩
 have hb0 : Below w.heap.size w W0 := by rw [← hW0]; exact allocs_below _ _
 have hs0 : W0.heap.size = w.heap.size + 6 := by rw [← hW0, allocs_size]; rfl
 have h0 : W0.heap[w.heap.size]? = some (.cells (encTV x).toArray 27 (0, 0)) := by rw [← hW0]; exact allocs_at w _ 0 _ rfl
 have h1 : W0.heap[w.heap.size + 1]? = some (.cells (encTV y).toArray 27 (0, 0)) := by rw [← hW0]; exact allocs_at w _ 1 _ rfl
 have h2 : W0.heap[w.heap.size + 1 + 1]? = some (.cells #[.int .i64 0, .int .i64 0, .string ⟨#[]⟩, .slice none 0 0] 27 (0, 0)) := by rw [← hW0]; exact allocs_at w _ 2 _ rfl
 have h3 : W0.heap[w.heap.size + 1 + 1 + 1]? = some (.cells #[.int .i64 0, .int .i64 0, .string ⟨#[]⟩, .slice none 0 0] 27 (0, 0)) := by rw [← hW0]; exact allocs_at w _ 3 _ rfl
 have HF := Lib.hid (flat_of h0 h1)
 have HX := Lib.hid (hx.later hb0)
 have HY := Lib.hid (hy.later hb0)
 have HB0 := Lib.hid hb0
 have H2 := Lib.hid h2
 have H3 := Lib.hid h3
 have HW0 := Lib.hid hW0
 have HVX : Hid (∀ u, SrcAt u x ax → Calls Tryz.prog 129 #[.agg #[.int .i64 x.k, .int .i64 x.n, .string ⟨x.s.toArray⟩, .slice x.A x.len x.cap]] u fun e w' => e = .returned (.slice none 0 0) ∧ Below u.heap.size u w') :=
  Lib.hid fun u h => vars_none u x _ h.tm h.noVar.1 (by have := h.noVar.2.1; omega)
 have HVY : Hid (∀ u, SrcAt u y ay → Calls Tryz.prog 129 #[.agg #[.int .i64 y.k, .int .i64 y.n, .string ⟨y.s.toArray⟩, .slice y.A y.len y.cap]] u fun e w' => e = .returned (.slice none 0 0) ∧ Below u.heap.size u w') :=
  Lib.hid fun u h => vars_none u y _ h.tm h.noVar.1 (by have := h.noVar.2.1; omega)
 have HMX : Hid (∀ (u : World) (F : FuncId) (rc cs : Array Value), SrcAt u x ax → Calls Tryz.prog 131 #[.agg #[.int .i64 x.k, .int .i64 x.n, .string ⟨x.s.toArray⟩, .slice x.A x.len x.cap], .func (.func F) rc cs] u fun e w' => ∃ x', e = .returned (tvV x') ∧ CopyAt u.heap.size w' x x' ax ∧ Below u.heap.size u w') :=
  Lib.hid fun u F rc cs h => made_src u x ax h F rc cs
 have HMY : Hid (∀ (u : World) (F : FuncId) (rc cs : Array Value), SrcAt u y ay → Calls Tryz.prog 131 #[.agg #[.int .i64 y.k, .int .i64 y.n, .string ⟨y.s.toArray⟩, .slice y.A y.len y.cap], .func (.func F) rc cs] u fun e w' => ∃ x', e = .returned (tvV x') ∧ CopyAt u.heap.size w' y x' ay ∧ Below u.heap.size u w') :=
  Lib.hid fun u F rc cs h => made_src u y ay h F rc cs
 have hs6 : w.heap.size + 6 ≤ W0.heap.size := by omega
 clear hx hy hb0 h0 h1 h2 h3 hW0 hs0
 rw [tvV_lit, tvV_lit]
 go_enter Tryz.func66, Tryz.ntmps66
 go_wp2_with fail
 change Code.wp _ _ _ _ (allocs w [.cells (encTV x).toArray 27, .cells (encTV y).toArray 27, .cells #[.int .i64 0, .int .i64 0, .string ⟨#[]⟩, .slice none 0 0] 27, .cells #[.int .i64 0, .int .i64 0, .string ⟨#[]⟩, .slice none 0 0] 27,
  .map #[] 0, .cells #[.map (some (w.heap.size + 1 + 1 + 1 + 1))] 212])
 rw [HW0.out]
 clear hmm HW0
 go_region_held3 (fun u => u.cell? ⟨w.heap.size, 0, none⟩ = some (.int .i64 x.k) ∧ u.cell? ⟨w.heap.size, 1, none⟩ = some (.int .i64 x.n) ∧ u.cell? ⟨w.heap.size, 2, none⟩ = some (.string ⟨x.s.toArray⟩) ∧ u.cell? ⟨w.heap.size, 3, none⟩ = some (.slice x.A x.len x.cap) ∧
 u.cell? ⟨w.heap.size + 1, 0, none⟩ = some (.int .i64 y.k) ∧ u.cell? ⟨w.heap.size + 1, 1, none⟩ = some (.int .i64 y.n) ∧ u.cell? ⟨w.heap.size + 1, 2, none⟩ = some (.string ⟨y.s.toArray⟩) ∧ u.cell? ⟨w.heap.size + 1, 3, none⟩ = some (.slice y.A y.len y.cap))
  (first | (with_reducible exact flat_drew HF.out) | (with_reducible exact HF.out) | (with_reducible exact flat_later (flat_drew HF.out) hb1) | (with_reducible exact flat_later (flat_later (flat_drew HF.out) hb1) hb2))
  (first | (go_at_call 129; with_reducible refine (HVX.out _ (HX.out.later (Below.refl _ _).drew)).mono ?_; rintro e u1 ⟨rfl, hb1⟩) | (go_at_call 129; with_reducible refine (HVY.out u1 ((HY.out.later (Below.refl _ _).drew).later hb1)).mono ?_; rintro e u2 ⟨rfl, hb2⟩))
 have HB2 := Lib.hid (((Below.refl W0.heap.size W0).drew).trans (hb1.trans (hb2.mono hb1.size)))
 obtain ⟨v2, rfl⟩ : ∃ v2 : World, v2 = u2 := ⟨_, rfl⟩
 clear hb1 hb2
 go_wp2_with fail
 go_loopw [19] (fun i u => i = .int .i64 0 ∧ u = v2) (fun _ _ => 0)
 case atStart => exact ⟨rfl, rfl⟩
 case round =>
  obtain ⟨rfl, rfl⟩ := hrel
  have HF2 := Lib.hid (flat_later HF.out HB2.out)
  have HX2 := Lib.hid (HX.out.later HB2.out)
  have HY2 := Lib.hid (HY.out.later HB2.out)
  have H22 := Lib.hid ((HB2.out.block _ (by omega)).trans H2.out)
  have H32 := Lib.hid ((HB2.out.block _ (by omega)).trans H3.out)
  have hz2 := HB2.out.size
  clear HF HX HY HVX HVY H2 H3
  go_wp2_with fail
  go_region_held3 (fun u => u.cell? ⟨w.heap.size, 0, none⟩ = some (.int .i64 x.k) ∧ u.cell? ⟨w.heap.size, 1, none⟩ = some (.int .i64 x.n) ∧ u.cell? ⟨w.heap.size, 2, none⟩ = some (.string ⟨x.s.toArray⟩) ∧ u.cell? ⟨w.heap.size, 3, none⟩ = some (.slice x.A x.len x.cap) ∧
   u.cell? ⟨w.heap.size + 1, 0, none⟩ = some (.int .i64 y.k) ∧ u.cell? ⟨w.heap.size + 1, 1, none⟩ = some (.int .i64 y.n) ∧ u.cell? ⟨w.heap.size + 1, 2, none⟩ = some (.string ⟨y.s.toArray⟩) ∧ u.cell? ⟨w.heap.size + 1, 3, none⟩ = some (.slice y.A y.len y.cap))
   (((repeat (with_reducible refine flat_put ?_ (by omega) _)); first | (with_reducible exact flat_drew HF2.out) | (with_reducible exact HF2.out) | (with_reducible exact flat_later (flat_drew HF2.out) hb3) | (with_reducible exact flat_later (flat_later (flat_drew HF2.out) hb3) hb4) | (with_reducible assumption)))
   (first | (go_at_call 131; with_reducible refine (HMX.out _ _ _ _ (HX2.out.later (Below.refl _ _).drew)).mono ?_; rintro e u3 ⟨x', rfl, hcx, hb3⟩) | (go_at_call 131; with_reducible refine (HMY.out u3 _ _ _ ((HY2.out.later (Below.refl _ _).drew).later hb3)).mono ?_; rintro e u4 ⟨y', rfl, hcy, hb4⟩; obtain ⟨r0, r1, r2, r3, rf⟩ := four_cells ((hb4.block _ (by have := hb3.size; simp at this; omega)).trans ((hb3.block _ (by simp; omega)).trans H22.out)); obtain ⟨s0, s1, s2, s3, sf⟩ := four_cells ((hb4.block _ (by have := hb3.size; simp at this; omega)).trans ((hb3.block _ (by simp; omega)).trans H32.out)); rw [tvV_lit, tvV_lit]))
  all_goals
   have hbz := hb3.size
   have hby := hb4.size
   have hcx4 := hcx.later (Nat.le_refl _) hb4
   have hw2 : w.heap.size ≤ wr.heap.size := by omega
   have hbA : Below w.heap.size w u4 := HB0.out.trans ((HB2.out.trans (((Below.refl wr.heap.size wr).drew.trans (hb3.trans (hb4.mono hb3.size))).mono hz2)).mono HB0.out.size)
   have HCX := Lib.hid hcx4
   have HCY := Lib.hid hcy
   have HBA := Lib.hid hbA
   have hy9 : wr.heap.size ≤ u3.heap.size := by simpa using hbz
   clear hcx hcy hb3 hb4 hcx4 hbA hbz hby
   go_wp2_with fail
   refine bodyPost_ret (v := .tuple #[tvV x', tvV y']) (by simp [results, Tryz.results66, go_sem, r0, r1, r2, r3, s0, s1, s2, s3, tvV]) rfl ⟨x', y', rfl, ?_, ?_, ?_⟩
   ·exact HCX.out.keep (by simpa using hw2) (fun k _ _ hk => by
     have hk' : wr.heap.size ≤ k := by simpa using hk
     repeat (rw [Deep.blk_setCell_other _ _ _ _ (by first | omega | (simp only; omega))]))
   ·exact HCY.out.keep (by omega) (fun k _ _ hk => by
     repeat (rw [Deep.blk_setCell_other _ _ _ _ (by first | omega | (simp only; omega))]))
   ·repeat (refine Below.setCell ?_ (by simp only; omega) _)
    exact HBA.out
end Go.Proofs.YtjdnigepnfeboaaGreatDoor
