/-
  What term.walk makes of a term without variables, handed seen.take: nothing; term.Vars then answers nil. Condition: the term's cells read as a term without variables.
-/
import Derived.Test.YtiaajpfebcccfaaTmW
import Derived.Lib.Hide
namespace Go.Proofs.Ytiaajpfebcccfaa
open Go.RowKit
set_option maxRecDepth 100000

mutual
def Tm.noVar : Tm → Bool | .mk k _ _ l => decide (k ≠ 1) && Tm.noVars l
def Tm.noVars : List Tm → Bool | [] => true | t :: r => t.noVar && Tm.noVars r
end
theorem noVars_mem : ∀ (l : List Tm), Tm.noVars l = true → ∀ t ∈ l, t.noVar = true
  | x :: l, h, t, ht => by
    simp only [Tm.noVars, Bool.and_eq_true] at h
    rcases List.mem_cons.1 ht with rfl | ht
    · exact h.1
    · exact noVars_mem l h.2 t ht
theorem noVar_parts {t : Tm} (h : t.noVar = true) : t.k ≠ 1 ∧ ∀ x ∈ t.args, x.noVar = true := by
  obtain ⟨k, n, s, l⟩ := t
  simp only [Tm.noVar, Bool.and_eq_true, decide_eq_true_eq] at h
  exact ⟨h.1, noVars_mem l h.2⟩

/-- What holds as the walk goes. -/
structure WalkQ (w : World) (B : Nat) (st : List AbT) (pd : List (Tm × Nat)) (v : Value) (u : World) : Prop where
  row : Row u w.heap.size 98 5 encAb v st
  stk : Stk w B st pd
  fr : Below w.heap.size w u

set_option maxHeartbeats 1000000 in
theorem takeQ_any (w : World) (b : Nat) (x : TV) (d : Nat) (hk : x.k ≠ 1) :
    Calls Try.prog 37 #[.pointer (some ⟨b, 0, none⟩), tvV x, .int .i64 d] w fun e w' => e = .returned (.tuple #[]) ∧ Below w.heap.size w w' := by
  rw [tvV_lit]
  go_enter Try.func37, Try.ntmps37
  go_wp2_with fail
  go_end0
  exact ⟨rfl, (Below.refl _ _).alloc (Nat.le_refl _) _⟩

set_option maxHeartbeats 8000000 in
theorem walkQ_any (w : World) (b B : Nat) (x : TV) (t : Tm) (hx : TermAt w B x t) (hB : B ≤ w.heap.size) (hnv : t.noVar = true) (hsz : t.size ≤ 100000000) :
    Calls Try.prog 36 #[tvV x, .func (Fn.func 37) #[.pointer (some ⟨b, 0, none⟩)] #[]] w fun e w' => e = .returned (.tuple #[]) ∧ Below w.heap.size w w' := by
  obtain ⟨i, z, hi, hz, hsi, hby, hzs⟩ := ab_info
  have hI : WalkQ w B [(x, 1)] [(t, 1)] (.slice (some ⟨w.heap.size + 1, 0, none⟩) 1 1) ((w.alloc (.cells (encTV x).toArray 33)).alloc (.cells (encAb (x, 1)).toArray 98)) := by
    refine ⟨?_, .snoc [] [] x t 1 .nil hx, ((Below.refl _ w).alloc (Nat.le_refl _) _).alloc (by simp) _⟩
    · have := Row.one (B := w.heap.size) (e := 98) encAb_len (w.alloc (.cells (encTV x).toArray 33)) (x, 1) (by simp)
      simpa using this
  have HI := Lib.hid hI
  have HNV := Lib.hid hnv
  clear hI hx hnv
  rw [tvV_lit]
  go_enter Try.func36, Try.ntmps36
  go_wp2_with fail
  change Code.wp _ _ _ _ ((w.alloc (.cells (encTV x).toArray 33)).alloc (.cells (encAb (x, 1)).toArray 98))
  go_loopg [4] t.size (fun g v u => ∃ st pd, WalkQ w B st pd v u ∧ Hid (pdSize pd = g ∧ pdSize pd ≤ 100000000 ∧ ∀ p ∈ pd, p.1.noVar = true ∧ p.2 + p.1.size ≤ 100000001))
  case atStart => exact ⟨_, _, HI.out, Lib.hid ⟨by simp [pdSize], by simp [pdSize]; omega, fun p hp => by simp at hp; subst hp; exact ⟨HNV.out, by simp only; omega⟩⟩⟩
  case round =>
    obtain ⟨st, pd, hR, HH⟩ := hrel
    clear HI
    obtain _ | ⟨⟨t1, d⟩, pd⟩ := pd
    · have hl := hR.stk.len
      obtain rfl : st = [] := List.eq_nil_of_length_eq_zero hl
      obtain ⟨A1, c1, rfl⟩ := hR.row.shape
      have HR := Lib.hid hR
      clear hR hl
      go_wp2_with fail
      go_end0
      exact ⟨rfl, HR.out.fr⟩
    · obtain ⟨st, x1, rfl, hs1, ht1⟩ := hR.stk.pop
      obtain ⟨tk, tn, ts, tl, tm, targ⟩ := ht1.open
      obtain ⟨g, cap, rfl, hg0, hg1, hcap, hcs⟩ := hR.row.cells encAb_len (by simp)
      obtain ⟨hd1, hd2⟩ : t1.noVar = true ∧ d + t1.size ≤ 100000001 := HH.out.2.2 _ (List.mem_cons_self ..)
      obtain ⟨hnk, hna⟩ := noVar_parts hd1
      rw [tk] at hnk
      have HNA := Lib.hid hna
      have hsz1 : pdSize ((t1, d) :: pd) = t1.size + pdSize pd := rfl
      have hts : t1.args.length + 1 ≤ t1.size := args_size t1
      have hb9 := HH.out.2.1
      have hps := size_pos t1
      have hll : x1.len ≤ 100000000 := by omega
      have hst : st.length ≤ 100000000 := by
        have h1 := hs1.len
        have h2 := pdSize_len pd
        omega
      have e0 := (hcs st.length (x1, d) (by simp) 0 _ rfl).1
      have e1 := (hcs st.length (x1, d) (by simp) 1 _ rfl).1
      have e2 := (hcs st.length (x1, d) (by simp) 2 _ rfl).1
      have e3 := (hcs st.length (x1, d) (by simp) 3 _ rfl).1
      have e4 := (hcs st.length (x1, d) (by simp) 4 _ rfl).1
      simp only [Nat.add_zero] at e0
      have hrow := hR.row
      rw [List.length_append, List.length_cons, List.length_nil] at hrow hcap ⊢
      have hfront := Row.front encAb_len hrow
      have hwr : w.heap.size ≤ wr.heap.size := hR.fr.size
      have hF1 : Below w.heap.size w (wr.alloc (.cells (encAb (x1, d)).toArray 98)) := hR.fr.alloc hwr _
      have hbx : (wr.alloc (.cells (encAb (x1, d)).toArray 98)).heap[wr.heap.size]? = some (.cells (encAb (x1, d)).toArray 98 (0, 0)) := heap_alloc_new wr _
      have hR1 := hfront.alloc (.cells (encAb (x1, d)).toArray 98)
      obtain ⟨w2, hw2⟩ : ∃ w2, w2 = wr.alloc (.cells (encAb (x1, d)).toArray 98) := ⟨_, rfl⟩
      obtain ⟨bx, hbxe⟩ : ∃ bx, bx = wr.heap.size := ⟨_, rfl⟩
      rw [← hw2] at hF1 hbx hR1
      rw [← hbxe] at hbx
      have hrl : st.length < st.length + 1 := Nat.lt_succ_self _
      have HT1 := Lib.hid ht1
      have HARG := Lib.hid targ
      have HS1 := Lib.hid hs1
      have HF1 := Lib.hid hF1
      have HBX := Lib.hid hbx
      have HR1 := Lib.hid hR1
      have HTL := Lib.hid tl
      have hcN : (st.length : Int) + 1 ≤ (cap : Int) := by omega
      have hg9 : g < bx := by omega
      have hs9 : st.length ≤ cap := by omega
      clear hR ht1 tk tn ts tl targ hcs hs1 hrow hfront hF1 hbx hR1 hna hd1
      go_wp2_with fail
      change Calls _ _ _ (wr.alloc (.cells (encAb (x1, d)).toArray 98)) _
      rw [← hw2, ← hbxe]
      refine (takeQ_any w2 b x1 d hnk).mono ?_
      rintro e w3 ⟨rfl, hf3⟩
      have hbx2 := (Array.getElem?_eq_some_iff.1 HBX.out).1
      have hb3 : w3.heap[bx]? = some (.cells (encAb (x1, d)).toArray 98 (0, 0)) := (hf3.block bx hbx2).trans HBX.out
      have hI3 : WalkQ w B st pd (.slice (some ⟨g, 0, none⟩) st.length cap) w3 :=
        ⟨HR1.out.later hf3, HS1.out, HF1.out.trans (hf3.mono HF1.out.size)⟩
      have HI3 := Lib.hid hI3
      have HB3 := Lib.hid hb3
      have d3 : w3.cell? ⟨bx, 3, none⟩ = some (.slice x1.A x1.len x1.cap) := by rw [cell_of_row w3 bx 3 _ _ (0, 0) hb3]; rfl
      clear hf3 hb3 hI3 HR1 HF1 hw2 hbxe e0 e1 e2 e3 e4 hg1 hwr hbx2 HBX
      go_wp2_with fail
      go_loopw [4, 6] (fun v i u => ∃ a st', a ≤ x1.len ∧ i = .int .i64 ((a : Int) - 1) ∧ Hid (WalkQ w B st' (pdArgs (d + 1) (t1.args.drop a) ++ pd) v u ∧ u.heap[bx]? = some (.cells (encAb (x1, d)).toArray 98 (0, 0)) ∧ v.ownBlock ≠ some bx)) (fun _ i _ => (intOf i + 1).toNat)
      case atStart =>
        refine ⟨x1.len, st, Nat.le_refl _, rfl, Lib.hid ⟨?_, HB3.out, ?_⟩⟩
        · have e9 : t1.args.drop x1.len = [] := by rw [← HTL.out, List.drop_length]
          rw [e9]
          exact HI3.out
        · simp [Value.ownBlock]; omega
      case round =>
        obtain ⟨a, st', ha, rfl, HR⟩ := hrel
        clear d3
        have d3 : wr.cell? ⟨bx, 3, none⟩ = some (.slice x1.A x1.len x1.cap) := by rw [cell_of_row wr bx 3 _ _ (0, 0) HR.out.2.1]; rfl
        have d4 : wr.cell? ⟨bx, 4, none⟩ = some (.int .i64 d) := by rw [cell_of_row wr bx 4 _ _ (0, 0) HR.out.2.1]; rfl
        obtain _ | a := a
        · have HF : Hid (WalkQ w B st' (pdArgs (d + 1) t1.args ++ pd) _ wr) := Lib.hid HR.out.1
          go_wp2_with fail
          have hh := HH.out
          go_roundg (pdSize (pdArgs (d + 1) t1.args ++ pd))
          case measure =>
            rw [pdSize_args, ← hh.1]
            show Tm.sizes t1.args + pdSize pd < t1.size + pdSize pd
            rw [size_args t1]
            omega
          case rel =>
            refine ⟨_, _, HF.out, Lib.hid ⟨rfl, ?_, ?_⟩⟩
            · rw [pdSize_args]
              have h1 := size_args t1
              omega
            · intro p hp
              rcases List.mem_append.1 hp with hp | hp
              · obtain ⟨t', ht', rfl⟩ := List.mem_map.1 hp
                have h1 := mem_sizes t1.args t' ht'
                have h2 := size_args t1
                exact ⟨HNA.out t' ht', by simp only; omega⟩
              · exact hh.2.2 p (List.mem_cons_of_mem _ hp)
        · have hla : a < t1.args.length := by rw [HTL.out]; omega
          obtain ⟨y, b9, off9, hA9, hb9', ht9, hc9⟩ := HARG.out a _ (List.getElem?_eq_getElem hla)
          have hdrop : t1.args.drop a = t1.args[a] :: t1.args.drop (a + 1) := List.drop_eq_getElem_cons hla
          generalize t1.args[a] = ty at ht9 hdrop
          have hbw := HR.out.1.fr
          have hc9' : ∀ j u, (encTV y)[j]? = some u → wr.cell? ⟨b9, off9 + a * 4 + j, none⟩ = some u := fun j u hu =>
            (hbw.cell (p := ⟨b9, off9 + a * 4 + j, none⟩) (by simp only; omega)).trans (hc9 j u hu)
          have f0 := hc9' 0 _ rfl
          have f1 := hc9' 1 _ rfl
          have f2 := hc9' 2 _ rfl
          have f3 := hc9' 3 _ rfl
          simp only [Nat.add_zero] at f0
          have hlen := HR.out.1.stk.len
          have hst9 : st'.length ≤ 100000000 := by
            have h1 := pdSize_len (pdArgs (d + 1) (t1.args.drop (a + 1)) ++ pd)
            rw [pdSize_args] at h1
            have h2 := sizes_drop (a + 1) t1.args
            have h3 := size_args t1
            have h4 := HH.out.2.1
            have h5 : pdSize ((t1, d) :: pd) = t1.size + pdSize pd := rfl
            omega
          have hwr9 := hbw.size
          have hblk := heap_alloc_new wr (.cells (encAb (y, d + 1)).toArray 98)
          obtain ⟨g9, cap9, w9, hr9, hR9, hg9', ho9⟩ := Row.push (P := Try.prog) 99 Try.underlying99 hi hz hsi hby hzs (by decide) encAb_len encAb_one
            (w := (wr.alloc (.cells (encAb (y, d + 1)).toArray 98)).drew) (HR.out.1.row.later (((Below.refl _ _).alloc (Nat.le_refl _) _).drew)) (y, d + 1) wr.heap.size 1
            (fun j u hu => cell_made wr _ _ j u (by simpa using hu)) (by unfold maxLen; omega) (by omega) (by simp; omega)
          obtain ⟨v9, hv9⟩ : ∃ v9, v9 = Value.slice (some ⟨g9, 0, none⟩) (st'.length + 1) cap9 := ⟨_, rfl⟩
          rw [← hv9] at hr9 hR9
          have hr9 : (Builtin.append_ #[99, 99] 99 #[_, .slice (some ⟨wr.heap.size, 0, none⟩) 1 1]).run Try.prog (wr.alloc (.cells #[.int .i64 y.k, .int .i64 y.n, .string ⟨y.s.toArray⟩, .slice y.A y.len y.cap, .int .i64 ((d : Int) + 1)] 98)).drew = .ok v9 w9 := hr9
          have hbx3 := (Array.getElem?_eq_some_iff.1 HR.out.2.1).1
          have hI9 : WalkQ w B (st' ++ [(y, d + 1)]) (pdArgs (d + 1) (t1.args.drop a) ++ pd) v9 w9 := by
            refine ⟨hR9, ?_, ?_⟩
            · rw [hdrop]
              exact .snoc _ _ y ty (d + 1) HR.out.1.stk ht9
            · exact ((Fr.of_below (fun k => w.heap.size ≤ k) (HR.out.1.fr.alloc hwr9 _).drew).grown hg9' (fun k e => .inl (HR.out.1.row.lt k e).1)).below (Nat.le_refl _) (fun k hk => by omega)
          have hbx9 : w9.heap[bx]? = some (.cells (encAb (x1, d)).toArray 98 (0, 0)) := by
            rw [hg9'.block bx (by simp; omega) (fun e => HR.out.2.2 e.symm)]
            exact (Below.heap_alloc _ _ _ hbx3).trans HR.out.2.1
          have hob9 : v9.ownBlock ≠ some bx := by
            rw [hv9]
            intro e
            have e' : g9 = bx := by simpa [Value.ownBlock] using e
            rcases ho9 with h | h
            · exact HR.out.2.2 (by rw [h, e'])
            · simp at h
              omega
          have HX9 := Lib.hid (And.intro hI9 (And.intro hbx9 hob9))
          have hd9 : (d : Int) + 1 ≤ 200000000 := by omega
          have hwd : IntKind.i64.wrap ((d : Int) + 1) = (d : Int) + 1 := IntWalk.i64_in _ (by omega)
          have ha9 : (a : Int) < (x1.len : Int) := by omega
          have hl9 : wr.heap.size ≠ bx := by omega
          have hbl9 : bx < wr.heap.size := hbx3
          have hb99 : b9 < wr.heap.size := by omega
          rw [show (((a + 1 : Nat) : Int) - 1) = (a : Int) by omega]
          clear hI9 hbx9 hob9 hg9' ho9 hblk hR9 hv9 hc9 hc9' hdrop ht9 hbw hlen
          obtain ⟨xk, xn, xs, xA, xl, xc⟩ := x1
          simp only at hA9 d3 d4 ha9 ha
          subst hA9
          go_wp2_with fail
          go_region_law (first | (refine step_run rfl (.tmp 39) (.tmp 50) 99 rfl (by rfl) (by rfl) hr9 ?_))
          all_goals
            go_wp2_with fail
            go_roundw
            case rel => exact ⟨a, _, by omega, rfl, HX9⟩
            case measure => simp [intOf]


set_option maxHeartbeats 2000000 in
theorem vars_none (w : World) (x : TV) (t : Tm) (hx : TermAt w w.heap.size x t) (hnv : t.noVar = true) (hsz : t.size ≤ 10000000) :
    Calls Try.prog 25 #[tvV x] w fun e w' => e = .returned (.slice none 0 0) ∧ Below w.heap.size w w' := by
  have hmm := @run_makeMap Try.prog
  have HX := Lib.hid hx
  have HNV := Lib.hid hnv
  clear hx hnv
  rw [tvV_lit]
  go_enter Try.func25, Try.ntmps25
  go_wp2_with fail
  generalize hW : World.alloc (World.alloc (World.alloc w _) _) _ = W
  have hbW : Below w.heap.size w W := by rw [← hW]; exact (((Below.refl _ w).alloc (Nat.le_refl _) _).alloc (by simp) _).alloc (by simp; omega) _
  have hcW : W.cell? ⟨w.heap.size + 1 + 1, 0, none⟩ = some (.slice none 0 0) := by
    clear hbW
    subst hW
    go_simp
  have hsW : W.heap.size = w.heap.size + 3 := by rw [← hW]; simp
  refine (walkQ_any W (w.heap.size + 1 + 1) W.heap.size x t (HX.out.later hbW) (Nat.le_refl _) HNV.out (by omega)).mono ?_
  rintro e w2 ⟨rfl, hb2⟩
  have hc2 := (hb2.cell (p := ⟨w.heap.size + 1 + 1, 0, none⟩) (by simp only; omega)).trans hcW
  have HB := Lib.hid (hbW.trans (hb2.mono hbW.size))
  clear hW hbW hcW hb2 hmm hsW
  go_wp2_with fail
  go_ret
  exact ⟨rfl, HB.out⟩
end Go.Proofs.Ytiaajpfebcccfaa
