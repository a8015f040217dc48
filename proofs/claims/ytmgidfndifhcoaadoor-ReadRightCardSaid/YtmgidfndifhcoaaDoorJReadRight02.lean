import Derived.Test.YtmgidfndifhcoaaDoorJReadRight01
import Derived.Lib.Hide
import Derived.Test.YtmgidfndifhcoaaDoorJReadBrackets29
/-
  What term.walk makes of a term, handed seen.take; what term.Vars answers: its variables, each once, as they come. Conditions: the term's cells read as a term that is not too great; its variables' numbers are of 64 bits.
-/
namespace Go.Proofs.YtmgidfndifhcoaaDoor
open Go.RowKit Go.Maps
set_option maxRecDepth 100000

def pdVars : List (Tm × Nat) → List Int | [] => [] | (t, _) :: r => varsT t ++ pdVars r
theorem pdVars_args (d : Nat) (r : List (Tm × Nat)) : ∀ l : List Tm, pdVars (pdArgs d l ++ r) = varsL l ++ pdVars r
  | [] => rfl
  | t :: l => by
    have := pdVars_args d r l
    simp only [pdArgs, List.map_cons, List.cons_append, pdVars, varsL] at this ⊢
    rw [this, List.append_assoc]
theorem varsT_parts (t : Tm) : varsT t = (if t.k = 1 then [t.n] else []) ++ varsL t.args := by
  obtain ⟨k, n, s, l⟩ := t
  rfl
theorem varsL_mem : ∀ (l : List Tm) (t : Tm), t ∈ l → ∀ n ∈ varsT t, n ∈ varsL l
  | x :: l, t, h, n, hn => by
    rw [varsL]
    rcases List.mem_cons.1 h with rfl | h
    · exact List.mem_append_left _ hn
    · exact List.mem_append_right _ (varsL_mem l t h n hn)
mutual
theorem varsT_len : ∀ t : Tm, (varsT t).length ≤ t.size
  | .mk k n s l => by
    have := varsL_len l
    rw [varsT, Tm.size, List.length_append]
    split <;> simp <;> omega
theorem varsL_len : ∀ l : List Tm, (varsL l).length ≤ Tm.sizes l
  | [] => Nat.le_refl _
  | t :: r => by
    have h1 := varsT_len t
    have h2 := varsL_len r
    rw [varsL, Tm.sizes, List.length_append]
    omega
end

/-- What holds as the walk goes. -/
structure WalkS (w : World) (B b mb : Nat) (st : List AbT) (pd : List (Tm × Nat)) (l : List Int) (v : Value) (u : World) : Prop where
  row : Row u w.heap.size 134 5 encAb v st
  stk : Stk w B st pd
  seen : SeenAt u w.heap.size b mb l
  fr : Below B w u
  size : w.heap.size ≤ u.heap.size
/-- What the walk's own changes leave of the numbers. -/
theorem SeenAt.walk {u u' : World} {B b mb : Nat} {l : List Int} (h : SeenAt u B b mb l) {row : Option Nat} (hg : u.grownBy u' row) (hr : ∀ g, row = some g → TyB u 134 g) : SeenAt u' B b mb l := by
  obtain ⟨A, c, k1, k2⟩ := h.blk
  refine h.keep (hg.block b h.lt fun e => ?_) (hg.block mb h.map.lt fun e => ?_) fun k _ hk => hg.block k hk.lt fun e => ?_
  · exact (hr b e.symm).ne ⟨_, k1⟩ (by decide) rfl
  · exact h.map.ne (hr mb e.symm) rfl
  · exact (hr k e.symm).ne hk (by decide) rfl
theorem walk_fr {w u u' : World} {B : Nat} {row : Option Nat} (h : Below B w u) (hB : B ≤ w.heap.size) (hs : w.heap.size ≤ u.heap.size) (hg : u.grownBy u' row) (hr : ∀ g, row = some g → w.heap.size ≤ g) : Below B w u' :=
  h.grown hg (by omega) fun k e => by have := hr k e; omega

set_option maxHeartbeats 8000000 in
theorem walkS_any (w : World) (b mb B : Nat) (x : TV) (t : Tm) (hx : TermAt w B x t) (hBb : B ≤ b) (hBm : B ≤ mb) (l : List Int) (hs : SeenAt w w.heap.size b mb l) (hok : ∀ n ∈ varsT t, okI n) (hsz : l.length + t.size ≤ 100000000) :
    Calls Tryd.prog 42 #[tvV x, .func (Fn.func 43) #[.pointer (some ⟨b, 0, none⟩)] #[]] w fun e w' => e = .returned (.tuple #[]) ∧ SeenAt w' w.heap.size b mb (firsts l (varsT t)) ∧ Below B w w' := by
  have hB : B ≤ w.heap.size := by have := hs.bB; omega
  obtain ⟨i, z, hi, hz, hsi, hby, hzs⟩ := ab_info
  have hI : WalkS w B b mb [(x, 1)] [(t, 1)] l (.slice (some ⟨w.heap.size + 1, 0, none⟩) 1 1) ((w.alloc (.cells (encTV x).toArray 25)).alloc (.cells (encAb (x, 1)).toArray 134)) := by
    refine ⟨?_, .snoc [] [] x t 1 .nil hx, hs.later (((Below.refl _ w).alloc (Nat.le_refl _) _).alloc (by simp) _), ((Below.refl _ w).alloc hB _).alloc (by simp; omega) _, by simp; omega⟩
    · have := Row.one (B := w.heap.size) (e := 134) encAb_len (w.alloc (.cells (encTV x).toArray 25)) (x, 1) (by simp)
      simpa using this
  have HI := Lib.hid hI
  have HOK := Lib.hid hok
  have hbs := hs.bB
  have hms := hs.mB
  clear hI hx hok hs
  generalize hFIN : firsts l (varsT t) = FIN
  have HFIN := Lib.hid hFIN
  clear hFIN
  rw [tvV_lit]
  go_enter Tryd.func42, Tryd.ntmps42
  go_wp2_with fail
  change Code.wp _ _ _ _ ((w.alloc (.cells (encTV x).toArray 25)).alloc (.cells (encAb (x, 1)).toArray 134))
  go_loopg [4] t.size (fun g v u => ∃ st pd l, WalkS w B b mb st pd l v u ∧ Hid (pdSize pd = g ∧ l.length + pdSize pd ≤ 100000000 ∧ (∀ p ∈ pd, (∀ n ∈ varsT p.1, okI n) ∧ p.2 + p.1.size ≤ 100000001) ∧ firsts l (pdVars pd) = FIN))
  case atStart => exact ⟨_, _, _, HI.out, Lib.hid ⟨by simp [pdSize], by simp [pdSize]; omega, fun p hp => by simp at hp; subst hp; exact ⟨HOK.out, by simp only; omega⟩, by rw [← HFIN.out]; simp [pdVars]⟩⟩
  case round =>
    obtain ⟨st, pd, l, hR, HH⟩ := hrel
    clear HI
    obtain _ | ⟨⟨t1, d⟩, pd⟩ := pd
    · have hl := hR.stk.len
      obtain rfl : st = [] := List.eq_nil_of_length_eq_zero hl
      obtain ⟨A1, c1, rfl⟩ := hR.row.shape
      have HR := Lib.hid hR
      clear hR hl
      go_wp2_with fail
      go_end0
      have hf : l = FIN := HH.out.2.2.2
      subst hf
      exact ⟨rfl, HR.out.seen, HR.out.fr⟩
    · obtain ⟨st, x1, rfl, hs1, ht1⟩ := hR.stk.pop
      obtain ⟨tk, tn, ts, tl, tm, targ⟩ := ht1.open
      obtain ⟨g, cap, rfl, hg0, hg1, hcap, hcs⟩ := hR.row.cells encAb_len (by simp)
      obtain ⟨hd1, hd2⟩ : (∀ n ∈ varsT t1, okI n) ∧ d + t1.size ≤ 100000001 := HH.out.2.2.1 _ (List.mem_cons_self ..)
      have hnk : x1.k = 1 → okI x1.n := fun h1 => hd1 _ (by rw [varsT_parts, tk, if_pos h1, tn]; simp)
      have HNA := Lib.hid hd1
      have HTK := Lib.hid tk
      have HTN := Lib.hid tn
      have HNK := Lib.hid hnk
      have hl9 : l.length ≤ 100000000 := by have := HH.out.2.1; omega
      have hsn := hR.seen
      have hsz1 : pdSize ((t1, d) :: pd) = t1.size + pdSize pd := rfl
      have hts : t1.args.length + 1 ≤ t1.size := args_size t1
      have hb9 := HH.out.2.1
      have hps := size_pos t1
      have hll : x1.len ≤ 100000000 := by omega
      have hst : st.length ≤ 100000000 := by
        have h1 := hs1.len
        have h2 := pdSize_len pd
        omega
      have e0 := (hcs st.length (x1, d) (by simp) 0 _ rfl).1
      have e1 := (hcs st.length (x1, d) (by simp) 1 _ rfl).1
      have e2 := (hcs st.length (x1, d) (by simp) 2 _ rfl).1
      have e3 := (hcs st.length (x1, d) (by simp) 3 _ rfl).1
      have e4 := (hcs st.length (x1, d) (by simp) 4 _ rfl).1
      simp only [Nat.add_zero] at e0
      have hrow := hR.row
      rw [List.length_append, List.length_cons, List.length_nil] at hrow hcap ⊢
      have hfront := Row.front encAb_len hrow
      have hwr : w.heap.size ≤ wr.heap.size := hR.size
      have hF1 : Below B w (wr.alloc (.cells (encAb (x1, d)).toArray 134)) := hR.fr.alloc (by omega) _
      have hS1 : SeenAt (wr.alloc (.cells (encAb (x1, d)).toArray 134)) w.heap.size b mb l := hsn.later ((Below.refl _ _).alloc (Nat.le_refl _) _)
      have hw29 : w.heap.size ≤ (wr.alloc (.cells (encAb (x1, d)).toArray 134)).heap.size := by simp; omega
      have hbx : (wr.alloc (.cells (encAb (x1, d)).toArray 134)).heap[wr.heap.size]? = some (.cells (encAb (x1, d)).toArray 134 (0, 0)) := heap_alloc_new wr _
      have hR1 := hfront.alloc (.cells (encAb (x1, d)).toArray 134)
      obtain ⟨w2, hw2⟩ : ∃ w2, w2 = wr.alloc (.cells (encAb (x1, d)).toArray 134) := ⟨_, rfl⟩
      obtain ⟨bx, hbxe⟩ : ∃ bx, bx = wr.heap.size := ⟨_, rfl⟩
      rw [← hw2] at hF1 hbx hR1 hS1 hw29
      rw [← hbxe] at hbx
      have hrl : st.length < st.length + 1 := Nat.lt_succ_self _
      have HT1 := Lib.hid ht1
      have HARG := Lib.hid targ
      have HS1 := Lib.hid hs1
      have HF1 := Lib.hid hF1
      have HBX := Lib.hid hbx
      have HR1 := Lib.hid hR1
      have HTL := Lib.hid tl
      have HSN1 := Lib.hid hS1
      have HW29 := Lib.hid hw29
      have hcN : (st.length : Int) + 1 ≤ (cap : Int) := by omega
      have hg9 : g < bx := by omega
      have hs9 : st.length ≤ cap := by omega
      clear hR ht1 tk tn ts tl targ hcs hs1 hrow hfront hF1 hbx hR1 hd1 hnk hsn hS1 hw29
      go_wp2_with fail
      change Calls _ _ _ (wr.alloc (.cells (encAb (x1, d)).toArray 134)) _
      rw [← hw2, ← hbxe]
      refine (takeS_any w2 w.heap.size b mb l HSN1.out x1 d HNK.out hl9 HW29.out).mono ?_
      rintro e w3 ⟨rfl, hs3, hf3⟩
      have hbx2 := (Array.getElem?_eq_some_iff.1 HBX.out).1
      have hoff : ∀ k, TyB w2 134 k → ¬ SnS w2 w.heap.size b mb k := by
        rintro k hk (e | e | ⟨_, e⟩)
        · obtain ⟨A9, c9, k9, _⟩ := HSN1.out.blk
          exact hk.ne ⟨_, k9⟩ (by decide) e
        · exact HSN1.out.map.ne hk e.symm
        · exact hk.ne e (by decide) rfl
      have hb3 : w3.heap[bx]? = some (.cells (encAb (x1, d)).toArray 134 (0, 0)) := (hf3.block bx hbx2 (hoff bx ⟨_, HBX.out⟩)).trans HBX.out
      have hI3 : WalkS w B b mb st pd (if x1.k = 1 then addN l x1.n else l) (.slice (some ⟨g, 0, none⟩) st.length cap) w3 :=
        ⟨Row.keep HR1.out fun k hk => hf3.block k (HR1.out.lt k hk).2 (hoff k (Row.ty HR1.out hk)), HS1.out, hs3, HF1.out.trans (hf3.below (by have := HW29.out; omega) fun k hk e => by rcases e with e | e | ⟨e, _⟩ <;> omega), Nat.le_trans HW29.out hf3.size⟩
      obtain ⟨l2, hl2⟩ : ∃ l2, l2 = (if x1.k = 1 then addN l x1.n else l) := ⟨_, rfl⟩
      rw [← hl2] at hI3
      have HL2 := Lib.hid hl2
      clear hl2 hoff hs3
      have HI3 := Lib.hid hI3
      have HB3 := Lib.hid hb3
      have d3 : w3.cell? ⟨bx, 3, none⟩ = some (.slice x1.A x1.len x1.cap) := by rw [cell_of_row w3 bx 3 _ _ (0, 0) hb3]; rfl
      clear hf3 hb3 hI3 HR1 HF1 hw2 hbxe e0 e1 e2 e3 e4 hg1 hwr hbx2 HBX
      go_wp2_with fail
      go_loopw [4, 6] (fun v i u => ∃ a st', a ≤ x1.len ∧ i = .int .i64 ((a : Int) - 1) ∧ Hid (WalkS w B b mb st' (pdArgs (d + 1) (t1.args.drop a) ++ pd) l2 v u ∧ u.heap[bx]? = some (.cells (encAb (x1, d)).toArray 134 (0, 0)) ∧ v.ownBlock ≠ some bx)) (fun _ i _ => (intOf i + 1).toNat)
      case atStart =>
        refine ⟨x1.len, st, Nat.le_refl _, rfl, Lib.hid ⟨?_, HB3.out, ?_⟩⟩
        · have e9 : t1.args.drop x1.len = [] := by rw [← HTL.out, List.drop_length]
          rw [e9]
          exact HI3.out
        · simp [Value.ownBlock]; omega
      case round =>
        obtain ⟨a, st', ha, rfl, HR⟩ := hrel
        clear d3
        have d3 : wr.cell? ⟨bx, 3, none⟩ = some (.slice x1.A x1.len x1.cap) := by rw [cell_of_row wr bx 3 _ _ (0, 0) HR.out.2.1]; rfl
        have d4 : wr.cell? ⟨bx, 4, none⟩ = some (.int .i64 d) := by rw [cell_of_row wr bx 4 _ _ (0, 0) HR.out.2.1]; rfl
        obtain _ | a := a
        · have HF : Hid (WalkS w B b mb st' (pdArgs (d + 1) t1.args ++ pd) l2 _ wr) := Lib.hid HR.out.1
          go_wp2_with fail
          have hh := HH.out
          go_roundg (pdSize (pdArgs (d + 1) t1.args ++ pd))
          case measure =>
            rw [pdSize_args, ← hh.1]
            show Tm.sizes t1.args + pdSize pd < t1.size + pdSize pd
            rw [size_args t1]
            omega
          case rel =>
            have hfst : ∀ r, firsts l2 (varsL t1.args ++ r) = firsts l (varsT t1 ++ r) := fun r => by
              rw [HL2.out, varsT_parts, HTK.out, HTN.out]
              by_cases h1 : x1.k = 1
              · rw [if_pos h1, if_pos h1, List.append_assoc, List.singleton_append, firsts_one]
              · rw [if_neg h1, if_neg h1, List.nil_append]
            refine ⟨_, _, _, HF.out, Lib.hid ⟨rfl, ?_, ?_, ?_⟩⟩
            · rw [pdSize_args]
              have h1 := size_args t1
              have h2 : l2.length ≤ l.length + 1 := by
                rw [HL2.out]
                split
                · exact addN_len l x1.n
                · omega
              omega
            rotate_left
            · rw [pdVars_args, hfst]
              exact hh.2.2.2
            · intro p hp
              rcases List.mem_append.1 hp with hp | hp
              · obtain ⟨t', ht', rfl⟩ := List.mem_map.1 hp
                have h1 := mem_sizes t1.args t' ht'
                have h2 := size_args t1
                exact ⟨fun n hn => HNA.out n (by rw [varsT_parts]; exact List.mem_append_right _ (varsL_mem _ t' ht' n hn)), by simp only; omega⟩
              · exact hh.2.2.1 p (List.mem_cons_of_mem _ hp)
        · have hla : a < t1.args.length := by rw [HTL.out]; omega
          obtain ⟨y, b9, off9, hA9, hb9', ht9, hc9⟩ := HARG.out a _ (List.getElem?_eq_getElem hla)
          have hdrop : t1.args.drop a = t1.args[a] :: t1.args.drop (a + 1) := List.drop_eq_getElem_cons hla
          generalize t1.args[a] = ty at ht9 hdrop
          have hbw := HR.out.1.fr
          have hc9' : ∀ j u, (encTV y)[j]? = some u → wr.cell? ⟨b9, off9 + a * 4 + j, none⟩ = some u := fun j u hu =>
            (hbw.cell (p := ⟨b9, off9 + a * 4 + j, none⟩) (by simp only; omega)).trans (hc9 j u hu)
          have f0 := hc9' 0 _ rfl
          have f1 := hc9' 1 _ rfl
          have f2 := hc9' 2 _ rfl
          have f3 := hc9' 3 _ rfl
          simp only [Nat.add_zero] at f0
          have hlen := HR.out.1.stk.len
          have hst9 : st'.length ≤ 100000000 := by
            have h1 := pdSize_len (pdArgs (d + 1) (t1.args.drop (a + 1)) ++ pd)
            rw [pdSize_args] at h1
            have h2 := sizes_drop (a + 1) t1.args
            have h3 := size_args t1
            have h4 := HH.out.2.1
            have h5 : pdSize ((t1, d) :: pd) = t1.size + pdSize pd := rfl
            omega
          have hwr9 := HR.out.1.size
          have hblk := heap_alloc_new wr (.cells (encAb (y, d + 1)).toArray 134)
          obtain ⟨g9, cap9, w9, hr9, hR9, hg9', ho9⟩ := Row.push (P := Tryd.prog) 135 Tryd.underlying135 hi hz hsi hby hzs (by decide) encAb_len encAb_one
            (w := (wr.alloc (.cells (encAb (y, d + 1)).toArray 134)).drew) (HR.out.1.row.later (((Below.refl _ _).alloc (Nat.le_refl _) _).drew)) (y, d + 1) wr.heap.size 1
            (fun j u hu => cell_made wr _ _ j u (by simpa using hu)) (by unfold maxLen; omega) (by omega) (by simp; omega)
          obtain ⟨v9, hv9⟩ : ∃ v9, v9 = Value.slice (some ⟨g9, 0, none⟩) (st'.length + 1) cap9 := ⟨_, rfl⟩
          rw [← hv9] at hr9 hR9
          have hr9 : (Builtin.append_ #[135, 135] 135 #[_, .slice (some ⟨wr.heap.size, 0, none⟩) 1 1]).run Tryd.prog (wr.alloc (.cells #[.int .i64 y.k, .int .i64 y.n, .string ⟨y.s.toArray⟩, .slice y.A y.len y.cap, .int .i64 ((d : Int) + 1)] 134)).drew = .ok v9 w9 := hr9
          have hbx3 := (Array.getElem?_eq_some_iff.1 HR.out.2.1).1
          have hI9 : WalkS w B b mb (st' ++ [(y, d + 1)]) (pdArgs (d + 1) (t1.args.drop a) ++ pd) l2 v9 w9 := by
            refine ⟨hR9, ?_, ?_, ?_, ?_⟩
            · rw [hdrop]
              exact .snoc _ _ y ty (d + 1) HR.out.1.stk ht9
            · refine (HR.out.1.seen.later (((Below.refl _ _).alloc (Nat.le_refl _) _).drew)).walk hg9' fun k e => ?_
              exact (HR.out.1.row.ty e).keep (Below.heap_alloc _ _ _ (HR.out.1.row.lt k e).2)
            · exact walk_fr ((HR.out.1.fr.alloc (by omega) _).drew) hB (by simp; omega) hg9' fun k e => (HR.out.1.row.lt k e).1
            · exact Nat.le_trans (by simp; omega) hg9'.size
          have hbx9 : w9.heap[bx]? = some (.cells (encAb (x1, d)).toArray 134 (0, 0)) := by
            rw [hg9'.block bx (by simp; omega) (fun e => HR.out.2.2 e.symm)]
            exact (Below.heap_alloc _ _ _ hbx3).trans HR.out.2.1
          have hob9 : v9.ownBlock ≠ some bx := by
            rw [hv9]
            intro e
            have e' : g9 = bx := by simpa [Value.ownBlock] using e
            rcases ho9 with h | h
            · exact HR.out.2.2 (by rw [h, e'])
            · simp at h
              omega
          have HX9 := Lib.hid (And.intro hI9 (And.intro hbx9 hob9))
          have hd9 : (d : Int) + 1 ≤ 200000000 := by omega
          have hwd : IntKind.i64.wrap ((d : Int) + 1) = (d : Int) + 1 := IntWalk.i64_in _ (by omega)
          have ha9 : (a : Int) < (x1.len : Int) := by omega
          have hl9 : wr.heap.size ≠ bx := by omega
          have hbl9 : bx < wr.heap.size := hbx3
          have hb99 : b9 < wr.heap.size := by omega
          rw [show (((a + 1 : Nat) : Int) - 1) = (a : Int) by omega]
          clear hI9 hbx9 hob9 hg9' ho9 hblk hR9 hv9 hc9 hc9' hdrop ht9 hbw hlen
          obtain ⟨xk, xn, xs, xA, xl, xc⟩ := x1
          simp only at hA9 d3 d4 ha9 ha
          subst hA9
          go_wp2_with fail
          go_region_law (first | (refine step_run rfl (.tmp 39) (.tmp 50) 135 rfl (by rfl) (by rfl) hr9 ?_))
          all_goals
            go_wp2_with fail
            go_roundw
            case rel => exact ⟨a, _, by omega, rfl, HX9⟩
            case measure => simp [intOf]

set_option maxHeartbeats 4000000 in
theorem vars_any (w : World) (x : TV) (t : Tm) (hx : TermAt w w.heap.size x t) (hok : ∀ n ∈ varsT t, okI n) (hsz : t.size ≤ 10000000) :
    Calls Tryd.prog 18 #[tvV x] w fun e w' => ∃ A c, e = .returned (.slice A (firsts [] (varsT t)).length c) ∧ Row w' w.heap.size 2 1 encN (.slice A (firsts [] (varsT t)).length c) (firsts [] (varsT t)) ∧ Below w.heap.size w w' := by
  have hmm := @run_makeMap Tryd.prog
  have HX := Lib.hid hx
  have HOK := Lib.hid hok
  obtain ⟨FIN, hFIN⟩ : ∃ FIN, FIN = firsts [] (varsT t) := ⟨_, rfl⟩
  rw [← hFIN]
  have HFIN := Lib.hid hFIN
  clear hx hok hFIN
  rw [tvV_lit]
  go_enter Tryd.func18, Tryd.ntmps18
  go_wp2_with fail
  have hbW : Below w.heap.size w (((w.alloc (.cells #[.int .i64 x.k, .int .i64 x.n, .string ⟨x.s.toArray⟩, .slice x.A x.len x.cap] 25)).alloc (.map #[] 0)).alloc (.cells #[.slice none 0 0, .map (some (w.heap.size + 1))] 107)) := (((Below.refl _ w).alloc (Nat.le_refl _) _).alloc (by simp) _).alloc (by simp; omega) _
  have hbl := heap_alloc_new ((w.alloc (.cells #[.int .i64 x.k, .int .i64 x.n, .string ⟨x.s.toArray⟩, .slice x.A x.len x.cap] 25)).alloc (.map #[] 0)) (.cells #[.slice none 0 0, .map (some (w.heap.size + 1))] 107)
  rw [World.size_alloc, World.size_alloc] at hbl
  have hmp : MapAt (((w.alloc (.cells #[.int .i64 x.k, .int .i64 x.n, .string ⟨x.s.toArray⟩, .slice x.A x.len x.cap] 25)).alloc (.map #[] 0)).alloc (.cells #[.slice none 0 0, .map (some (w.heap.size + 1))] 107)) (w.heap.size + 1) evI evI (idxL []) := by
    have := (MapAt.made (ek := evI) (ev := evI) (w.alloc (.cells #[.int .i64 x.k, .int .i64 x.n, .string ⟨x.s.toArray⟩, .slice x.A x.len x.cap] 25))).alloc (.cells #[.slice none 0 0, .map (some (w.heap.size + 1))] 107)
    rw [World.size_alloc] at this
    exact this
  have hsz3 : (((w.alloc (.cells #[.int .i64 x.k, .int .i64 x.n, .string ⟨x.s.toArray⟩, .slice x.A x.len x.cap] 25)).alloc (.map #[] 0)).alloc (.cells #[.slice none 0 0, .map (some (w.heap.size + 1))] 107)).heap.size = w.heap.size + 3 := by simp
  generalize (((w.alloc (.cells #[.int .i64 x.k, .int .i64 x.n, .string ⟨x.s.toArray⟩, .slice x.A x.len x.cap] 25)).alloc (.map #[] 0)).alloc (.cells #[.slice none 0 0, .map (some (w.heap.size + 1))] 107)) = W at hbW hbl hmp hsz3 ⊢
  have hS : SeenAt W W.heap.size (w.heap.size + 1 + 1) (w.heap.size + 1) [] := ⟨⟨none, 0, hbl, Row.nil _ _ _ _ _⟩, hmp, by omega, by omega, fun n hn => by cases hn⟩
  refine (walkS_any W (w.heap.size + 1 + 1) (w.heap.size + 1) w.heap.size x t (HX.out.blw hbW) (by omega) (by omega) [] hS HOK.out (by rw [List.length_nil]; omega)).mono ?_
  rintro e w2 ⟨rfl, hs2, hb2⟩
  rw [← HFIN.out] at hs2
  obtain ⟨A, c, h1, h2⟩ := hs2.blk
  have c0 : w2.cell? ⟨w.heap.size + 1 + 1, 0, none⟩ = some (.slice A FIN.length c) := by rw [cell_of_row w2 (w.heap.size + 1 + 1) 0 _ _ (0, 0) h1]; rfl
  have HR := Lib.hid (h2.down (B' := w.heap.size) (by omega))
  have HB := Lib.hid (hbW.trans hb2)
  clear h1 h2 hs2 hb2 hbW hbl hmp hS hmm
  go_wp2_with fail
  go_ret
  exact ⟨A, c, rfl, HR.out, HB.out⟩
end Go.Proofs.YtmgidfndifhcoaaDoor
/-
  Lists of operators' definitions that came in as slices. No condition.
-/
namespace Go.Proofs.YtmgidfndifhcoaaDoor
open Go.RowKit Go.Maps
set_option maxRecDepth 100000

abbrev DefT := Int × Int × List UInt8
/-- A slice of operators' definitions that reads as a list, and lies below block B. -/
def DefsAt (w : World) (B : Nat) (A : Option Addr) (n : Nat) (l : List DefT) : Prop :=
  l.length = n ∧ ∀ i x, l[i]? = some x → ∃ b off, A = some ⟨b, off, none⟩ ∧ b < B ∧ w.cell? ⟨b, off + i * 3, none⟩ = some (.int .i64 x.1) ∧ w.cell? ⟨b, off + i * 3 + 1, none⟩ = some (.int .i64 x.2.1) ∧
    w.cell? ⟨b, off + i * 3 + 2, none⟩ = some (.string ⟨x.2.2.toArray⟩) ∧ x.2.2.length ≤ maxLen
theorem DefsAt.keep {w w' : World} {B : Nat} {A : Option Addr} {n : Nat} {l : List DefT} (h : DefsAt w B A n l) (hb : ∀ k, k < B → w'.heap[k]? = w.heap[k]?) : DefsAt w' B A n l :=
  ⟨h.1, fun i x hx => by
    obtain ⟨b, off, h1, h2, h3, h4, h5, h6⟩ := h.2 i x hx
    exact ⟨b, off, h1, h2, (World.cell?_of_block (a := ⟨b, off + i * 3, none⟩) (hb b h2)).trans h3, (World.cell?_of_block (a := ⟨b, off + i * 3 + 1, none⟩) (hb b h2)).trans h4, (World.cell?_of_block (a := ⟨b, off + i * 3 + 2, none⟩) (hb b h2)).trans h5, h6⟩⟩
theorem DefsAt.below {w w' : World} {B : Nat} {A : Option Addr} {n : Nat} {l : List DefT} (h : DefsAt w B A n l) (hb : Below B w w') : DefsAt w' B A n l := h.keep hb.block

end Go.Proofs.YtmgidfndifhcoaaDoor
/-
  What Made answers: the first operators' table behind a list of Ops. Conditions: the list can be read; the types' table and the table of blanks read as the program lays them.
-/
namespace Go.Proofs.YtmgidfndifhcoaaDoor
open Go.RowKit Go.Maps
set_option maxRecDepth 100000

def tabMade (l : List DefT) : List (OpK × OpV) := l.foldl (fun es d => opTab es d.1 d.2.1 d.2.2) opsInit
theorem tabMade_snoc (l : List DefT) (i : Nat) (h : i < l.length) : tabMade (l.take (i + 1)) = opTab (tabMade (l.take i)) l[i].1 l[i].2.1 l[i].2.2 := by
  unfold tabMade
  rw [List.take_succ_eq_append_getElem h, List.foldl_append]
  rfl

structure MadeInv (w : World) (bt bm : Nat) (es : List (OpK × OpV)) (wr : World) : Prop where
  tab : TabAt wr bt bm es
  kinds : KindsAt wr
  kindsLt : 0 < w.heap.size
  bt_ge : w.heap.size ≤ bt
  bm_ge : w.heap.size ≤ bm
  ne : bt ≠ bm
  below : Below w.heap.size w wr
theorem MadeInv.fr {w wr wr' : World} {bt bm : Nat} {es es' : List (OpK × OpV)} (h : MadeInv w bt bm es wr) (hF : Fr (· = bm) wr wr') (ht : TabAt wr' bt bm es') : MadeInv w bt bm es' wr' := by
  have h1 := h.kindsLt
  have h2 := h.bm_ge
  have h3 := h.below.size
  exact ⟨ht, h.kinds.keep (hF.block _ (by omega) (by omega)), h1, h.bt_ge, h2, h.ne, h.below.trans (hF.below (by omega) (by omega))⟩

set_option maxHeartbeats 1000000 in
theorem made_any (w : World) (A : Option Addr) (n c : Nat) (l : List DefT) (hl : DefsAt w w.heap.size A n l) (hn : n ≤ 1000000) (hK : KindsAt w) (htab : Lib.TabIs Tryd.prog w "strings.asciiSpace" .u8 Lib.asciiSpaceTab) :
    Calls Tryd.prog 16 #[.slice A n c] w fun e w' => ∃ bt bm, e = .returned (.pointer (some ⟨bt, 0, none⟩)) ∧ MadeInv w bt bm (tabMade l) w' := by
  have HL := Lib.hid hl
  have hk0 := hK.lt
  have HK := Lib.hid hK
  have HTAB := Lib.hid htab
  clear hl hK htab
  go_enter Tryd.func16, Tryd.ntmps16
  go_wp2_with fail
  refine (new_any w HK.out HTAB.out).mono ?_
  rintro e w1 ⟨bt, bm, rfl, hT, hbt, hbm, hne, hb1⟩
  have hI : MadeInv w bt bm opsInit w1 := ⟨hT, HK.out.below hb1 hk0, hk0, hbt, hbm, hne, hb1⟩
  have HI := Lib.hid hI
  clear hI hT
  go_wp2_with fail
  go_loopw [9] (fun i wr => ∃ k : Nat, k ≤ n ∧ i = .int .i64 k ∧ MadeInv w bt bm (tabMade (l.take k)) wr) (fun i _ => n - (intOf i).toNat)
  case atStart => exact ⟨0, Nat.zero_le _, rfl, by simpa only [tabMade, List.take_zero, List.foldl_nil] using HI.out⟩
  case round =>
    obtain ⟨k, hk, rfl, hR⟩ := hrel
    by_cases hlt : k < n
    · have hkl : k < l.length := by rw [HL.out.1]; exact hlt
      obtain ⟨b, off, hA, hb, c0, c1, c2, hm⟩ := HL.out.2 k l[k] (List.getElem?_eq_getElem hkl)
      rw [← hR.below.cell (p := ⟨b, off + k * 3, none⟩) hb] at c0
      rw [← hR.below.cell (p := ⟨b, off + k * 3 + 1, none⟩) hb] at c1
      rw [← hR.below.cell (p := ⟨b, off + k * 3 + 2, none⟩) hb] at c2
      have hlt' : (k : Int) < (n : Int) := by omega
      have HR := Lib.hid hR
      clear hR HI
      subst hA
      go_wp2_with fail
      have hba : Below wr.heap.size wr (wr.alloc (.cells #[.int .i64 l[k].1, .int .i64 l[k].2.1, .string ⟨l[k].2.2.toArray⟩] 101)) := (Below.refl _ _).alloc (Nat.le_refl _) _
      refine (op_any _ bt bm _ (HR.out.tab.later hba) (HR.out.kinds.later hba) hne l[k].1 l[k].2.1 l[k].2.2 (Nat.le_trans hm (by unfold maxLen; omega))).mono ?_
      rintro e w2 ⟨rfl, hT2, hF2⟩
      have hfin : MadeInv w bt bm (tabMade (l.take (k + 1))) w2 := by
        rw [tabMade_snoc l k hkl]
        exact HR.out.fr ((Fr.of_below _ hba).trans hF2) hT2
      have HF := Lib.hid hfin
      clear hfin hT2
      go_wp2
      go_roundw
      case rel => exact ⟨k + 1, hlt, by go_num, HF.out⟩
      case measure => simp [intOf]; omega
    · have hkn : k = n := by omega
      subst hkn
      have e1 : l.take k = l := List.take_of_length_le (by rw [HL.out.1]; exact Nat.le_refl _)
      rw [e1] at hR
      have HR := Lib.hid hR
      clear hR HI e1
      go_wp2
      go_ret
      exact ⟨bt, bm, rfl, HR.out⟩
end Go.Proofs.YtmgidfndifhcoaaDoor
