/-
  What the document's table answers through Op, and what it is behind it. Conditions: the table's block holds a slice that reads as a list of definitions; its priorities are 0 to 1200.
-/
import Derived.Test.YtiaajpfebcccfaaDoorPlayB
import Derived.Test.YtiaajpfebcccfaaDoorRowPut
import Derived.Deep.Cut
import Derived.Deep.CutRange
import Derived.Deep.DeepCutAuto
namespace Go.Proofs.YtiaajpfebcccfaaDoor
open Go.RowKit Go.Maps
set_option maxRecDepth 100000

theorem cell_one (w : World) (cs : Array Value) (t : TypeId) (i : Nat) (u : Value) (h : cs[i]? = some u) : (w.alloc (.cells cs t)).cell? ⟨w.heap.size, i, none⟩ = some u := by
  rw [cell_of_row _ _ i cs t (0, 0) (heap_alloc_new w _)]
  exact h
theorem RTab.stored {w : World} {B rt : Nat} {L L' : List DefT} {v : Value} (h : RTab w rt L) (hr : Row w B 29 3 encDef v L') (hB : rt < B) : RTab (w.setCell ⟨rt, 0, none⟩ v) rt L' := by
  obtain ⟨v0, hc, hf, _⟩ := h.ex
  exact ⟨v, World.cell?_setCell_same _ _ _ hc, by rw [World.frozen?_setCell]; exact hf, (hr.down hB).away _ fun k hk => by have := (hr.lt k hk).1; simp only; omega⟩

set_option maxHeartbeats 400000 in
theorem rOp_arg (w : World) (rt : Nat) (p t : Int) (n : List UInt8) (hn : n.length ≤ 9223372036854775807) (h : p < 0 ∨ 1200 < p ∨ t < 1 ∨ 7 < t ∨ 1000 < n.length) :
    Calls Tryd.prog 8 #[.pointer (some ⟨rt, 0, none⟩), .int .i64 p, .int .i64 t, .string ⟨n.toArray⟩] w fun e w' => e = .returned (.int .i64 2) ∧ w = w' := by
  have H := Lib.hid h
  clear h
  by_cases h1 : p < 0
  · go_enter Tryd.func8, Tryd.ntmps8
    go_wp2
    go_ret
    exact ⟨rfl, rfl⟩
  by_cases h2 : 1200 < p
  · have h1' : 0 ≤ p := by omega
    clear h1
    go_enter Tryd.func8, Tryd.ntmps8
    go_wp2
    go_ret
    exact ⟨rfl, rfl⟩
  have h1' : 0 ≤ p := by omega
  have h2' : p ≤ 1200 := by omega
  clear h1 h2
  by_cases h3 : t < 1
  · go_enter Tryd.func8, Tryd.ntmps8
    go_wp2
    go_ret
    exact ⟨rfl, rfl⟩
  by_cases h4 : 7 < t
  · have h3' : 1 ≤ t := by omega
    clear h3
    go_enter Tryd.func8, Tryd.ntmps8
    go_wp2
    go_ret
    exact ⟨rfl, rfl⟩
  have h3' : 1 ≤ t := by omega
  have h4' : t ≤ 7 := by omega
  clear h3 h4
  have h5 : 1000 < n.length := by have := H.out; omega
  clear H
  go_enter Tryd.func8, Tryd.ntmps8
  go_wp2
  go_ret
  exact ⟨rfl, rfl⟩

set_option maxHeartbeats 400000 in
theorem rOp_perm (w : World) (rt : Nat) (p t : Int) (n : List UInt8) (hn : n.length ≤ 1000) (h1 : 0 ≤ p) (h2 : p ≤ 1200) (h3 : 1 ≤ t) (h4 : t ≤ 7) (h : n = [44] ∨ n = [124] ∨ n = [91, 93] ∨ n = [123, 125]) :
    Calls Tryd.prog 8 #[.pointer (some ⟨rt, 0, none⟩), .int .i64 p, .int .i64 t, .string ⟨n.toArray⟩] w fun e w' => e = .returned (.int .i64 15) ∧ w = w' := by
  rcases h with rfl | rfl | rfl | rfl
  all_goals
    go_enter Tryd.func8, Tryd.ntmps8
    go_wp2
    go_ret
    exact ⟨rfl, rfl⟩

def confB (L : List DefT) (p s : Int) (n : List UInt8) : Bool := decide (0 < p ∧ ((s = 2 ∧ 0 < (rfind L n 3).1) ∨ (s = 3 ∧ 0 < (rfind L n 2).1)))
def fullB (L : List DefT) (p s : Int) (n : List UInt8) : Bool := decide (0 < p ∧ 256 ≤ L.length ∧ (rfind L n s).1 = 0)
def routS (L : List DefT) (s : Int) (n : List UInt8) : List DefT := L.filter fun d => !rHit n s d

theorem routS_snoc (L : List DefT) (s : Int) (n : List UInt8) (k : Nat) (h : k < L.length) : routS (L.take (k + 1)) s n = if rHit n s L[k] = true then routS (L.take k) s n else routS (L.take k) s n ++ [L[k]] := by
  unfold routS
  rw [List.take_succ_eq_append_getElem h, List.filter_append]
  generalize L[k] = x
  cases hx : rHit n s x <;> simp [hx]

set_option maxHeartbeats 8000000 in
theorem rOp_main (w : World) (rt : Nat) (L : List DefT) (h : RTab w rt L) (hpo : PriOk L) (hL : L.length ≤ 1000) (p t s : Int) (n : List UInt8) (hn : n.length ≤ 1000) (hp0 : 0 ≤ p) (hp1 : p ≤ 1200) (ht0 : 1 ≤ t) (ht1 : t ≤ 7)
    (h1 : n ≠ [44]) (h2 : n ≠ [124]) (h3 : n ≠ [91, 93]) (h4 : n ≠ [123, 125]) (hs : refSort t = s) (hs3 : s = 1 ∨ s = 2 ∨ s = 3) (E : Int) (O : List DefT)
    (hE : E = if confB L p s n = true then 15 else if fullB L p s n = true then 9 else 0) (hO : O = if confB L p s n = true ∨ fullB L p s n = true then L else if 0 < p then routS L s n ++ [(p, t, n)] else routS L s n) :
    Calls Tryd.prog 8 #[.pointer (some ⟨rt, 0, none⟩), .int .i64 p, .int .i64 t, .string ⟨n.toArray⟩] w fun e w' =>
      e = .returned (.int .i64 E) ∧ RTab w' rt O ∧ Fr (· = rt) w w' := by
  have e1 := beq_str n _ h1
  have e2 := beq_str n _ h2
  have e3 := beq_str n _ h3
  have e4 := beq_str n _ h4
  have H := Lib.hid h
  have HP := Lib.hid hpo
  have HS := Lib.hid hs
  have HS3 := Lib.hid hs3
  have hrt := h.lt
  have hfd := def_pri
  have hL1 : L.length ≤ 100000 := by omega
  have HE := Lib.hid hE
  have HO := Lib.hid hO
  clear h hpo hs hs3 h1 h2 h3 h4 hE hO
  go_enter Tryd.func8, Tryd.ntmps8
  go_upto_region 6 with (first | (go_at_call 23; refine (refSort_any _ _).mono ?_; rintro e w' ⟨rfl, rfl⟩; rw [HS.out]))
  clear e1 e2 e3 e4
  go_cut [71] from 10 (fun v wx => v = .bool (confB L p s n) ∧ Below w.heap.size w wx)
  case first =>
    obtain ⟨q1, q2⟩ := HP.out n 2
    obtain ⟨q3, q4⟩ := HP.out n 3
    by_cases hp : p = 0
    · have hB : Hid (confB L p s n = false) := Lib.hid (by unfold confB; exact decide_eq_false (by omega))
      have hp' : ¬ 0 < p := by omega
      clear hp
      go_wp2_with fail
      go_meet
      exact ⟨by rw [hB.out], Below.refl _ _⟩
    · have hp' : 0 < p := by omega
      clear hp
      rcases HS3.out with rfl | rfl | rfl
      · have hB : Hid (confB L p 1 n = false) := Lib.hid (by unfold confB; exact decide_eq_false (by omega))
        go_wp2_with fail
        go_meet
        exact ⟨by rw [hB.out], Below.refl _ _⟩
      · have HF := Lib.hid (find_any w rt L H.out n 3 hL1)
        by_cases hc : 0 < (rfind L n 3).1
        · have hB : Hid (confB L p 2 n = true) := Lib.hid (by unfold confB; exact decide_eq_true ⟨hp', .inl ⟨rfl, hc⟩⟩)
          go_wp2_with fail
          refine HF.out.mono ?_
          rintro e w1 ⟨rfl, hb1⟩
          rw [enc_lit]
          go_wp2_with fail
          go_meet
          exact ⟨by rw [hB.out], hb1⟩
        · have hB : Hid (confB L p 2 n = false) := Lib.hid (by unfold confB; exact decide_eq_false (by omega))
          go_wp2_with fail
          refine HF.out.mono ?_
          rintro e w1 ⟨rfl, hb1⟩
          rw [enc_lit]
          go_wp2_with fail
          go_meet
          exact ⟨by rw [hB.out, decide_eq_false (by omega)], hb1⟩
      · have HF := Lib.hid (find_any w rt L H.out n 2 hL1)
        by_cases hc : 0 < (rfind L n 2).1
        · have hB : Hid (confB L p 3 n = true) := Lib.hid (by unfold confB; exact decide_eq_true ⟨hp', .inr ⟨rfl, hc⟩⟩)
          go_wp2_with fail
          refine HF.out.mono ?_
          rintro e w1 ⟨rfl, hb1⟩
          rw [enc_lit]
          go_wp2_with fail
          go_meet
          exact ⟨by rw [hB.out], hb1⟩
        · have hB : Hid (confB L p 3 n = false) := Lib.hid (by unfold confB; exact decide_eq_false (by omega))
          go_wp2_with fail
          refine HF.out.mono ?_
          rintro e w1 ⟨rfl, hb1⟩
          rw [enc_lit]
          go_wp2_with fail
          go_meet
          exact ⟨by rw [hB.out, decide_eq_false (by omega)], hb1⟩
  case rest =>
    obtain ⟨rfl, hb⟩ := hcut
    have HB1 := Lib.hid hb
    have H1 := Lib.hid (H.out.later hb)
    have hw1 := hb.size
    clear hb
    cases hC : confB L p s n
    case true =>
      have HC := Lib.hid hC
      clear hC
      go_wp2_with fail
      go_ret
      exact ⟨by rw [HE.out, HC.out]; rfl, by rw [HO.out, HC.out, if_pos (.inl rfl)]; exact H1.out, Fr.of_below _ HB1.out⟩
    case false =>
      have HC := Lib.hid hC
      clear hC
      obtain ⟨A, cap, hc, hf, hA⟩ := H1.out.open
      have HA := Lib.hid hA
      clear hA
      go_upto_region 8 with fail
      go_cut [89] from 10 (fun v wx => v = .bool (fullB L p s n) ∧ Below w.heap.size w wx)
      case first =>
        obtain ⟨q1, q2⟩ := HP.out n s
        by_cases hp : p = 0
        · have hB : Hid (fullB L p s n = false) := Lib.hid (by unfold fullB; exact decide_eq_false (by omega))
          have hp' : ¬ 0 < p := by omega
          clear hp
          go_wp2_with fail
          go_meet
          exact ⟨by rw [hB.out], HB1.out⟩
        · have hp' : 0 < p := by omega
          clear hp
          by_cases hq : 256 ≤ L.length
          · have HF := Lib.hid (find_any wc rt L H1.out n s hL1)
            have hq' : 256 ≤ (L.length : Int) := by omega
            by_cases hcz : (rfind L n s).1 = 0
            · have hB : Hid (fullB L p s n = true) := Lib.hid (by unfold fullB; exact decide_eq_true ⟨hp', hq, hcz⟩)
              go_wp2_with fail
              refine HF.out.mono ?_
              rintro e w1 ⟨rfl, hb1⟩
              rw [enc_lit]
              go_wp2_with fail
              go_meet
              exact ⟨by rw [hB.out], HB1.out.trans (hb1.mono HB1.out.size)⟩
            · have hB : Hid (fullB L p s n = false) := Lib.hid (by unfold fullB; exact decide_eq_false (fun h => hcz h.2.2))
              go_wp2_with fail
              refine HF.out.mono ?_
              rintro e w1 ⟨rfl, hb1⟩
              rw [enc_lit]
              go_wp2_with fail
              go_meet
              exact ⟨by rw [hB.out, beq_eq_false_iff_ne.2 hcz], HB1.out.trans (hb1.mono HB1.out.size)⟩
          · have hB : Hid (fullB L p s n = false) := Lib.hid (by unfold fullB; exact decide_eq_false (by omega))
            have hq' : ¬ 256 ≤ (L.length : Int) := by omega
            go_wp2_with fail
            go_meet
            exact ⟨by rw [hB.out], HB1.out⟩
      case rest =>
        obtain ⟨rfl, hb⟩ := hcut
        obtain ⟨w2, rfl⟩ : ∃ w2 : World, w2 = wc := ⟨_, rfl⟩
        have HB2 := Lib.hid hb
        have H2 := Lib.hid (H.out.later hb)
        have hw2 := hb.size
        clear hb hc hf HA HB1 H1 hw1
        cases hF : fullB L p s n
        case true =>
          have HFL := Lib.hid hF
          clear hF
          go_wp2_with fail
          go_ret
          exact ⟨by rw [HE.out, HC.out, HFL.out]; rfl, by rw [HO.out, HFL.out, if_pos (.inr rfl)]; exact H2.out, Fr.of_below _ HB2.out⟩
        case false =>
          have HFL := Lib.hid hF
          clear hF
          obtain ⟨A2, cap2, hc, hf, hA⟩ := H2.out.open
          have HA := Lib.hid hA
          clear hA
          obtain ⟨i, z, hi, hz, hsi, hby, hzs⟩ := refDef_info
          go_wp2_with fail
          go_loopw [10, 95] (fun v i wr => ∃ k : Nat, k ≤ L.length ∧ i = .int .i64 k ∧ Row wr w2.heap.size 29 3 encDef v (routS (L.take k) s n) ∧ Below w2.heap.size w2 wr) (fun _ i _ => L.length - (intOf i).toNat)
          case atStart => exact ⟨0, Nat.zero_le _, rfl, by simpa [routS] using Row.nil _ _ _ _ _, Below.refl _ _⟩
          case round =>
            obtain ⟨k, hk, rfl, hR, hb⟩ := hrel
            have hrl : (routS (L.take k) s n).length ≤ 1000 := by unfold routS; exact Nat.le_trans (List.length_filter_le _ _) (by rw [List.length_take]; omega)
            by_cases hlt : k < L.length
            · have hne : L ≠ [] := by rintro rfl; simp at hlt
              obtain ⟨g, hA', hg, -, hcs⟩ := HA.out hne
              have hx := List.getElem?_eq_getElem hlt
              have htk : routS (L.take (k + 1)) s n = if rHit n s L[k] = true then routS (L.take k) s n else routS (L.take k) s n ++ [L[k]] := routS_snoc L s n k hlt
              generalize L[k] = x at hx htk
              have d0 := hcs k x hx 0 _ rfl
              have d1 := hcs k x hx 1 _ rfl
              have d2 := hcs k x hx 2 _ rfl
              rw [← hb.cell (p := ⟨g, k * 3 + 0, none⟩) hg] at d0
              rw [← hb.cell (p := ⟨g, k * 3 + 1, none⟩) hg] at d1
              rw [← hb.cell (p := ⟨g, k * 3 + 2, none⟩) hg] at d2
              simp only [Nat.add_zero] at d0
              have hlt' : (k : Int) < (L.length : Int) := by omega
              have HR := Lib.hid hR
              have HBB := Lib.hid hb
              have hwr : w2.heap.size ≤ wr.heap.size := hb.size
              have HBX := Lib.hid (hb.alloc hb.size (.cells #[.int .i64 x.1, .int .i64 x.2.1, .string ⟨x.2.2.toArray⟩] 29))
              have HRX := Lib.hid (hR.alloc (.cells #[.int .i64 x.1, .int .i64 x.2.1, .string ⟨x.2.2.toArray⟩] 29))
              clear hcs hb hx hR
              subst hA'
              by_cases hhit : rHit n s x = true
              · rw [if_pos hhit] at htk
                have HT := Lib.hid htk
                obtain ⟨g3, g2⟩ : x.2.2 = n ∧ refSort x.2.1 = s := by simpa [rHit] using hhit
                clear hhit htk
                obtain ⟨x1, x2, x3⟩ := x
                simp only at d0 d1 d2 g3 g2 HBX HRX
                subst g3
                have HG2 := Lib.hid g2
                clear g2
                go_wp2_with (first | (go_at_call 23; refine (refSort_any _ _).mono ?_; rintro e w' ⟨rfl, rfl⟩; rw [HG2.out]))
                go_roundw
                case rel => exact ⟨k + 1, hlt, by go_num, by rw [HT.out]; exact HRX.out, HBX.out⟩
                case measure => simp [intOf]; omega
              · rw [if_neg hhit] at htk
                have HT := Lib.hid htk
                have hsplit : x.2.2 ≠ n ∨ (x.2.2 = n ∧ refSort x.2.1 ≠ s) := by
                  by_cases h3 : x.2.2 = n
                  · exact .inr ⟨h3, fun h2 => hhit (by simp [rHit, h3, h2])⟩
                  · exact .inl h3
                clear hhit htk
                rcases hsplit with g3 | ⟨g3, g2⟩
                case' inr =>
                  have g2b : (refSort x.2.1 == s) = false := beq_eq_false_iff_ne.2 g2
                  have g2c : (refSort x.2.1 != s) = true := by simp [g2]
                  obtain ⟨x1, x2, x3⟩ := x
                  simp only at d0 d1 d2 g3 g2b g2c HBX HRX HT
                  subst g3
                  clear g2
                  go_wp2_with (first | (go_at_call 23; refine (refSort_any _ _).mono ?_; rintro e w' ⟨rfl, rfl⟩) | (at_builtin; refine wpList_row rfl _ _ 22 rfl _ w2.heap.size 29 i z 3 32 encDef Tryd.underlying22 hi hz hsi hby hzs (by decide) encDef_len encDef_one _ (routS (L.take k) s x3) (x1, x2, x3) rfl ((HR.out.alloc _).alloc _) _ _ rfl (fun j u hu => cell_alloc2 _ _ _ _ j u (by simpa [encDef] using hu)) (by unfold maxLen; omega) (by omega) (Nat.le_trans hwr (by simp; omega)) ?_))
                case' inl =>
                  have g3b : (x.2.2 == n) = false := by simpa using g3
                  have g3c : (x.2.2 != n) = true := by simp [g3]
                  obtain ⟨x1, x2, x3⟩ := x
                  simp only at d0 d1 d2 g3b g3c HBX HRX HT
                  clear g3
                  go_wp2_with (first | (at_builtin; refine wpList_row rfl _ _ 22 rfl _ w2.heap.size 29 i z 3 32 encDef Tryd.underlying22 hi hz hsi hby hzs (by decide) encDef_len encDef_one _ (routS (L.take k) s n) (x1, x2, x3) rfl ((HR.out.alloc _).alloc _) _ _ rfl (fun j u hu => cell_alloc2 _ _ _ _ j u (by simpa [encDef] using hu)) (by unfold maxLen; omega) (by omega) (Nat.le_trans hwr (by simp; omega)) ?_))
                all_goals
                  intro v' w5 hrow5 hg5
                  have hb5 : Below w2.heap.size w2 w5 := below_grown ((HBB.out.alloc hwr _).alloc (by simp; omega) _) hg5 (fun g e => (HR.out.lt g e).1) (by simp; omega)
                  have HB5 := Lib.hid hb5
                  rw [← HT.out] at hrow5
                  have HR6 := Lib.hid hrow5
                  clear hb5 hrow5 hg5
                  go_wp2_with fail
                  go_roundw
                  case rel => exact ⟨k + 1, hlt, by go_num, HR6.out, HB5.out⟩
                  case measure => simp [intOf]; omega
            · have hkn : k = L.length := by omega
              subst hkn
              rw [List.take_length] at hR hrl
              have HR := Lib.hid hR
              have HBB := Lib.hid hb
              have hwr : w2.heap.size ≤ wr.heap.size := hb.size
              clear hc hf hR hb
              by_cases hp : 0 < p
              · go_wp2_with (first | (at_builtin; refine wpList_row rfl _ _ 22 rfl _ w2.heap.size 29 i z 3 32 encDef Tryd.underlying22 hi hz hsi hby hzs (by decide) encDef_len encDef_one _ (routS L s n) (p, t, n) rfl (HR.out.alloc _) _ _ rfl (fun j u hu => cell_one _ _ _ j u (by simpa [encDef] using hu)) (by unfold maxLen; omega) (by omega) (Nat.le_trans hwr (by simp)) ?_))
                intro v' w5 hrow5 hg5
                have hb5 : Below w2.heap.size w2 w5 := below_grown (HBB.out.alloc hwr _) hg5 (fun g e => (HR.out.lt g e).1) (by simp; omega)
                obtain ⟨A5, cap5, hc, hf, -⟩ := (H2.out.later hb5).open
                have HB5 := Lib.hid hb5
                obtain ⟨A6, cap6, rfl⟩ := hrow5.shape
                rw [List.length_append, List.length_cons, List.length_nil] at hrow5
                have HR5 := Lib.hid hrow5
                clear hb5 hrow5 hg5
                go_wp2_with fail
                go_ret
                refine ⟨by rw [HE.out, HC.out, HFL.out]; rfl, ?_, ?_⟩
                · rw [HO.out, HC.out, HFL.out, if_neg (by simp), if_pos hp]
                  exact (H2.out.later HB5.out).stored (B := w2.heap.size) HR5.out (by omega)
                · exact (Fr.of_below (· = rt) (HB2.out.trans (HB5.out.mono hw2))).setCell (p := ⟨rt, 0, none⟩) (.inl rfl) _
              · obtain ⟨A5, cap5, hc, hf, -⟩ := (H2.out.later HBB.out).open
                obtain ⟨A6, cap6, rfl⟩ := HR.out.shape
                go_wp2_with fail
                go_ret
                refine ⟨by rw [HE.out, HC.out, HFL.out]; rfl, ?_, ?_⟩
                · rw [HO.out, HC.out, HFL.out, if_neg (by simp), if_neg (by omega)]
                  exact (H2.out.later HBB.out).stored (B := w2.heap.size) HR.out (by omega)
                · exact (Fr.of_below (· = rt) (HB2.out.trans (HBB.out.mono hw2))).setCell (p := ⟨rt, 0, none⟩) (.inl rfl) _

theorem rOp_any (w : World) (rt : Nat) (L : List DefT) (h : RTab w rt L) (hpo : PriOk L) (hL : L.length ≤ 1000) (p t : Int) (n : List UInt8) (hn : n.length ≤ 9223372036854775807) :
    Calls Tryd.prog 8 #[.pointer (some ⟨rt, 0, none⟩), .int .i64 p, .int .i64 t, .string ⟨n.toArray⟩] w fun e w' =>
      e = .returned (.int .i64 (rerr L p t n)) ∧ RTab w' rt (rop L p t n) ∧ Fr (· = rt) w w' := by
  unfold rop
  by_cases c1 : p < 0 ∨ 1200 < p ∨ t < 1 ∨ 7 < t ∨ 1000 < n.length
  · have e1 : rerr L p t n = 2 := by unfold rerr; rw [if_pos c1]
    rw [e1]
    refine (rOp_arg w rt p t n hn c1).mono ?_
    rintro e w' ⟨rfl, rfl⟩
    exact ⟨rfl, by simpa using h, Fr.refl _ _⟩
  by_cases c2 : n = [44] ∨ n = [124] ∨ n = [91, 93] ∨ n = [123, 125]
  · have e1 : rerr L p t n = 15 := by unfold rerr; rw [if_neg c1, if_pos c2]
    rw [e1]
    refine (rOp_perm w rt p t n (by omega) (by omega) (by omega) (by omega) (by omega) c2).mono ?_
    rintro e w' ⟨rfl, rfl⟩
    exact ⟨rfl, by simpa using h, Fr.refl _ _⟩
  have e1 : rerr L p t n = if confB L p (refSort t) n = true then 15 else if fullB L p (refSort t) n = true then 9 else 0 := by
    unfold rerr confB fullB
    rw [if_neg c1, if_neg c2]
    simp only [decide_eq_true_eq]
  simp only [not_or] at c2
  refine (rOp_main w rt L h hpo hL p t (refSort t) n (by omega) (by omega) (by omega) (by omega) (by omega) c2.1 c2.2.1 c2.2.2.1 c2.2.2.2 rfl (by unfold refSort; split <;> (try split) <;> simp) _ _ rfl rfl).mono ?_
  rintro e w' ⟨rfl, hR, hF⟩
  refine ⟨by rw [e1], ?_, hF⟩
  rw [e1]
  cases hC : confB L p (refSort t) n with
  | true => rw [hC] at hR; simpa using hR
  | false =>
    cases hF2 : fullB L p (refSort t) n with
    | true => rw [hC, hF2] at hR; simpa using hR
    | false => rw [hC, hF2] at hR; simpa [rout, routS] using hR
end Go.Proofs.YtiaajpfebcccfaaDoor
