/-
  What the document's table answers through find, Prefix, Infix, Postfix, Is. Condition: the table's block holds a slice that reads as a list of definitions.
-/
import Derived.Test.YtiaajpfebcccfaaDoorPlayP
import Derived.Test.YtiaajpfebcccfaaDoorEncDef
import Derived.LoopTactic
import Derived.Deep.QuietTactic
import Derived.BigQuiet
namespace Go.Proofs.YtiaajpfebcccfaaDoor
open Go.RowKit Go.Maps
set_option maxRecDepth 100000

/-- The document's table: its list lies behind it. -/
structure RTab (w : World) (rt : Nat) (L : List DefT) : Prop where
  ex : ∃ v, w.cell? ⟨rt, 0, none⟩ = some v ∧ w.frozen? ⟨rt, 0, none⟩ = false ∧ Row w (rt + 1) 29 3 encDef v L
theorem RTab.lt {w : World} {rt : Nat} {L : List DefT} (h : RTab w rt L) : rt < w.heap.size := by
  obtain ⟨v, hc, _⟩ := h.ex
  exact World.block_lt_of_cell? w _ hc
theorem RTab.keep {w w' : World} {rt : Nat} {L : List DefT} (h : RTab w rt L) (hb : ∀ k, rt ≤ k → k < w.heap.size → w'.heap[k]? = w.heap[k]?) : RTab w' rt L := by
  have hlt := h.lt
  obtain ⟨v, hc, hf, hr⟩ := h.ex
  refine ⟨v, (World.cell?_of_block (a := ⟨rt, 0, none⟩) (hb rt (Nat.le_refl _) hlt)).trans hc, (World.frozen?_of_block (a := ⟨rt, 0, none⟩) (hb rt (Nat.le_refl _) hlt)).trans hf, hr.keep fun k hk => ?_⟩
  obtain ⟨h1, h2⟩ := hr.lt k hk
  exact hb k (by omega) h2
theorem RTab.later {w w' : World} {rt : Nat} {L : List DefT} (h : RTab w rt L) (hb : Below w.heap.size w w') : RTab w' rt L := h.keep fun k _ hk => hb.block k hk
theorem RTab.fr {w w' : World} {rt b : Nat} {L : List DefT} (h : RTab w rt L) (hF : Fr (· = b) w w') (hb : b < rt) : RTab w' rt L := h.keep fun k h1 h2 => hF.block k h2 (by omega)
/-- Its slice, as a walk sees it. -/
theorem RTab.open {w : World} {rt : Nat} {L : List DefT} (h : RTab w rt L) : ∃ A cap, w.cell? ⟨rt, 0, none⟩ = some (.slice A L.length cap) ∧ w.frozen? ⟨rt, 0, none⟩ = false ∧
    (L ≠ [] → ∃ g, A = some ⟨g, 0, none⟩ ∧ g < w.heap.size ∧ rt < g ∧ ∀ i x, L[i]? = some x → ∀ j u, (encDef x)[j]? = some u → w.cell? ⟨g, i * 3 + j, none⟩ = some u) := by
  obtain ⟨v, hc, hf, hr⟩ := h.ex
  obtain ⟨A, cap, rfl⟩ := hr.shape
  refine ⟨A, cap, hc, hf, fun hne => ?_⟩
  obtain ⟨g, cap', e1, h2, h3, _, h5⟩ := hr.cells encDef_len hne
  cases e1
  exact ⟨g, rfl, h3, by omega, fun i x hx j u hu => (h5 i x hx j u hu).1⟩

theorem find_take_none {L : List DefT} {k : Nat} {x : DefT} {p : DefT → Bool} (h : (L.take k).find? p = none) (hx : L[k]? = some x) :
    (p x = true → L.find? p = some x) ∧ (p x = false → (L.take (k + 1)).find? p = none) := by
  obtain ⟨hk, rfl⟩ := List.getElem?_eq_some_iff.1 hx
  have e : L = L.take k ++ L[k] :: L.drop (k + 1) := by rw [List.getElem_cons_drop, List.take_append_drop]
  refine ⟨fun hp => ?_, fun hp => ?_⟩
  · generalize L[k] = x at *
    rw [e, List.find?_append, h, Option.none_or, List.find?_cons_of_pos hp]
  · rw [List.take_succ_eq_append_getElem hk, List.find?_append, h, Option.none_or, List.find?_cons_of_neg (by simp [hp])]
    rfl

theorem one_cells {w1 : World} {b : Nat} {a0 a1 a2 : Value} {t : TypeId} (h : w1.heap[b]? = some (.cells #[a0, a1, a2] t (0, 0))) :
    w1.cell? ⟨b, 0, none⟩ = some a0 ∧ w1.cell? ⟨b, 1, none⟩ = some a1 ∧ w1.cell? ⟨b, 2, none⟩ = some a2 ∧ (∀ o, w1.frozen? ⟨b, o, none⟩ = false) :=
  ⟨by rw [cell_of_row w1 b 0 _ t (0, 0) h]; rfl, by rw [cell_of_row w1 b 1 _ t (0, 0) h]; rfl, by rw [cell_of_row w1 b 2 _ t (0, 0) h]; rfl, fun o => by simp [World.frozen?, h]⟩

set_option maxHeartbeats 2000000 in
theorem find_any (w : World) (rt : Nat) (L : List DefT) (h : RTab w rt L) (n : List UInt8) (s : Int) (hL : L.length ≤ 100000) :
    Calls Tryd.prog 24 #[.pointer (some ⟨rt, 0, none⟩), .string ⟨n.toArray⟩, .int .i64 s] w fun e w' => e = .returned (.agg (encDef (rfind L n s)).toArray) ∧ Below w.heap.size w w' := by
  obtain ⟨A, cap, hc, -, hA⟩ := h.open
  have hrl := h.lt
  have HA := Lib.hid hA
  clear h hA
  go_enter Tryd.func24, Tryd.ntmps24
  go_wp2_with fail
  obtain ⟨w1, hw1⟩ : ∃ w1, w1 = w.alloc (.cells #[.int .i64 0, .int .i64 0, .string ⟨#[]⟩] 29) := ⟨_, rfl⟩
  rw [← hw1]
  have HB1 : Hid (Below w.heap.size w w1) := by rw [hw1]; exact (Below.refl _ _).alloc (Nat.le_refl _) _
  have HR1 : Hid (w1.heap[w.heap.size]? = some (.cells #[.int .i64 0, .int .i64 0, .string ⟨#[]⟩] 29 (0, 0))) := by rw [hw1]; exact heap_alloc_new w _
  have hs1 : w1.heap.size = w.heap.size + 1 := by rw [hw1]; simp
  clear hw1
  go_loopw [14] (fun i wr => ∃ k : Nat, k ≤ L.length ∧ i = .int .i64 k ∧ Hid ((L.take k).find? (rHit n s) = none) ∧ Below w1.heap.size w1 wr) (fun i _ => L.length - (intOf i).toNat)
  case atStart => exact ⟨0, Nat.zero_le _, rfl, Lib.hid (by simp), Below.refl _ _⟩
  case round =>
    obtain ⟨k, hk, rfl, HN, hb⟩ := hrel
    have HBR : Hid (Below w.heap.size w wr) := HB1.out.trans (hb.mono HB1.out.size)
    have hwr := hb.size
    have hr0 := (hb.block w.heap.size (by omega)).trans HR1.out
    by_cases hlt : k < L.length
    · have hne : L ≠ [] := by rintro rfl; simp at hlt
      obtain ⟨g, hA', hg, -, hcs⟩ := HA.out hne
      have hx := List.getElem?_eq_getElem hlt
      generalize L[k] = x at hx
      obtain ⟨f1, f2⟩ := find_take_none HN.out hx
      have d0 := hcs k x hx 0 _ rfl
      have d1 := hcs k x hx 1 _ rfl
      have d2 := hcs k x hx 2 _ rfl
      rw [← HBR.out.cell (p := ⟨g, k * 3 + 0, none⟩) hg] at d0
      rw [← HBR.out.cell (p := ⟨g, k * 3 + 1, none⟩) hg] at d1
      rw [← HBR.out.cell (p := ⟨g, k * 3 + 2, none⟩) hg] at d2
      simp only [Nat.add_zero] at d0
      have hlt' : (k : Int) < (L.length : Int) := by omega
      have HBW := Lib.hid (hb.alloc hb.size (.cells #[.int .i64 x.1, .int .i64 x.2.1, .string ⟨x.2.2.toArray⟩] 29))
      clear hcs hb hx
      subst hA'
      obtain ⟨x1, x2, x3⟩ := x
      simp only at d0 d1 d2 HBW f1 f2
      by_cases e3 : x3 = n
      · subst e3
        by_cases e2 : refSort x2 = s
        · have HF : Hid (rfind L x3 s = (x1, x2, x3)) := Lib.hid (by unfold rfind; rw [f1 (by simp [rHit, e2])]; rfl)
          subst e2
          clear f1 f2
          have HBZ := Lib.hid ((HBR.out.alloc HBR.out.size (.cells #[.int .i64 x1, .int .i64 x2, .string ⟨x3.toArray⟩] 29)))
          have hr1 : (wr.alloc (.cells #[.int .i64 x1, .int .i64 x2, .string ⟨x3.toArray⟩] 29)).heap[w.heap.size]? = some (.cells #[.int .i64 0, .int .i64 0, .string ⟨#[]⟩] 29 (0, 0)) := by
            rw [Below.heap_alloc _ _ _ (by omega)]; exact hr0
          obtain ⟨r0, r1, r2, rf⟩ := one_cells hr1
          clear hr0 hr1
          go_wp2_with (first | (go_at_call 23; refine (refSort_any _ _).mono ?_; rintro e w' ⟨rfl, rfl⟩))
          refine bodyPost_ret (v := .agg #[.int .i64 x1, .int .i64 x2, .string ⟨x3.toArray⟩]) (by simp [results, Tryd.results24, go_sem, r0, r1, r2]) rfl ⟨by rw [HF.out]; rfl, ?_⟩
          repeat (refine Below.setCell ?_ (by simp; try omega) _)
          exact HBZ.out
        · have HN2 := Lib.hid (f2 (by simp [rHit, e2]))
          clear f1 f2
          go_wp2_with (first | (go_at_call 23; refine (refSort_any _ _).mono ?_; rintro e w' ⟨rfl, rfl⟩))
          go_roundw
          case rel => exact ⟨k + 1, hlt, by go_num, HN2, HBW.out⟩
          case measure => simp [intOf]; omega
      · have HN2 := Lib.hid (f2 (by simp [rHit, e3]))
        clear f1 f2
        go_wp2_with fail
        go_roundw
        case rel => exact ⟨k + 1, hlt, by go_num, HN2, HBW.out⟩
        case measure => simp [intOf]; omega
    · have hkn : k = L.length := by omega
      subst hkn
      have HF : Hid (rfind L n s = (0, 0, [])) := Lib.hid (by have h0 := HN.out; rw [List.take_length] at h0; unfold rfind; rw [h0]; rfl)
      obtain ⟨r0, r1, r2, rf⟩ := one_cells hr0
      clear hr0 hb
      go_wp2_with fail
      refine bodyPost_ret (v := .agg #[.int .i64 0, .int .i64 0, .string ⟨#[]⟩]) (by simp [results, Tryd.results24, go_sem, r0, r1, r2]) rfl ⟨by rw [HF.out]; rfl, ?_⟩
      repeat (refine Below.setCell ?_ (by simp; try omega) _)
      exact HBR.out
end Go.Proofs.YtiaajpfebcccfaaDoor
