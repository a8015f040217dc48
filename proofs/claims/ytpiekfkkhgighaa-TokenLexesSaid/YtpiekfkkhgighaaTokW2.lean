/-
  What the lexer answers of a byte that is told behind 0 and a quote. No condition but the sizes that are named.
-/
import Derived.Test.YtpiekfkkhgighaaTokW1
namespace Go.Proofs.Ytpiekfkkhgighaa
open Go.RowKit
set_option maxRecDepth 100000

theorem bcell {W w1 : World} (hb : Below W.heap.size W w1) : (∀ b o, b < W.heap.size → w1.cell? ⟨b, o, none⟩ = W.cell? ⟨b, o, none⟩) ∧ (∀ b o, b < W.heap.size → w1.frozen? ⟨b, o, none⟩ = W.frozen? ⟨b, o, none⟩) :=
  ⟨fun b o h => hb.cell (p := ⟨b, o, none⟩) h, fun b o h => hb.frozen (p := ⟨b, o, none⟩) h⟩
theorem six_cells {w1 : World} {b : Nat} {a0 a1 a2 a3 a4 a5 : Value} {t : TypeId} (h : w1.heap[b]? = some (.cells #[a0, a1, a2, a3, a4, a5] t (0, 0))) :
    (w1.cell? ⟨b, 0, none⟩ = some a0 ∧ w1.cell? ⟨b, 1, none⟩ = some a1 ∧ w1.cell? ⟨b, 2, none⟩ = some a2 ∧ w1.cell? ⟨b, 3, none⟩ = some a3 ∧ w1.cell? ⟨b, 4, none⟩ = some a4 ∧ w1.cell? ⟨b, 5, none⟩ = some a5) ∧ (∀ o, w1.frozen? ⟨b, o, none⟩ = false) := by
  have hf : ∀ o, w1.frozen? ⟨b, o, none⟩ = false := fun o => by simp [World.frozen?, h]
  exact ⟨⟨by rw [cell_of_row w1 b 0 _ t (0, 0) h]; rfl, by rw [cell_of_row w1 b 1 _ t (0, 0) h]; rfl, by rw [cell_of_row w1 b 2 _ t (0, 0) h]; rfl, by rw [cell_of_row w1 b 3 _ t (0, 0) h]; rfl, by rw [cell_of_row w1 b 4 _ t (0, 0) h]; rfl, by rw [cell_of_row w1 b 5 _ t (0, 0) h]; rfl⟩, hf⟩
theorem below_two {w w1 : World} {o1 o2 : Obj} (hb : Below ((w.alloc o1).alloc o2).heap.size ((w.alloc o1).alloc o2) w1) : w1.heap[w.heap.size]? = some o1 ∧ w1.heap[w.heap.size + 1]? = some o2 := by
  have e1 : ((w.alloc o1).alloc o2).heap.size = w.heap.size + 1 + 1 := by simp
  have e2 : (w.alloc o1).heap.size = w.heap.size + 1 := by simp
  refine ⟨?_, ?_⟩
  · rw [hb.block _ (by omega), Below.heap_alloc _ _ _ (by omega)]
    exact heap_alloc_new w o1
  · rw [hb.block _ (by omega), ← e2]
    exact heap_alloc_new (w.alloc o1) o2
def digT (x : Int × Nat) : TokIs := ⟨3, x.1, [], x.2⟩
theorem charF_short {l : List UInt8} (h : l.length < 3) : charF l = none := by
  match l, h with
  | [], _ => rfl
  | [_], _ => rfl
  | [_, _], _ => rfl
theorem charF_at {l : List UInt8} {c : UInt8} {r : List UInt8} (h : l.drop 2 = c :: r) : charF l = charAt2 c r := by
  match l, h with
  | _ :: _ :: _, h => rw [List.drop_succ_cons, List.drop_succ_cons, List.drop_zero] at h; subst h; rfl
  | [_], h => cases h
  | [], h => cases h

set_option maxHeartbeats 2000000 in
theorem char_any (w : World) (l : List UInt8) (hl : (l.length : Int) ≤ 1000000) :
    Calls Try.prog 43 #[.string ⟨l.toArray⟩] w fun e w' => e = .returned (tryV (some ((charF l).map digT))) ∧ Below w.heap.size w w' := by
  generalize hR : (some ((charF l).map digT)) = R
  have HR := Lib.hid hR
  clear hR
  by_cases h3 : (l.length : Int) < 3
  · have hr := HR.out
    rw [charF_short (by omega)] at hr
    have HR2 := Lib.hid hr
    clear hr HR
    go_enter Try.func43, Try.ntmps43
    go_wp2_with fail
    rw [← HR2.out]
    refine bodyPost_ret (v := tryV (some none)) (by simp [results, Try.results43, go_sem, tryV, tokV]) rfl ⟨rfl, ((Below.refl _ _).alloc (Nat.le_refl _) _).alloc (by simp) _⟩
  · have hlt2 : 2 < l.length := by omega
    have h3' : 3 ≤ (l.length : Int) := by omega
    obtain ⟨c, hd, hx2, -⟩ := byte_at l 2 hlt2
    have hr := HR.out
    rw [charF_at hd, charAt2] at hr
    have HR2 := Lib.hid hr
    clear hr HR hd h3
    by_cases h10 : c = 10
    · have t10 : ((c.toNat : Int) == 10) = true := byte_eq h10
      have hr := HR2.out
      rw [if_pos h10] at hr
      have HR3 := Lib.hid hr
      clear hr HR2 h10
      go_enter Try.func43, Try.ntmps43
      go_wp2_with fail
      rw [← HR3.out]
      refine bodyPost_ret (v := tryV (some none)) (by simp [results, Try.results43, go_sem, tryV, tokV]) rfl ⟨rfl, ((Below.refl _ _).alloc (Nat.le_refl _) _).alloc (by simp) _⟩
    have t10 : ((c.toNat : Int) == 10) = false := byte_ne h10
    have hr := HR2.out
    rw [if_neg h10] at hr
    have HR3 := Lib.hid hr
    clear hr HR2 h10
    by_cases h39 : c = 39
    · have t39 : ((c.toNat : Int) == 39) = true := byte_eq h39
      have t39' : ((c.toNat : Int) != 39) = false := by rw [bne, t39]; rfl
      have hr := HR3.out
      rw [if_pos h39] at hr
      have HR4 := Lib.hid hr
      clear hr HR3 h39
      by_cases h4 : (l.length : Int) < 4
      · have hr := HR4.out
        rw [if_neg (by rw [List.drop_eq_nil_of_le (by omega)]; simp)] at hr
        have HR5 := Lib.hid hr
        clear hr HR4
        go_enter Try.func43, Try.ntmps43
        go_wp2_with fail
        rw [← HR5.out]
        refine bodyPost_ret (v := tryV (some none)) (by simp [results, Try.results43, go_sem, tryV, tokV]) rfl ⟨rfl, ((Below.refl _ _).alloc (Nat.le_refl _) _).alloc (by simp) _⟩
      · have hlt3 : 3 < l.length := by omega
        have h4' : 4 ≤ (l.length : Int) := by omega
        obtain ⟨d, hd3, hx3, -⟩ := byte_at l 3 hlt3
        by_cases hd39 : d = 39
        · have u39 : ((d.toNat : Int) == 39) = true := byte_eq hd39
          have u39' : ((d.toNat : Int) != 39) = false := by rw [bne, u39]; rfl
          have hr := HR4.out
          rw [hd3, if_pos (by rw [hd39]; rfl)] at hr
          have HR5 := Lib.hid hr
          clear hr HR4 hd39 hd3 h4
          go_enter Try.func43, Try.ntmps43
          go_wp2_with fail
          rw [← HR5.out]
          refine bodyPost_ret (v := tryV (some (some ⟨3, 39, [], 4⟩))) (by simp [results, Try.results43, go_sem, tryV, tokV, digT]) rfl ⟨rfl, ((Below.refl _ _).alloc (Nat.le_refl _) _).alloc (by simp) _⟩
        · have u39 : ((d.toNat : Int) == 39) = false := byte_ne hd39
          have u39' : ((d.toNat : Int) != 39) = true := by rw [bne, u39]; rfl
          have hr := HR4.out
          rw [hd3, if_neg (by simpa using hd39)] at hr
          have HR5 := Lib.hid hr
          clear hr HR4 hd39 hd3 h4
          go_enter Try.func43, Try.ntmps43
          go_wp2_with fail
          rw [← HR5.out]
          refine bodyPost_ret (v := tryV (some none)) (by simp [results, Try.results43, go_sem, tryV, tokV, digT]) rfl ⟨rfl, ((Below.refl _ _).alloc (Nat.le_refl _) _).alloc (by simp) _⟩
    · have t39 : ((c.toNat : Int) == 39) = false := byte_ne h39
      have t39' : ((c.toNat : Int) != 39) = true := by rw [bne, t39]; rfl
      have hr := HR3.out
      rw [if_neg h39] at hr
      have HR4 := Lib.hid hr
      clear hr HR3 h39
      by_cases h92 : c = 92
      · have t92 : ((c.toNat : Int) == 92) = true := byte_eq h92
        have t92' : ((c.toNat : Int) != 92) = false := by rw [bne, t92]; rfl
        have hr := HR4.out
        rw [if_pos h92] at hr
        have HR5 := Lib.hid hr
        by_cases h4 : (l.length : Int) < 4
        · have hr := HR5.out
          rw [List.drop_eq_nil_of_le (by omega), charSlash] at hr
          have HR6 := Lib.hid hr
          clear hr HR5 HR4 h92
          go_enter Try.func43, Try.ntmps43
          go_wp2_with fail
          rw [← HR6.out]
          refine bodyPost_ret (v := tryV (some none)) (by simp [results, Try.results43, go_sem, tryV, tokV, digT]) rfl ⟨rfl, ((Below.refl _ _).alloc (Nat.le_refl _) _).alloc (by simp) _⟩
        · have hlt3 : 3 < l.length := by omega
          have h4' : 4 ≤ (l.length : Int) := by omega
          obtain ⟨d, hd3, hx3, -⟩ := byte_at l 3 hlt3
          have hs : (⟨l.toArray⟩ : ByteArray).extract 2 4 = ⟨[c, d].toArray⟩ := by
            obtain ⟨c2, hd2, hx2', -⟩ := byte_at l 2 hlt2
            have e : c2 = c := hx2'.symm.trans hx2
            rw [slice_mid, hd2, e, hd3]
            rfl
          have happ : (⟨[c, d].toArray⟩ : ByteArray) ++ ⟨#[39]⟩ = ⟨[92, d, 39].toArray⟩ := by rw [h92]; rfl
          have hr := HR5.out
          rw [hd3, charSlash] at hr
          have HR6 := Lib.hid hr
          clear hr HR5 HR4 h92 hd3 h4
          go_enter Try.func43, Try.ntmps43
          go_wp2_with fail
          refine (get_any _ [92, d, 39] 39 39 rfl (by simp)).mono ?_
          rintro e w1 ⟨rfl, hb⟩
          obtain ⟨hA, hB⟩ := below_two hb
          obtain ⟨⟨a0, a1, a2, a3, a4, a5⟩, hfa⟩ := six_cells hA
          obtain ⟨⟨b0, b1, b2, b3, b4, b5⟩, hfb⟩ := six_cells hB
          have hz : w.heap.size + 2 ≤ w1.heap.size := by have := hb.size; simp at this; omega
          have HB := Lib.hid hb
          clear hb hr hs happ hA hB
          generalize getQ 39 [92, d, 39] = G at *
          cases G with
          | none =>
            simp only [getRes]
            go_wp2_with fail
            rw [← HR6.out]
            refine bodyPost_ret (v := tryV (some none)) (by simp [results, Try.results43, go_sem, tryV, tokV, digT, slashRes, a0, a1, a2, a3, a4, a5]) rfl ⟨rfl, ?_⟩
            repeat (refine Below.setCell ?_ (by simp) _)
            exact ((((Below.refl _ _).alloc (Nat.le_refl _) _).alloc (by simp) _).trans (HB.out.mono (by simp; omega)))
          | some x =>
            obtain ⟨t, n⟩ := x
            simp only [getRes]
            by_cases hn3 : n = 3
            · subst hn3
              match t with
              | [b] =>
                have hb8 : (b.toNat : Int) < 256 := by have := b.toNat_lt; omega
                have hx0 : (⟨#[b]⟩ : ByteArray)[0]'(by show 0 < 1; omega) = b := rfl
                go_wp2_with fail
                rw [← HR6.out]
                refine bodyPost_ret (v := tryV (some (some ⟨3, (b.toNat : Int), [], 4⟩))) (by simp [results, Try.results43, go_sem, tryV, tokV, digT, slashRes, a0, a1, a2, a3, a4, a5]) rfl ⟨rfl, ?_⟩
                repeat (refine Below.setCell ?_ (by simp) _)
                exact ((((Below.refl _ _).alloc (Nat.le_refl _) _).alloc (by simp) _).trans (HB.out.mono (by simp; omega)))
              | [] =>
                go_wp2_with fail
                rw [← HR6.out]
                refine bodyPost_ret (v := tryV (some none)) (by simp [results, Try.results43, go_sem, tryV, tokV, digT, slashRes, a0, a1, a2, a3, a4, a5]) rfl ⟨rfl, ?_⟩
                repeat (refine Below.setCell ?_ (by simp) _)
                exact ((((Below.refl _ _).alloc (Nat.le_refl _) _).alloc (by simp) _).trans (HB.out.mono (by simp; omega)))
              | b :: b' :: r =>
                have hr2 : slashRes (some (b :: b' :: r, 3)) = none := rfl
                have t2 : (((r.length : Int) + 1 + 1) != 1) = true := by rw [bne_iff_ne]; omega
                rw [hr2] at HR6
                clear hr2
                go_wp2_with fail
                rw [← HR6.out]
                refine bodyPost_ret (v := tryV (some none)) (by simp [results, Try.results43, go_sem, tryV, tokV, digT, slashRes, a0, a1, a2, a3, a4, a5]) rfl ⟨rfl, ?_⟩
                repeat (refine Below.setCell ?_ (by simp) _)
                exact ((((Below.refl _ _).alloc (Nat.le_refl _) _).alloc (by simp) _).trans (HB.out.mono (by simp; omega)))
            · have hr2 : slashRes (some (t, n)) = none := by
                unfold slashRes
                split
                · rename_i h
                  simp only [Option.some.injEq, Prod.mk.injEq] at h
                  exact absurd h.2 hn3
                · rfl
              have t3 : ((n : Int) != 3) = true := by rw [bne_iff_ne]; omega
              rw [hr2] at HR6
              clear hr2
              go_wp2_with fail
              rw [← HR6.out]
              refine bodyPost_ret (v := tryV (some none)) (by simp [results, Try.results43, go_sem, tryV, tokV, digT, slashRes, a0, a1, a2, a3, a4, a5]) rfl ⟨rfl, ?_⟩
              repeat (refine Below.setCell ?_ (by simp) _)
              exact ((((Below.refl _ _).alloc (Nat.le_refl _) _).alloc (by simp) _).trans (HB.out.mono (by simp; omega)))
      · have t92 : ((c.toNat : Int) == 92) = false := byte_ne h92
        have t92' : ((c.toNat : Int) != 92) = true := by rw [bne, t92]; rfl
        have hr := HR4.out
        rw [if_neg h92] at hr
        have HR5 := Lib.hid hr
        clear hr HR4 h92
        have hc8 : (c.toNat : Int) < 256 := by have := c.toNat_lt; omega
        go_enter Try.func43, Try.ntmps43
        go_wp2_with fail
        rw [← HR5.out]
        refine bodyPost_ret (v := tryV (some (some ⟨3, (c.toNat : Int), [], 3⟩))) (by simp [results, Try.results43, go_sem, tryV, tokV, digT]) rfl ⟨rfl, ((Below.refl _ _).alloc (Nat.le_refl _) _).alloc (by simp) _⟩
end Go.Proofs.Ytpiekfkkhgighaa
