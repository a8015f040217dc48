/-
  What the lexer's functions answer: a number, a text in quotes, a clause's end, or none of that sort. No condition but the sizes that are named.
-/
import Derived.Test.YtpiekfkkhgighaaTokW2
namespace Go.Proofs.Ytpiekfkkhgighaa
open Go.RowKit
set_option maxRecDepth 100000

theorem below_one {w w1 : World} {o1 : Obj} (hb : Below (w.alloc o1).heap.size (w.alloc o1) w1) : w1.heap[w.heap.size]? = some o1 := by
  rw [hb.block _ (by simp)]
  exact heap_alloc_new w o1
theorem numberF_far {l : List UInt8} {c : UInt8} {r : List UInt8} (h : l = c :: r) (hc : c ≠ 48 ∨ r = []) : numberF l = digitsF 10 l 0 := by
  subst h
  unfold numberF
  have hn : ∀ x : UInt8, ¬ ((c :: r).head? = some 48 ∧ (c :: r).tail.head? = some x) := by
    rintro x ⟨h1, h2⟩
    rcases hc with h | h
    · exact h (Option.some.inj h1)
    · subst h
      cases h2
  rw [if_neg (hn _), if_neg (hn _), if_neg (hn _), if_neg (hn _)]
theorem numberF_near {l : List UInt8} {d : UInt8} {r : List UInt8} (h : l = 48 :: d :: r) : numberF l = if d = 120 then digitsF 16 l 2 else if d = 111 then digitsF 8 l 2 else if d = 98 then digitsF 2 l 2 else if d = 39 then charF l else digitsF 10 l 0 := by
  subst h
  unfold numberF
  simp only [List.head?_cons, List.tail_cons, Option.some.injEq, true_and]

set_option maxHeartbeats 2000000 in
theorem number_any (w : World) (xv : Value) (l : List UInt8) (c : UInt8) (r : List UInt8) (hlc : l = c :: r) (hl : (l.length : Int) ≤ 1000000) :
    Calls Try.prog 20 #[xv, .string ⟨l.toArray⟩] w fun e w' => e = .returned (tryV (if bsort c = 4 then some ((numberF l).map digT) else none)) ∧ Below w.heap.size w w' := by
  have hlen : 0 < l.length := by rw [hlc]; simp
  have hx : (⟨l.toArray⟩ : ByteArray)[0]'(by show 0 < l.toArray.size; simpa using hlen) = c := by subst hlc; rfl
  by_cases h4 : bsort c = 4
  · rw [if_pos h4]
    generalize hR : (some ((numberF l).map digT)) = R
    have HR := Lib.hid hR
    clear hR
    by_cases h1 : (l.length : Int) ≤ 1
    · have h1' : (1 : Int) < (l.length : Int) → False := by omega
      have hr := HR.out
      rw [numberF_far hlc (.inr (List.eq_nil_of_length_eq_zero (by rw [hlc] at h1; simp at h1; omega)))] at hr
      have HR2 := Lib.hid hr
      clear hr HR hlc h1'
      by_cases hc48 : c = 48
      · have t48 : ((c.toNat : Int) == 48) = true := byte_eq hc48
        have t1 : decide ((1 : Int) < (l.length : Int)) = false := decide_eq_false (by omega)
        clear hc48
        go_enter Try.func20, Try.ntmps20
        go_wp2_with fail
        refine (sort_byte _ c).mono ?_
        rintro e w' ⟨rfl, rfl⟩
        go_wp2_with fail
        refine (digits_any _ l 0 0 10 rfl (Nat.zero_le _) (.inr (.inr (.inl rfl))) hl).mono ?_
        rintro e w1 ⟨rfl, hb⟩
        have hA := below_one hb
        obtain ⟨⟨a0, a1, a2, a3, a4, a5⟩, hfa⟩ := six_cells hA
        have hz : w.heap.size < w1.heap.size := by have := hb.size; simp at this; omega
        have HB := Lib.hid hb
        clear hb hA
        simp only [Int.reduceToNat]
        generalize digitsF 10 l 0 = G at *
        cases G with
        | none =>
          simp only [Option.map_none, tryV, tokV]
          go_wp2_with fail
          rw [← HR2.out]
          refine bodyPost_ret (v := tryV (some none)) (by simp [results, Try.results20, go_sem, tryV, tokV, a0, a1, a2, a3, a4, a5]) rfl ⟨rfl, ?_⟩
          repeat (refine Below.setCell ?_ (by simp) _)
          exact (((Below.refl _ _).alloc (Nat.le_refl _) _).trans (HB.out.mono (by simp)))
        | some x =>
          obtain ⟨x1, x2⟩ := x
          simp only [Option.map_some, tryV, tokV]
          go_wp2_with fail
          rw [← HR2.out]
          refine bodyPost_ret (v := tryV (some (some ⟨3, x1, [], x2⟩))) (by simp [results, Try.results20, go_sem, tryV, tokV, a0, a1, a2, a3, a4, a5, digT]) rfl ⟨rfl, ?_⟩
          repeat (refine Below.setCell ?_ (by simp) _)
          exact (((Below.refl _ _).alloc (Nat.le_refl _) _).trans (HB.out.mono (by simp)))
      · have t48 : ((c.toNat : Int) == 48) = false := byte_ne hc48
        clear hc48
        go_enter Try.func20, Try.ntmps20
        go_wp2_with fail
        refine (sort_byte _ c).mono ?_
        rintro e w' ⟨rfl, rfl⟩
        go_wp2_with fail
        refine (digits_any _ l 0 0 10 rfl (Nat.zero_le _) (.inr (.inr (.inl rfl))) hl).mono ?_
        rintro e w1 ⟨rfl, hb⟩
        have hA := below_one hb
        obtain ⟨⟨a0, a1, a2, a3, a4, a5⟩, hfa⟩ := six_cells hA
        have hz : w.heap.size < w1.heap.size := by have := hb.size; simp at this; omega
        have HB := Lib.hid hb
        clear hb hA
        simp only [Int.reduceToNat]
        generalize digitsF 10 l 0 = G at *
        cases G with
        | none =>
          simp only [Option.map_none, tryV, tokV]
          go_wp2_with fail
          rw [← HR2.out]
          refine bodyPost_ret (v := tryV (some none)) (by simp [results, Try.results20, go_sem, tryV, tokV, a0, a1, a2, a3, a4, a5]) rfl ⟨rfl, ?_⟩
          repeat (refine Below.setCell ?_ (by simp) _)
          exact (((Below.refl _ _).alloc (Nat.le_refl _) _).trans (HB.out.mono (by simp)))
        | some x =>
          obtain ⟨x1, x2⟩ := x
          simp only [Option.map_some, tryV, tokV]
          go_wp2_with fail
          rw [← HR2.out]
          refine bodyPost_ret (v := tryV (some (some ⟨3, x1, [], x2⟩))) (by simp [results, Try.results20, go_sem, tryV, tokV, a0, a1, a2, a3, a4, a5, digT]) rfl ⟨rfl, ?_⟩
          repeat (refine Below.setCell ?_ (by simp) _)
          exact (((Below.refl _ _).alloc (Nat.le_refl _) _).trans (HB.out.mono (by simp)))
    · have h1l : 1 < l.length := by omega
      have h1' : (1 : Int) < (l.length : Int) := by omega
      obtain ⟨d, hd, hx1, -⟩ := byte_at l 1 h1l
      by_cases hc48 : c = 48
      · have t48 : ((c.toNat : Int) == 48) = true := byte_eq hc48
        have hr := HR.out
        have hl2 : l = 48 :: d :: l.drop (1 + 1) := by
          rw [← hd, hlc, hc48]
          rfl
        rw [numberF_near hl2] at hr
        have HR2 := Lib.hid hr
        clear hr HR hlc hl2 hc48 hd
        by_cases h120 : d = 120
        · have u120 : ((d.toNat : Int) == 120) = true := byte_eq h120
          have hr := HR2.out
          rw [if_pos h120] at hr
          have HR3 := Lib.hid hr
          clear hr HR2 h120
          go_enter Try.func20, Try.ntmps20
          go_wp2_with fail
          refine (sort_byte _ c).mono ?_
          rintro e w' ⟨rfl, rfl⟩
          go_wp2_with fail
          refine (digits_any _ l 2 2 16 rfl (by omega) (.inr (.inr (.inr rfl))) hl).mono ?_
          rintro e w1 ⟨rfl, hb⟩
          have hA := below_one hb
          obtain ⟨⟨a0, a1, a2, a3, a4, a5⟩, hfa⟩ := six_cells hA
          have hz : w.heap.size < w1.heap.size := by have := hb.size; simp at this; omega
          have HB := Lib.hid hb
          clear hb hA
          simp only [Int.reduceToNat]
          generalize digitsF 16 l 2 = G at *
          cases G with
          | none =>
            simp only [Option.map_none, tryV, tokV]
            go_wp2_with fail
            rw [← HR3.out]
            refine bodyPost_ret (v := tryV (some none)) (by simp [results, Try.results20, go_sem, tryV, tokV, a0, a1, a2, a3, a4, a5]) rfl ⟨rfl, ?_⟩
            repeat (refine Below.setCell ?_ (by simp) _)
            exact (((Below.refl _ _).alloc (Nat.le_refl _) _).trans (HB.out.mono (by simp)))
          | some x =>
            obtain ⟨x1, x2⟩ := x
            simp only [Option.map_some, tryV, tokV]
            go_wp2_with fail
            rw [← HR3.out]
            refine bodyPost_ret (v := tryV (some (some ⟨3, x1, [], x2⟩))) (by simp [results, Try.results20, go_sem, tryV, tokV, a0, a1, a2, a3, a4, a5, digT]) rfl ⟨rfl, ?_⟩
            repeat (refine Below.setCell ?_ (by simp) _)
            exact (((Below.refl _ _).alloc (Nat.le_refl _) _).trans (HB.out.mono (by simp)))
        have u120 : ((d.toNat : Int) == 120) = false := byte_ne h120
        have hr := HR2.out
        rw [if_neg h120] at hr
        have HR4 := Lib.hid hr
        clear hr HR2 h120
        by_cases h111 : d = 111
        · have u111 : ((d.toNat : Int) == 111) = true := byte_eq h111
          have hr := HR4.out
          rw [if_pos h111] at hr
          have HR5 := Lib.hid hr
          clear hr HR4 h111
          go_enter Try.func20, Try.ntmps20
          go_wp2_with fail
          refine (sort_byte _ c).mono ?_
          rintro e w' ⟨rfl, rfl⟩
          go_wp2_with fail
          refine (digits_any _ l 2 2 8 rfl (by omega) (.inr (.inl rfl)) hl).mono ?_
          rintro e w1 ⟨rfl, hb⟩
          have hA := below_one hb
          obtain ⟨⟨a0, a1, a2, a3, a4, a5⟩, hfa⟩ := six_cells hA
          have hz : w.heap.size < w1.heap.size := by have := hb.size; simp at this; omega
          have HB := Lib.hid hb
          clear hb hA
          simp only [Int.reduceToNat]
          generalize digitsF 8 l 2 = G at *
          cases G with
          | none =>
            simp only [Option.map_none, tryV, tokV]
            go_wp2_with fail
            rw [← HR5.out]
            refine bodyPost_ret (v := tryV (some none)) (by simp [results, Try.results20, go_sem, tryV, tokV, a0, a1, a2, a3, a4, a5]) rfl ⟨rfl, ?_⟩
            repeat (refine Below.setCell ?_ (by simp) _)
            exact (((Below.refl _ _).alloc (Nat.le_refl _) _).trans (HB.out.mono (by simp)))
          | some x =>
            obtain ⟨x1, x2⟩ := x
            simp only [Option.map_some, tryV, tokV]
            go_wp2_with fail
            rw [← HR5.out]
            refine bodyPost_ret (v := tryV (some (some ⟨3, x1, [], x2⟩))) (by simp [results, Try.results20, go_sem, tryV, tokV, a0, a1, a2, a3, a4, a5, digT]) rfl ⟨rfl, ?_⟩
            repeat (refine Below.setCell ?_ (by simp) _)
            exact (((Below.refl _ _).alloc (Nat.le_refl _) _).trans (HB.out.mono (by simp)))
        have u111 : ((d.toNat : Int) == 111) = false := byte_ne h111
        have hr := HR4.out
        rw [if_neg h111] at hr
        have HR6 := Lib.hid hr
        clear hr HR4 h111
        by_cases h98 : d = 98
        · have u98 : ((d.toNat : Int) == 98) = true := byte_eq h98
          have hr := HR6.out
          rw [if_pos h98] at hr
          have HR7 := Lib.hid hr
          clear hr HR6 h98
          go_enter Try.func20, Try.ntmps20
          go_wp2_with fail
          refine (sort_byte _ c).mono ?_
          rintro e w' ⟨rfl, rfl⟩
          go_wp2_with fail
          refine (digits_any _ l 2 2 2 rfl (by omega) (.inl rfl) hl).mono ?_
          rintro e w1 ⟨rfl, hb⟩
          have hA := below_one hb
          obtain ⟨⟨a0, a1, a2, a3, a4, a5⟩, hfa⟩ := six_cells hA
          have hz : w.heap.size < w1.heap.size := by have := hb.size; simp at this; omega
          have HB := Lib.hid hb
          clear hb hA
          simp only [Int.reduceToNat]
          generalize digitsF 2 l 2 = G at *
          cases G with
          | none =>
            simp only [Option.map_none, tryV, tokV]
            go_wp2_with fail
            rw [← HR7.out]
            refine bodyPost_ret (v := tryV (some none)) (by simp [results, Try.results20, go_sem, tryV, tokV, a0, a1, a2, a3, a4, a5]) rfl ⟨rfl, ?_⟩
            repeat (refine Below.setCell ?_ (by simp) _)
            exact (((Below.refl _ _).alloc (Nat.le_refl _) _).trans (HB.out.mono (by simp)))
          | some x =>
            obtain ⟨x1, x2⟩ := x
            simp only [Option.map_some, tryV, tokV]
            go_wp2_with fail
            rw [← HR7.out]
            refine bodyPost_ret (v := tryV (some (some ⟨3, x1, [], x2⟩))) (by simp [results, Try.results20, go_sem, tryV, tokV, a0, a1, a2, a3, a4, a5, digT]) rfl ⟨rfl, ?_⟩
            repeat (refine Below.setCell ?_ (by simp) _)
            exact (((Below.refl _ _).alloc (Nat.le_refl _) _).trans (HB.out.mono (by simp)))
        have u98 : ((d.toNat : Int) == 98) = false := byte_ne h98
        have hr := HR6.out
        rw [if_neg h98] at hr
        have HR8 := Lib.hid hr
        clear hr HR6 h98
        by_cases h39 : d = 39
        · have u39 : ((d.toNat : Int) == 39) = true := byte_eq h39
          have hr := HR8.out
          rw [if_pos h39] at hr
          have HRa := Lib.hid hr
          clear hr HR8 h39
          go_enter Try.func20, Try.ntmps20
          go_wp2_with fail
          refine (sort_byte _ c).mono ?_
          rintro e w' ⟨rfl, rfl⟩
          go_wp2_with fail
          refine (char_any _ l hl).mono ?_
          rintro e w1 ⟨rfl, hb⟩
          have hA := below_one hb
          obtain ⟨⟨a0, a1, a2, a3, a4, a5⟩, hfa⟩ := six_cells hA
          have hz : w.heap.size < w1.heap.size := by have := hb.size; simp at this; omega
          have HB := Lib.hid hb
          clear hb hA
          generalize charF l = G at *
          cases G with
          | none =>
            simp only [Option.map_none, tryV, tokV]
            go_wp2_with fail
            rw [← HRa.out]
            refine bodyPost_ret (v := tryV (some none)) (by simp [results, Try.results20, go_sem, tryV, tokV, a0, a1, a2, a3, a4, a5]) rfl ⟨rfl, ?_⟩
            repeat (refine Below.setCell ?_ (by simp) _)
            exact (((Below.refl _ _).alloc (Nat.le_refl _) _).trans (HB.out.mono (by simp)))
          | some x =>
            obtain ⟨x1, x2⟩ := x
            simp only [Option.map_some, tryV, tokV]
            go_wp2_with fail
            rw [← HRa.out]
            refine bodyPost_ret (v := tryV (some (some ⟨3, x1, [], x2⟩))) (by simp [results, Try.results20, go_sem, tryV, tokV, a0, a1, a2, a3, a4, a5, digT]) rfl ⟨rfl, ?_⟩
            repeat (refine Below.setCell ?_ (by simp) _)
            exact (((Below.refl _ _).alloc (Nat.le_refl _) _).trans (HB.out.mono (by simp)))
        · have u39 : ((d.toNat : Int) == 39) = false := byte_ne h39
          have hr := HR8.out
          rw [if_neg h39] at hr
          have HRa := Lib.hid hr
          clear hr HR8 h39
          go_enter Try.func20, Try.ntmps20
          go_wp2_with fail
          refine (sort_byte _ c).mono ?_
          rintro e w' ⟨rfl, rfl⟩
          go_wp2_with fail
          refine (digits_any _ l 0 0 10 rfl (Nat.zero_le _) (.inr (.inr (.inl rfl))) hl).mono ?_
          rintro e w1 ⟨rfl, hb⟩
          have hA := below_one hb
          obtain ⟨⟨a0, a1, a2, a3, a4, a5⟩, hfa⟩ := six_cells hA
          have hz : w.heap.size < w1.heap.size := by have := hb.size; simp at this; omega
          have HB := Lib.hid hb
          clear hb hA
          simp only [Int.reduceToNat]
          generalize digitsF 10 l 0 = G at *
          cases G with
          | none =>
            simp only [Option.map_none, tryV, tokV]
            go_wp2_with fail
            rw [← HRa.out]
            refine bodyPost_ret (v := tryV (some none)) (by simp [results, Try.results20, go_sem, tryV, tokV, a0, a1, a2, a3, a4, a5]) rfl ⟨rfl, ?_⟩
            repeat (refine Below.setCell ?_ (by simp) _)
            exact (((Below.refl _ _).alloc (Nat.le_refl _) _).trans (HB.out.mono (by simp)))
          | some x =>
            obtain ⟨x1, x2⟩ := x
            simp only [Option.map_some, tryV, tokV]
            go_wp2_with fail
            rw [← HRa.out]
            refine bodyPost_ret (v := tryV (some (some ⟨3, x1, [], x2⟩))) (by simp [results, Try.results20, go_sem, tryV, tokV, a0, a1, a2, a3, a4, a5, digT]) rfl ⟨rfl, ?_⟩
            repeat (refine Below.setCell ?_ (by simp) _)
            exact (((Below.refl _ _).alloc (Nat.le_refl _) _).trans (HB.out.mono (by simp)))
      · have t48 : ((c.toNat : Int) == 48) = false := byte_ne hc48
        have hr := HR.out
        rw [numberF_far hlc (.inl hc48)] at hr
        have HR2 := Lib.hid hr
        clear hr HR hlc hc48 hd
        go_enter Try.func20, Try.ntmps20
        go_wp2_with fail
        refine (sort_byte _ c).mono ?_
        rintro e w' ⟨rfl, rfl⟩
        go_wp2_with fail
        refine (digits_any _ l 0 0 10 rfl (Nat.zero_le _) (.inr (.inr (.inl rfl))) hl).mono ?_
        rintro e w1 ⟨rfl, hb⟩
        have hA := below_one hb
        obtain ⟨⟨a0, a1, a2, a3, a4, a5⟩, hfa⟩ := six_cells hA
        have hz : w.heap.size < w1.heap.size := by have := hb.size; simp at this; omega
        have HB := Lib.hid hb
        clear hb hA
        simp only [Int.reduceToNat]
        generalize digitsF 10 l 0 = G at *
        cases G with
        | none =>
          simp only [Option.map_none, tryV, tokV]
          go_wp2_with fail
          rw [← HR2.out]
          refine bodyPost_ret (v := tryV (some none)) (by simp [results, Try.results20, go_sem, tryV, tokV, a0, a1, a2, a3, a4, a5]) rfl ⟨rfl, ?_⟩
          repeat (refine Below.setCell ?_ (by simp) _)
          exact (((Below.refl _ _).alloc (Nat.le_refl _) _).trans (HB.out.mono (by simp)))
        | some x =>
          obtain ⟨x1, x2⟩ := x
          simp only [Option.map_some, tryV, tokV]
          go_wp2_with fail
          rw [← HR2.out]
          refine bodyPost_ret (v := tryV (some (some ⟨3, x1, [], x2⟩))) (by simp [results, Try.results20, go_sem, tryV, tokV, a0, a1, a2, a3, a4, a5, digT]) rfl ⟨rfl, ?_⟩
          repeat (refine Below.setCell ?_ (by simp) _)
          exact (((Below.refl _ _).alloc (Nat.le_refl _) _).trans (HB.out.mono (by simp)))
  · rw [if_neg h4]
    have t4 : (bsort c != 4) = true := by rw [bne_iff_ne]; exact h4
    clear h4 hlc
    go_enter Try.func20, Try.ntmps20
    go_wp2_with fail
    refine (sort_byte _ c).mono ?_
    rintro e w' ⟨rfl, rfl⟩
    go_wp2_with fail
    refine bodyPost_ret (v := tryV none) (by simp [results, Try.results20, go_sem, tryV, tokV]) rfl ⟨rfl, ?_⟩
    repeat (refine Below.setCell ?_ (by simp) _)
    exact (Below.refl _ _).alloc (Nat.le_refl _) _
end Go.Proofs.Ytpiekfkkhgighaa
