import Derived.Test.YtmgidfndifhcoaaDoorJReadBrackets21
import Derived.Test.YtmgidfndifhcoaaDoorJReadBrackets02
/-
  What the lexer answers of a byte that is told behind 0 and a quote. No condition but the sizes that are named.
-/
namespace Go.Proofs.YtmgidfndifhcoaaDoor
open Go.RowKit
set_option maxRecDepth 100000

theorem bcell {W w1 : World} (hb : Below W.heap.size W w1) : (∀ b o, b < W.heap.size → w1.cell? ⟨b, o, none⟩ = W.cell? ⟨b, o, none⟩) ∧ (∀ b o, b < W.heap.size → w1.frozen? ⟨b, o, none⟩ = W.frozen? ⟨b, o, none⟩) :=
  ⟨fun b o h => hb.cell (p := ⟨b, o, none⟩) h, fun b o h => hb.frozen (p := ⟨b, o, none⟩) h⟩
theorem six_cells {w1 : World} {b : Nat} {a0 a1 a2 a3 a4 a5 : Value} {t : TypeId} (h : w1.heap[b]? = some (.cells #[a0, a1, a2, a3, a4, a5] t (0, 0))) :
    (w1.cell? ⟨b, 0, none⟩ = some a0 ∧ w1.cell? ⟨b, 1, none⟩ = some a1 ∧ w1.cell? ⟨b, 2, none⟩ = some a2 ∧ w1.cell? ⟨b, 3, none⟩ = some a3 ∧ w1.cell? ⟨b, 4, none⟩ = some a4 ∧ w1.cell? ⟨b, 5, none⟩ = some a5) ∧ (∀ o, w1.frozen? ⟨b, o, none⟩ = false) := by
  have hf : ∀ o, w1.frozen? ⟨b, o, none⟩ = false := fun o => by simp [World.frozen?, h]
  exact ⟨⟨by rw [cell_of_row w1 b 0 _ t (0, 0) h]; rfl, by rw [cell_of_row w1 b 1 _ t (0, 0) h]; rfl, by rw [cell_of_row w1 b 2 _ t (0, 0) h]; rfl, by rw [cell_of_row w1 b 3 _ t (0, 0) h]; rfl, by rw [cell_of_row w1 b 4 _ t (0, 0) h]; rfl, by rw [cell_of_row w1 b 5 _ t (0, 0) h]; rfl⟩, hf⟩
theorem below_two {w w1 : World} {o1 o2 : Obj} (hb : Below ((w.alloc o1).alloc o2).heap.size ((w.alloc o1).alloc o2) w1) : w1.heap[w.heap.size]? = some o1 ∧ w1.heap[w.heap.size + 1]? = some o2 := by
  have e1 : ((w.alloc o1).alloc o2).heap.size = w.heap.size + 1 + 1 := by simp
  have e2 : (w.alloc o1).heap.size = w.heap.size + 1 := by simp
  refine ⟨?_, ?_⟩
  · rw [hb.block _ (by omega), Below.heap_alloc _ _ _ (by omega)]
    exact heap_alloc_new w o1
  · rw [hb.block _ (by omega), ← e2]
    exact heap_alloc_new (w.alloc o1) o2
def digT (x : Int × Nat) : TokIs := ⟨3, x.1, [], x.2⟩
theorem charF_short {l : List UInt8} (h : l.length < 3) : charF l = none := by
  match l, h with
  | [], _ => rfl
  | [_], _ => rfl
  | [_, _], _ => rfl
theorem charF_at {l : List UInt8} {c : UInt8} {r : List UInt8} (h : l.drop 2 = c :: r) : charF l = charAt2 c r := by
  match l, h with
  | _ :: _ :: _, h => rw [List.drop_succ_cons, List.drop_succ_cons, List.drop_zero] at h; subst h; rfl
  | [_], h => cases h
  | [], h => cases h

set_option maxHeartbeats 2000000 in
theorem char_any (w : World) (l : List UInt8) (hl : (l.length : Int) ≤ 1000000) :
    Calls Tryd.prog 48 #[.string ⟨l.toArray⟩] w fun e w' => e = .returned (tryV (some ((charF l).map digT))) ∧ Below w.heap.size w w' := by
  generalize hR : (some ((charF l).map digT)) = R
  have HR := Lib.hid hR
  clear hR
  by_cases h3 : (l.length : Int) < 3
  · have hr := HR.out
    rw [charF_short (by omega)] at hr
    have HR2 := Lib.hid hr
    clear hr HR
    go_enter Tryd.func48, Tryd.ntmps48
    go_wp2_with fail
    rw [← HR2.out]
    refine bodyPost_ret (v := tryV (some none)) (by simp [results, Tryd.results48, go_sem, tryV, tokV]) rfl ⟨rfl, ((Below.refl _ _).alloc (Nat.le_refl _) _).alloc (by simp) _⟩
  · have hlt2 : 2 < l.length := by omega
    have h3' : 3 ≤ (l.length : Int) := by omega
    obtain ⟨c, hd, hx2, -⟩ := byte_at l 2 hlt2
    have hr := HR.out
    rw [charF_at hd, charAt2] at hr
    have HR2 := Lib.hid hr
    clear hr HR hd h3
    by_cases h10 : c = 10
    · have t10 : ((c.toNat : Int) == 10) = true := byte_eq h10
      have hr := HR2.out
      rw [if_pos h10] at hr
      have HR3 := Lib.hid hr
      clear hr HR2 h10
      go_enter Tryd.func48, Tryd.ntmps48
      go_wp2_with fail
      rw [← HR3.out]
      refine bodyPost_ret (v := tryV (some none)) (by simp [results, Tryd.results48, go_sem, tryV, tokV]) rfl ⟨rfl, ((Below.refl _ _).alloc (Nat.le_refl _) _).alloc (by simp) _⟩
    have t10 : ((c.toNat : Int) == 10) = false := byte_ne h10
    have hr := HR2.out
    rw [if_neg h10] at hr
    have HR3 := Lib.hid hr
    clear hr HR2 h10
    by_cases h39 : c = 39
    · have t39 : ((c.toNat : Int) == 39) = true := byte_eq h39
      have t39' : ((c.toNat : Int) != 39) = false := by rw [bne, t39]; rfl
      have hr := HR3.out
      rw [if_pos h39] at hr
      have HR4 := Lib.hid hr
      clear hr HR3 h39
      by_cases h4 : (l.length : Int) < 4
      · have hr := HR4.out
        rw [if_neg (by rw [List.drop_eq_nil_of_le (by omega)]; simp)] at hr
        have HR5 := Lib.hid hr
        clear hr HR4
        go_enter Tryd.func48, Tryd.ntmps48
        go_wp2_with fail
        rw [← HR5.out]
        refine bodyPost_ret (v := tryV (some none)) (by simp [results, Tryd.results48, go_sem, tryV, tokV]) rfl ⟨rfl, ((Below.refl _ _).alloc (Nat.le_refl _) _).alloc (by simp) _⟩
      · have hlt3 : 3 < l.length := by omega
        have h4' : 4 ≤ (l.length : Int) := by omega
        obtain ⟨d, hd3, hx3, -⟩ := byte_at l 3 hlt3
        by_cases hd39 : d = 39
        · have u39 : ((d.toNat : Int) == 39) = true := byte_eq hd39
          have u39' : ((d.toNat : Int) != 39) = false := by rw [bne, u39]; rfl
          have hr := HR4.out
          rw [hd3, if_pos (by rw [hd39]; rfl)] at hr
          have HR5 := Lib.hid hr
          clear hr HR4 hd39 hd3 h4
          go_enter Tryd.func48, Tryd.ntmps48
          go_wp2_with fail
          rw [← HR5.out]
          refine bodyPost_ret (v := tryV (some (some ⟨3, 39, [], 4⟩))) (by simp [results, Tryd.results48, go_sem, tryV, tokV, digT]) rfl ⟨rfl, ((Below.refl _ _).alloc (Nat.le_refl _) _).alloc (by simp) _⟩
        · have u39 : ((d.toNat : Int) == 39) = false := byte_ne hd39
          have u39' : ((d.toNat : Int) != 39) = true := by rw [bne, u39]; rfl
          have hr := HR4.out
          rw [hd3, if_neg (by simpa using hd39)] at hr
          have HR5 := Lib.hid hr
          clear hr HR4 hd39 hd3 h4
          go_enter Tryd.func48, Tryd.ntmps48
          go_wp2_with fail
          rw [← HR5.out]
          refine bodyPost_ret (v := tryV (some none)) (by simp [results, Tryd.results48, go_sem, tryV, tokV, digT]) rfl ⟨rfl, ((Below.refl _ _).alloc (Nat.le_refl _) _).alloc (by simp) _⟩
    · have t39 : ((c.toNat : Int) == 39) = false := byte_ne h39
      have t39' : ((c.toNat : Int) != 39) = true := by rw [bne, t39]; rfl
      have hr := HR3.out
      rw [if_neg h39] at hr
      have HR4 := Lib.hid hr
      clear hr HR3 h39
      by_cases h92 : c = 92
      · have t92 : ((c.toNat : Int) == 92) = true := byte_eq h92
        have t92' : ((c.toNat : Int) != 92) = false := by rw [bne, t92]; rfl
        have hr := HR4.out
        rw [if_pos h92] at hr
        have HR5 := Lib.hid hr
        by_cases h4 : (l.length : Int) < 4
        · have hr := HR5.out
          rw [List.drop_eq_nil_of_le (by omega), charSlash] at hr
          have HR6 := Lib.hid hr
          clear hr HR5 HR4 h92
          go_enter Tryd.func48, Tryd.ntmps48
          go_wp2_with fail
          rw [← HR6.out]
          refine bodyPost_ret (v := tryV (some none)) (by simp [results, Tryd.results48, go_sem, tryV, tokV, digT]) rfl ⟨rfl, ((Below.refl _ _).alloc (Nat.le_refl _) _).alloc (by simp) _⟩
        · have hlt3 : 3 < l.length := by omega
          have h4' : 4 ≤ (l.length : Int) := by omega
          obtain ⟨d, hd3, hx3, -⟩ := byte_at l 3 hlt3
          have hs : (⟨l.toArray⟩ : ByteArray).extract 2 4 = ⟨[c, d].toArray⟩ := by
            obtain ⟨c2, hd2, hx2', -⟩ := byte_at l 2 hlt2
            have e : c2 = c := hx2'.symm.trans hx2
            rw [slice_mid, hd2, e, hd3]
            rfl
          have happ : (⟨[c, d].toArray⟩ : ByteArray) ++ ⟨#[39]⟩ = ⟨[92, d, 39].toArray⟩ := by rw [h92]; rfl
          have hr := HR5.out
          rw [hd3, charSlash] at hr
          have HR6 := Lib.hid hr
          clear hr HR5 HR4 h92 hd3 h4
          go_enter Tryd.func48, Tryd.ntmps48
          go_wp2_with fail
          refine (get_any _ [92, d, 39] 39 39 rfl (by simp)).mono ?_
          rintro e w1 ⟨rfl, hb⟩
          obtain ⟨hA, hB⟩ := below_two hb
          obtain ⟨⟨a0, a1, a2, a3, a4, a5⟩, hfa⟩ := six_cells hA
          obtain ⟨⟨b0, b1, b2, b3, b4, b5⟩, hfb⟩ := six_cells hB
          have hz : w.heap.size + 2 ≤ w1.heap.size := by have := hb.size; simp at this; omega
          have HB := Lib.hid hb
          clear hb hr hs happ hA hB
          generalize getQ 39 [92, d, 39] = G at *
          cases G with
          | none =>
            simp only [getRes]
            go_wp2_with fail
            rw [← HR6.out]
            refine bodyPost_ret (v := tryV (some none)) (by simp [results, Tryd.results48, go_sem, tryV, tokV, digT, slashRes, a0, a1, a2, a3, a4, a5]) rfl ⟨rfl, ?_⟩
            repeat (refine Below.setCell ?_ (by simp) _)
            exact ((((Below.refl _ _).alloc (Nat.le_refl _) _).alloc (by simp) _).trans (HB.out.mono (by simp; omega)))
          | some x =>
            obtain ⟨t, n⟩ := x
            simp only [getRes]
            by_cases hn3 : n = 3
            · subst hn3
              match t with
              | [b] =>
                have hb8 : (b.toNat : Int) < 256 := by have := b.toNat_lt; omega
                have hx0 : (⟨#[b]⟩ : ByteArray)[0]'(by show 0 < 1; omega) = b := rfl
                go_wp2_with fail
                rw [← HR6.out]
                refine bodyPost_ret (v := tryV (some (some ⟨3, (b.toNat : Int), [], 4⟩))) (by simp [results, Tryd.results48, go_sem, tryV, tokV, digT, slashRes, a0, a1, a2, a3, a4, a5]) rfl ⟨rfl, ?_⟩
                repeat (refine Below.setCell ?_ (by simp) _)
                exact ((((Below.refl _ _).alloc (Nat.le_refl _) _).alloc (by simp) _).trans (HB.out.mono (by simp; omega)))
              | [] =>
                go_wp2_with fail
                rw [← HR6.out]
                refine bodyPost_ret (v := tryV (some none)) (by simp [results, Tryd.results48, go_sem, tryV, tokV, digT, slashRes, a0, a1, a2, a3, a4, a5]) rfl ⟨rfl, ?_⟩
                repeat (refine Below.setCell ?_ (by simp) _)
                exact ((((Below.refl _ _).alloc (Nat.le_refl _) _).alloc (by simp) _).trans (HB.out.mono (by simp; omega)))
              | b :: b' :: r =>
                have hr2 : slashRes (some (b :: b' :: r, 3)) = none := rfl
                have t2 : (((r.length : Int) + 1 + 1) != 1) = true := by rw [bne_iff_ne]; omega
                rw [hr2] at HR6
                clear hr2
                go_wp2_with fail
                rw [← HR6.out]
                refine bodyPost_ret (v := tryV (some none)) (by simp [results, Tryd.results48, go_sem, tryV, tokV, digT, slashRes, a0, a1, a2, a3, a4, a5]) rfl ⟨rfl, ?_⟩
                repeat (refine Below.setCell ?_ (by simp) _)
                exact ((((Below.refl _ _).alloc (Nat.le_refl _) _).alloc (by simp) _).trans (HB.out.mono (by simp; omega)))
            · have hr2 : slashRes (some (t, n)) = none := by
                unfold slashRes
                split
                · rename_i h
                  simp only [Option.some.injEq, Prod.mk.injEq] at h
                  exact absurd h.2 hn3
                · rfl
              have t3 : ((n : Int) != 3) = true := by rw [bne_iff_ne]; omega
              rw [hr2] at HR6
              clear hr2
              go_wp2_with fail
              rw [← HR6.out]
              refine bodyPost_ret (v := tryV (some none)) (by simp [results, Tryd.results48, go_sem, tryV, tokV, digT, slashRes, a0, a1, a2, a3, a4, a5]) rfl ⟨rfl, ?_⟩
              repeat (refine Below.setCell ?_ (by simp) _)
              exact ((((Below.refl _ _).alloc (Nat.le_refl _) _).alloc (by simp) _).trans (HB.out.mono (by simp; omega)))
      · have t92 : ((c.toNat : Int) == 92) = false := byte_ne h92
        have t92' : ((c.toNat : Int) != 92) = true := by rw [bne, t92]; rfl
        have hr := HR4.out
        rw [if_neg h92] at hr
        have HR5 := Lib.hid hr
        clear hr HR4 h92
        have hc8 : (c.toNat : Int) < 256 := by have := c.toNat_lt; omega
        go_enter Tryd.func48, Tryd.ntmps48
        go_wp2_with fail
        rw [← HR5.out]
        refine bodyPost_ret (v := tryV (some (some ⟨3, (c.toNat : Int), [], 3⟩))) (by simp [results, Tryd.results48, go_sem, tryV, tokV, digT]) rfl ⟨rfl, ((Below.refl _ _).alloc (Nat.le_refl _) _).alloc (by simp) _⟩
end Go.Proofs.YtmgidfndifhcoaaDoor
/-
  What the lexer's functions answer: a number, a text in quotes, a clause's end, or none of that sort. No condition but the sizes that are named.
-/
namespace Go.Proofs.YtmgidfndifhcoaaDoor
open Go.RowKit
set_option maxRecDepth 100000

theorem below_one {w w1 : World} {o1 : Obj} (hb : Below (w.alloc o1).heap.size (w.alloc o1) w1) : w1.heap[w.heap.size]? = some o1 := by
  rw [hb.block _ (by simp)]
  exact heap_alloc_new w o1
theorem numberF_far {l : List UInt8} {c : UInt8} {r : List UInt8} (h : l = c :: r) (hc : c ≠ 48 ∨ r = []) : numberF l = digitsF 10 l 0 := by
  subst h
  unfold numberF
  have hn : ∀ x : UInt8, ¬ ((c :: r).head? = some 48 ∧ (c :: r).tail.head? = some x) := by
    rintro x ⟨h1, h2⟩
    rcases hc with h | h
    · exact h (Option.some.inj h1)
    · subst h
      cases h2
  rw [if_neg (hn _), if_neg (hn _), if_neg (hn _), if_neg (hn _)]
theorem numberF_near {l : List UInt8} {d : UInt8} {r : List UInt8} (h : l = 48 :: d :: r) : numberF l = if d = 120 then digitsF 16 l 2 else if d = 111 then digitsF 8 l 2 else if d = 98 then digitsF 2 l 2 else if d = 39 then charF l else digitsF 10 l 0 := by
  subst h
  unfold numberF
  simp only [List.head?_cons, List.tail_cons, Option.some.injEq, true_and]

set_option maxHeartbeats 2000000 in
theorem toknumber_any (w : World) (xv : Value) (l : List UInt8) (c : UInt8) (r : List UInt8) (hlc : l = c :: r) (hl : (l.length : Int) ≤ 1000000) :
    Calls Tryd.prog 25 #[xv, .string ⟨l.toArray⟩] w fun e w' => e = .returned (tryV (if bsort c = 4 then some ((numberF l).map digT) else none)) ∧ Below w.heap.size w w' := by
  have hlen : 0 < l.length := by rw [hlc]; simp
  have hx : (⟨l.toArray⟩ : ByteArray)[0]'(by show 0 < l.toArray.size; simpa using hlen) = c := by subst hlc; rfl
  by_cases h4 : bsort c = 4
  · rw [if_pos h4]
    generalize hR : (some ((numberF l).map digT)) = R
    have HR := Lib.hid hR
    clear hR
    by_cases h1 : (l.length : Int) ≤ 1
    · have h1' : (1 : Int) < (l.length : Int) → False := by omega
      have hr := HR.out
      rw [numberF_far hlc (.inr (List.eq_nil_of_length_eq_zero (by rw [hlc] at h1; simp at h1; omega)))] at hr
      have HR2 := Lib.hid hr
      clear hr HR hlc h1'
      by_cases hc48 : c = 48
      · have t48 : ((c.toNat : Int) == 48) = true := byte_eq hc48
        have t1 : decide ((1 : Int) < (l.length : Int)) = false := decide_eq_false (by omega)
        clear hc48
        go_enter Tryd.func25, Tryd.ntmps25
        go_wp2_with fail
        refine (sort_byte _ c).mono ?_
        rintro e w' ⟨rfl, rfl⟩
        go_wp2_with fail
        refine (digits_any _ l 0 0 10 rfl (Nat.zero_le _) (.inr (.inr (.inl rfl))) hl).mono ?_
        rintro e w1 ⟨rfl, hb⟩
        have hA := below_one hb
        obtain ⟨⟨a0, a1, a2, a3, a4, a5⟩, hfa⟩ := six_cells hA
        have hz : w.heap.size < w1.heap.size := by have := hb.size; simp at this; omega
        have HB := Lib.hid hb
        clear hb hA
        simp only [Int.reduceToNat]
        generalize digitsF 10 l 0 = G at *
        cases G with
        | none =>
          simp only [Option.map_none, tryV, tokV]
          go_wp2_with fail
          rw [← HR2.out]
          refine bodyPost_ret (v := tryV (some none)) (by simp [results, Tryd.results25, go_sem, tryV, tokV, a0, a1, a2, a3, a4, a5]) rfl ⟨rfl, ?_⟩
          repeat (refine Below.setCell ?_ (by simp) _)
          exact (((Below.refl _ _).alloc (Nat.le_refl _) _).trans (HB.out.mono (by simp)))
        | some x =>
          obtain ⟨x1, x2⟩ := x
          simp only [Option.map_some, tryV, tokV]
          go_wp2_with fail
          rw [← HR2.out]
          refine bodyPost_ret (v := tryV (some (some ⟨3, x1, [], x2⟩))) (by simp [results, Tryd.results25, go_sem, tryV, tokV, a0, a1, a2, a3, a4, a5, digT]) rfl ⟨rfl, ?_⟩
          repeat (refine Below.setCell ?_ (by simp) _)
          exact (((Below.refl _ _).alloc (Nat.le_refl _) _).trans (HB.out.mono (by simp)))
      · have t48 : ((c.toNat : Int) == 48) = false := byte_ne hc48
        clear hc48
        go_enter Tryd.func25, Tryd.ntmps25
        go_wp2_with fail
        refine (sort_byte _ c).mono ?_
        rintro e w' ⟨rfl, rfl⟩
        go_wp2_with fail
        refine (digits_any _ l 0 0 10 rfl (Nat.zero_le _) (.inr (.inr (.inl rfl))) hl).mono ?_
        rintro e w1 ⟨rfl, hb⟩
        have hA := below_one hb
        obtain ⟨⟨a0, a1, a2, a3, a4, a5⟩, hfa⟩ := six_cells hA
        have hz : w.heap.size < w1.heap.size := by have := hb.size; simp at this; omega
        have HB := Lib.hid hb
        clear hb hA
        simp only [Int.reduceToNat]
        generalize digitsF 10 l 0 = G at *
        cases G with
        | none =>
          simp only [Option.map_none, tryV, tokV]
          go_wp2_with fail
          rw [← HR2.out]
          refine bodyPost_ret (v := tryV (some none)) (by simp [results, Tryd.results25, go_sem, tryV, tokV, a0, a1, a2, a3, a4, a5]) rfl ⟨rfl, ?_⟩
          repeat (refine Below.setCell ?_ (by simp) _)
          exact (((Below.refl _ _).alloc (Nat.le_refl _) _).trans (HB.out.mono (by simp)))
        | some x =>
          obtain ⟨x1, x2⟩ := x
          simp only [Option.map_some, tryV, tokV]
          go_wp2_with fail
          rw [← HR2.out]
          refine bodyPost_ret (v := tryV (some (some ⟨3, x1, [], x2⟩))) (by simp [results, Tryd.results25, go_sem, tryV, tokV, a0, a1, a2, a3, a4, a5, digT]) rfl ⟨rfl, ?_⟩
          repeat (refine Below.setCell ?_ (by simp) _)
          exact (((Below.refl _ _).alloc (Nat.le_refl _) _).trans (HB.out.mono (by simp)))
    · have h1l : 1 < l.length := by omega
      have h1' : (1 : Int) < (l.length : Int) := by omega
      obtain ⟨d, hd, hx1, -⟩ := byte_at l 1 h1l
      by_cases hc48 : c = 48
      · have t48 : ((c.toNat : Int) == 48) = true := byte_eq hc48
        have hr := HR.out
        have hl2 : l = 48 :: d :: l.drop (1 + 1) := by
          rw [← hd, hlc, hc48]
          rfl
        rw [numberF_near hl2] at hr
        have HR2 := Lib.hid hr
        clear hr HR hlc hl2 hc48 hd
        by_cases h120 : d = 120
        · have u120 : ((d.toNat : Int) == 120) = true := byte_eq h120
          have hr := HR2.out
          rw [if_pos h120] at hr
          have HR3 := Lib.hid hr
          clear hr HR2 h120
          go_enter Tryd.func25, Tryd.ntmps25
          go_wp2_with fail
          refine (sort_byte _ c).mono ?_
          rintro e w' ⟨rfl, rfl⟩
          go_wp2_with fail
          refine (digits_any _ l 2 2 16 rfl (by omega) (.inr (.inr (.inr rfl))) hl).mono ?_
          rintro e w1 ⟨rfl, hb⟩
          have hA := below_one hb
          obtain ⟨⟨a0, a1, a2, a3, a4, a5⟩, hfa⟩ := six_cells hA
          have hz : w.heap.size < w1.heap.size := by have := hb.size; simp at this; omega
          have HB := Lib.hid hb
          clear hb hA
          simp only [Int.reduceToNat]
          generalize digitsF 16 l 2 = G at *
          cases G with
          | none =>
            simp only [Option.map_none, tryV, tokV]
            go_wp2_with fail
            rw [← HR3.out]
            refine bodyPost_ret (v := tryV (some none)) (by simp [results, Tryd.results25, go_sem, tryV, tokV, a0, a1, a2, a3, a4, a5]) rfl ⟨rfl, ?_⟩
            repeat (refine Below.setCell ?_ (by simp) _)
            exact (((Below.refl _ _).alloc (Nat.le_refl _) _).trans (HB.out.mono (by simp)))
          | some x =>
            obtain ⟨x1, x2⟩ := x
            simp only [Option.map_some, tryV, tokV]
            go_wp2_with fail
            rw [← HR3.out]
            refine bodyPost_ret (v := tryV (some (some ⟨3, x1, [], x2⟩))) (by simp [results, Tryd.results25, go_sem, tryV, tokV, a0, a1, a2, a3, a4, a5, digT]) rfl ⟨rfl, ?_⟩
            repeat (refine Below.setCell ?_ (by simp) _)
            exact (((Below.refl _ _).alloc (Nat.le_refl _) _).trans (HB.out.mono (by simp)))
        have u120 : ((d.toNat : Int) == 120) = false := byte_ne h120
        have hr := HR2.out
        rw [if_neg h120] at hr
        have HR4 := Lib.hid hr
        clear hr HR2 h120
        by_cases h111 : d = 111
        · have u111 : ((d.toNat : Int) == 111) = true := byte_eq h111
          have hr := HR4.out
          rw [if_pos h111] at hr
          have HR5 := Lib.hid hr
          clear hr HR4 h111
          go_enter Tryd.func25, Tryd.ntmps25
          go_wp2_with fail
          refine (sort_byte _ c).mono ?_
          rintro e w' ⟨rfl, rfl⟩
          go_wp2_with fail
          refine (digits_any _ l 2 2 8 rfl (by omega) (.inr (.inl rfl)) hl).mono ?_
          rintro e w1 ⟨rfl, hb⟩
          have hA := below_one hb
          obtain ⟨⟨a0, a1, a2, a3, a4, a5⟩, hfa⟩ := six_cells hA
          have hz : w.heap.size < w1.heap.size := by have := hb.size; simp at this; omega
          have HB := Lib.hid hb
          clear hb hA
          simp only [Int.reduceToNat]
          generalize digitsF 8 l 2 = G at *
          cases G with
          | none =>
            simp only [Option.map_none, tryV, tokV]
            go_wp2_with fail
            rw [← HR5.out]
            refine bodyPost_ret (v := tryV (some none)) (by simp [results, Tryd.results25, go_sem, tryV, tokV, a0, a1, a2, a3, a4, a5]) rfl ⟨rfl, ?_⟩
            repeat (refine Below.setCell ?_ (by simp) _)
            exact (((Below.refl _ _).alloc (Nat.le_refl _) _).trans (HB.out.mono (by simp)))
          | some x =>
            obtain ⟨x1, x2⟩ := x
            simp only [Option.map_some, tryV, tokV]
            go_wp2_with fail
            rw [← HR5.out]
            refine bodyPost_ret (v := tryV (some (some ⟨3, x1, [], x2⟩))) (by simp [results, Tryd.results25, go_sem, tryV, tokV, a0, a1, a2, a3, a4, a5, digT]) rfl ⟨rfl, ?_⟩
            repeat (refine Below.setCell ?_ (by simp) _)
            exact (((Below.refl _ _).alloc (Nat.le_refl _) _).trans (HB.out.mono (by simp)))
        have u111 : ((d.toNat : Int) == 111) = false := byte_ne h111
        have hr := HR4.out
        rw [if_neg h111] at hr
        have HR6 := Lib.hid hr
        clear hr HR4 h111
        by_cases h98 : d = 98
        · have u98 : ((d.toNat : Int) == 98) = true := byte_eq h98
          have hr := HR6.out
          rw [if_pos h98] at hr
          have HR7 := Lib.hid hr
          clear hr HR6 h98
          go_enter Tryd.func25, Tryd.ntmps25
          go_wp2_with fail
          refine (sort_byte _ c).mono ?_
          rintro e w' ⟨rfl, rfl⟩
          go_wp2_with fail
          refine (digits_any _ l 2 2 2 rfl (by omega) (.inl rfl) hl).mono ?_
          rintro e w1 ⟨rfl, hb⟩
          have hA := below_one hb
          obtain ⟨⟨a0, a1, a2, a3, a4, a5⟩, hfa⟩ := six_cells hA
          have hz : w.heap.size < w1.heap.size := by have := hb.size; simp at this; omega
          have HB := Lib.hid hb
          clear hb hA
          simp only [Int.reduceToNat]
          generalize digitsF 2 l 2 = G at *
          cases G with
          | none =>
            simp only [Option.map_none, tryV, tokV]
            go_wp2_with fail
            rw [← HR7.out]
            refine bodyPost_ret (v := tryV (some none)) (by simp [results, Tryd.results25, go_sem, tryV, tokV, a0, a1, a2, a3, a4, a5]) rfl ⟨rfl, ?_⟩
            repeat (refine Below.setCell ?_ (by simp) _)
            exact (((Below.refl _ _).alloc (Nat.le_refl _) _).trans (HB.out.mono (by simp)))
          | some x =>
            obtain ⟨x1, x2⟩ := x
            simp only [Option.map_some, tryV, tokV]
            go_wp2_with fail
            rw [← HR7.out]
            refine bodyPost_ret (v := tryV (some (some ⟨3, x1, [], x2⟩))) (by simp [results, Tryd.results25, go_sem, tryV, tokV, a0, a1, a2, a3, a4, a5, digT]) rfl ⟨rfl, ?_⟩
            repeat (refine Below.setCell ?_ (by simp) _)
            exact (((Below.refl _ _).alloc (Nat.le_refl _) _).trans (HB.out.mono (by simp)))
        have u98 : ((d.toNat : Int) == 98) = false := byte_ne h98
        have hr := HR6.out
        rw [if_neg h98] at hr
        have HR8 := Lib.hid hr
        clear hr HR6 h98
        by_cases h39 : d = 39
        · have u39 : ((d.toNat : Int) == 39) = true := byte_eq h39
          have hr := HR8.out
          rw [if_pos h39] at hr
          have HRa := Lib.hid hr
          clear hr HR8 h39
          go_enter Tryd.func25, Tryd.ntmps25
          go_wp2_with fail
          refine (sort_byte _ c).mono ?_
          rintro e w' ⟨rfl, rfl⟩
          go_wp2_with fail
          refine (char_any _ l hl).mono ?_
          rintro e w1 ⟨rfl, hb⟩
          have hA := below_one hb
          obtain ⟨⟨a0, a1, a2, a3, a4, a5⟩, hfa⟩ := six_cells hA
          have hz : w.heap.size < w1.heap.size := by have := hb.size; simp at this; omega
          have HB := Lib.hid hb
          clear hb hA
          generalize charF l = G at *
          cases G with
          | none =>
            simp only [Option.map_none, tryV, tokV]
            go_wp2_with fail
            rw [← HRa.out]
            refine bodyPost_ret (v := tryV (some none)) (by simp [results, Tryd.results25, go_sem, tryV, tokV, a0, a1, a2, a3, a4, a5]) rfl ⟨rfl, ?_⟩
            repeat (refine Below.setCell ?_ (by simp) _)
            exact (((Below.refl _ _).alloc (Nat.le_refl _) _).trans (HB.out.mono (by simp)))
          | some x =>
            obtain ⟨x1, x2⟩ := x
            simp only [Option.map_some, tryV, tokV]
            go_wp2_with fail
            rw [← HRa.out]
            refine bodyPost_ret (v := tryV (some (some ⟨3, x1, [], x2⟩))) (by simp [results, Tryd.results25, go_sem, tryV, tokV, a0, a1, a2, a3, a4, a5, digT]) rfl ⟨rfl, ?_⟩
            repeat (refine Below.setCell ?_ (by simp) _)
            exact (((Below.refl _ _).alloc (Nat.le_refl _) _).trans (HB.out.mono (by simp)))
        · have u39 : ((d.toNat : Int) == 39) = false := byte_ne h39
          have hr := HR8.out
          rw [if_neg h39] at hr
          have HRa := Lib.hid hr
          clear hr HR8 h39
          go_enter Tryd.func25, Tryd.ntmps25
          go_wp2_with fail
          refine (sort_byte _ c).mono ?_
          rintro e w' ⟨rfl, rfl⟩
          go_wp2_with fail
          refine (digits_any _ l 0 0 10 rfl (Nat.zero_le _) (.inr (.inr (.inl rfl))) hl).mono ?_
          rintro e w1 ⟨rfl, hb⟩
          have hA := below_one hb
          obtain ⟨⟨a0, a1, a2, a3, a4, a5⟩, hfa⟩ := six_cells hA
          have hz : w.heap.size < w1.heap.size := by have := hb.size; simp at this; omega
          have HB := Lib.hid hb
          clear hb hA
          simp only [Int.reduceToNat]
          generalize digitsF 10 l 0 = G at *
          cases G with
          | none =>
            simp only [Option.map_none, tryV, tokV]
            go_wp2_with fail
            rw [← HRa.out]
            refine bodyPost_ret (v := tryV (some none)) (by simp [results, Tryd.results25, go_sem, tryV, tokV, a0, a1, a2, a3, a4, a5]) rfl ⟨rfl, ?_⟩
            repeat (refine Below.setCell ?_ (by simp) _)
            exact (((Below.refl _ _).alloc (Nat.le_refl _) _).trans (HB.out.mono (by simp)))
          | some x =>
            obtain ⟨x1, x2⟩ := x
            simp only [Option.map_some, tryV, tokV]
            go_wp2_with fail
            rw [← HRa.out]
            refine bodyPost_ret (v := tryV (some (some ⟨3, x1, [], x2⟩))) (by simp [results, Tryd.results25, go_sem, tryV, tokV, a0, a1, a2, a3, a4, a5, digT]) rfl ⟨rfl, ?_⟩
            repeat (refine Below.setCell ?_ (by simp) _)
            exact (((Below.refl _ _).alloc (Nat.le_refl _) _).trans (HB.out.mono (by simp)))
      · have t48 : ((c.toNat : Int) == 48) = false := byte_ne hc48
        have hr := HR.out
        rw [numberF_far hlc (.inl hc48)] at hr
        have HR2 := Lib.hid hr
        clear hr HR hlc hc48 hd
        go_enter Tryd.func25, Tryd.ntmps25
        go_wp2_with fail
        refine (sort_byte _ c).mono ?_
        rintro e w' ⟨rfl, rfl⟩
        go_wp2_with fail
        refine (digits_any _ l 0 0 10 rfl (Nat.zero_le _) (.inr (.inr (.inl rfl))) hl).mono ?_
        rintro e w1 ⟨rfl, hb⟩
        have hA := below_one hb
        obtain ⟨⟨a0, a1, a2, a3, a4, a5⟩, hfa⟩ := six_cells hA
        have hz : w.heap.size < w1.heap.size := by have := hb.size; simp at this; omega
        have HB := Lib.hid hb
        clear hb hA
        simp only [Int.reduceToNat]
        generalize digitsF 10 l 0 = G at *
        cases G with
        | none =>
          simp only [Option.map_none, tryV, tokV]
          go_wp2_with fail
          rw [← HR2.out]
          refine bodyPost_ret (v := tryV (some none)) (by simp [results, Tryd.results25, go_sem, tryV, tokV, a0, a1, a2, a3, a4, a5]) rfl ⟨rfl, ?_⟩
          repeat (refine Below.setCell ?_ (by simp) _)
          exact (((Below.refl _ _).alloc (Nat.le_refl _) _).trans (HB.out.mono (by simp)))
        | some x =>
          obtain ⟨x1, x2⟩ := x
          simp only [Option.map_some, tryV, tokV]
          go_wp2_with fail
          rw [← HR2.out]
          refine bodyPost_ret (v := tryV (some (some ⟨3, x1, [], x2⟩))) (by simp [results, Tryd.results25, go_sem, tryV, tokV, a0, a1, a2, a3, a4, a5, digT]) rfl ⟨rfl, ?_⟩
          repeat (refine Below.setCell ?_ (by simp) _)
          exact (((Below.refl _ _).alloc (Nat.le_refl _) _).trans (HB.out.mono (by simp)))
  · rw [if_neg h4]
    have t4 : (bsort c != 4) = true := by rw [bne_iff_ne]; exact h4
    clear h4 hlc
    go_enter Tryd.func25, Tryd.ntmps25
    go_wp2_with fail
    refine (sort_byte _ c).mono ?_
    rintro e w' ⟨rfl, rfl⟩
    go_wp2_with fail
    refine bodyPost_ret (v := tryV none) (by simp [results, Tryd.results25, go_sem, tryV, tokV]) rfl ⟨rfl, ?_⟩
    repeat (refine Below.setCell ?_ (by simp) _)
    exact (Below.refl _ _).alloc (Nat.le_refl _) _
end Go.Proofs.YtmgidfndifhcoaaDoor
/-
  A text that ends by a byte 10, and another text behind it: the first one's tokens stay. Plain laws; no condition but those that are named.
-/
namespace Go.Proofs.YtmgidfndifhcoaaDoor

def Ends (l : List UInt8) : Prop := l.getLast? = some 10
theorem Ends.ne {l : List UInt8} (h : Ends l) : l ≠ [] := by rintro rfl; cases h
theorem Ends.tail {c : UInt8} {r : List UInt8} (h : Ends (c :: r)) (hr : r ≠ []) : Ends r := by
  unfold Ends at *
  rwa [List.getLast?_cons_of_ne_nil hr] at h
theorem Ends.drop {l : List UInt8} (h : Ends l) : ∀ (k : Nat), k < l.length → Ends (l.drop k) := by
  intro k
  induction k generalizing l with
  | zero => intro _; simpa using h
  | succ k ih =>
    intro hk
    cases l with
    | nil => simp at hk
    | cons c r =>
      rw [List.drop_succ_cons]
      simp only [List.length_cons] at hk
      exact ih (h.tail (by rintro rfl; simp at hk)) (by omega)
theorem Ends.one {c : UInt8} (h : Ends [c]) : c = 10 := by simpa [Ends] using h
theorem Ends.app {l b : List UInt8} (h : Ends b) : Ends (l ++ b) := by
  unfold Ends at *
  rw [List.getLast?_append, h]
  rfl

theorem spanN_app (p : UInt8 → Bool) (b : List UInt8) : ∀ u : List UInt8, spanN p u < u.length → spanN p (u ++ b) = spanN p u
  | [], h => by simp at h
  | c :: r, h => by
    rw [List.cons_append, spanN_cons, spanN_cons]
    rw [spanN_cons, List.length_cons] at h
    split
    · rename_i hc
      rw [if_pos hc] at h
      rw [spanN_app p b r (by omega)]
    · rfl
theorem spanN_lt (p : UInt8 → Bool) (hp : p 10 = false) : ∀ u : List UInt8, Ends u → spanN p u < u.length
  | [], h => absurd rfl h.ne
  | c :: r, h => by
    rw [spanN_cons, List.length_cons]
    split
    · rename_i hc
      have hr : r ≠ [] := by
        rintro rfl
        rw [h.one, hp] at hc
        cases hc
      have := spanN_lt p hp r (h.tail hr)
      omega
    · omega

theorem codedF_app (base : Nat) (b : List UInt8) : ∀ (l : List UInt8) (n i x k : Nat), codedF base l n i = (x, k, true) → codedF base (l ++ b) n i = (x, k, true) ∧ k ≤ i + l.length
  | [], n, i, x, k, h => by simp [codedF] at h
  | c :: r, n, i, x, k, h => by
    rw [List.cons_append]
    unfold codedF at h ⊢
    split at h
    · rename_i hc
      rw [if_pos hc]
      refine ⟨h, ?_⟩
      simp only [Prod.mk.injEq] at h
      rw [List.length_cons]
      omega
    · rename_i hc
      rw [if_neg hc]
      split at h
      · cases h
      · rename_i h1
        rw [if_neg h1]
        split at h
        · cases h
        · rename_i h2
          rw [if_neg h2]
          have := codedF_app base b r _ _ _ _ h
          refine ⟨this.1, ?_⟩
          rw [List.length_cons]
          omega
theorem escapeF_cons (c : UInt8) (r : List UInt8) : escapeF (c :: r) = match escKnown c with
    | some n => (n, 1, true)
    | none =>
      if c = 120 then ((codedF 16 r 0 0).1, (codedF 16 r 0 0).2.1 + 1, (codedF 16 r 0 0).2.2)
      else if c = 48 ∧ (r = [] ∨ (isOct (r.headD 0) = false ∧ r.headD 0 ≠ 92)) then (0, 1, true)
      else if isOct c then codedF 8 (c :: r) 0 0
      else (0, 0, false) := rfl
theorem coded_eta (base : Nat) (l : List UInt8) (n i : Nat) (h : (codedF base l n i).2.2 = true) : codedF base l n i = ((codedF base l n i).1, (codedF base l n i).2.1, true) :=
  Prod.ext rfl (Prod.ext rfl h)
theorem escapeF_app {r : List UInt8} (b : List UInt8) (hr : Ends r) (h : (escapeF r).2.2 = true) : escapeF (r ++ b) = escapeF r := by
  cases r with
  | nil => cases h
  | cons c r =>
    rw [List.cons_append, escapeF_cons, escapeF_cons]
    rw [escapeF_cons] at h
    cases hk : escKnown c with
    | some n => rfl
    | none =>
      rw [hk] at h
      simp only at h ⊢
      by_cases h1 : c = 120
      · rw [if_pos h1] at h
        rw [if_pos h1, if_pos h1]
        simp only at h
        have := (codedF_app 16 b r 0 0 _ _ (coded_eta _ _ _ _ h)).1
        rw [this]
        exact Prod.ext rfl (Prod.ext rfl h.symm)
      · rw [if_neg h1] at h
        rw [if_neg h1, if_neg h1]
        have hne : r ≠ [] := by
          rintro rfl
          rw [hr.one] at h
          revert h
          decide
        obtain ⟨d, r', rfl⟩ := List.exists_cons_of_ne_nil hne
        by_cases h2 : c = 48 ∧ (d :: r' = [] ∨ (isOct ((d :: r').headD 0) = false ∧ (d :: r').headD 0 ≠ 92))
        · have h2' : c = 48 ∧ (d :: r' ++ b = [] ∨ (isOct ((d :: r' ++ b).headD 0) = false ∧ (d :: r' ++ b).headD 0 ≠ 92)) := by simpa using h2
          rw [if_pos h2, if_pos h2']
        · have h2' : ¬ (c = 48 ∧ (d :: r' ++ b = [] ∨ (isOct ((d :: r' ++ b).headD 0) = false ∧ (d :: r' ++ b).headD 0 ≠ 92))) := by simpa using h2
          rw [if_neg h2] at h
          rw [if_neg h2, if_neg h2']
          by_cases h3 : isOct c = true
          · rw [if_pos h3] at h
            rw [if_pos h3, if_pos h3]
            have := (codedF_app 8 b (c :: d :: r') 0 0 _ _ (coded_eta _ _ _ _ h)).1
            rw [List.cons_append] at this
            rw [this]
            exact Prod.ext rfl (Prod.ext rfl h.symm)
          · rw [if_neg h3] at h
            cases h

theorem getF_app (q : UInt8) (hq : q ≠ 10) (b : List UInt8) : ∀ (f : Nat) (l : List UInt8) (i : Nat) (acc t : List UInt8) (n : Nat), Ends l → l.length ≤ f → getF q f l i acc = some (t, n) →
    getF q (f + b.length) (l ++ b) i acc = some (t, n) ∧ n < i + l.length := by
  intro f
  induction f with
  | zero => intro l i acc t n _ _ h; cases l <;> cases h
  | succ f ih =>
    intro l i acc t n hl hf h
    cases l with
    | nil => cases h
    | cons c r =>
      rw [List.length_cons] at hf
      have ihd : ∀ (k i' : Nat) (acc' : List UInt8), getF q f (r.drop k) i' acc' = some (t, n) → getF q (f + b.length) (r.drop k ++ b) i' acc' = some (t, n) ∧ n < i' + (r.drop k).length ∧ k < r.length := by
        intro k i' acc' h'
        by_cases hk : k < r.length
        · have hr : Ends r := hl.tail (by rintro rfl; simp at hk)
          have := ih (r.drop k) i' acc' t n (hr.drop k hk) (by rw [List.length_drop]; omega) h'
          exact ⟨this.1, this.2, hk⟩
        · rw [List.drop_eq_nil_of_le (by omega)] at h'
          cases f <;> cases h'
      have happ : ∀ k, k < r.length → (r ++ b).drop k = r.drop k ++ b := fun k hk => List.drop_append_of_le_length (by omega)
      rw [List.cons_append, List.length_cons, show f + 1 + b.length = (f + b.length) + 1 by omega]
      simp only [getF] at h ⊢
      by_cases h1 : c = q
      · have hr : r ≠ [] := by rintro rfl; exact hq (h1.symm.trans hl.one)
        rw [if_pos h1] at h
        rw [if_pos h1]
        have hh : (r ++ b).head? = r.head? := by
          obtain ⟨d, r', rfl⟩ := List.exists_cons_of_ne_nil hr
          rfl
        rw [hh]
        by_cases h2 : r.head? = some q
        · rw [if_pos h2] at h
          rw [if_pos h2]
          rw [← List.drop_one] at h ⊢
          obtain ⟨a1, a2, a3⟩ := ihd 1 _ _ h
          rw [happ 1 a3]
          rw [List.length_drop] at a2
          exact ⟨a1, by omega⟩
        · rw [if_neg h2] at h
          rw [if_neg h2]
          refine ⟨h, ?_⟩
          simp only [Option.some.injEq, Prod.mk.injEq] at h
          have : 0 < r.length := List.length_pos_iff.2 hr
          omega
      · rw [if_neg h1] at h
        rw [if_neg h1]
        by_cases h2 : c = 10
        · rw [if_pos h2] at h
          cases h
        · rw [if_neg h2] at h
          rw [if_neg h2]
          have hr : r ≠ [] := by rintro rfl; exact h2 hl.one
          have hrl : 0 < r.length := List.length_pos_iff.2 hr
          have hE := hl.tail hr
          by_cases h3 : c ≠ 92
          · rw [if_pos h3] at h
            rw [if_pos h3]
            obtain ⟨a1, a2, a3⟩ := ihd 0 _ _ (by simpa using h)
            rw [List.drop_zero] at a1 a2
            exact ⟨a1, by omega⟩
          · rw [if_neg h3] at h
            rw [if_neg h3]
            have hrb : r ++ b ≠ [] := by simp [hr]
            rw [if_neg hr] at h
            rw [if_neg hrb]
            have hh : (r ++ b).head? = r.head? := by
              obtain ⟨d, r', rfl⟩ := List.exists_cons_of_ne_nil hr
              rfl
            rw [hh]
            by_cases h4 : r.head? = some 10
            · rw [if_pos h4] at h
              rw [if_pos h4]
              rw [← List.drop_one] at h ⊢
              obtain ⟨a1, a2, a3⟩ := ihd 1 _ _ h
              rw [happ 1 a3]
              rw [List.length_drop] at a2
              exact ⟨a1, by omega⟩
            · rw [if_neg h4] at h
              rw [if_neg h4]
              by_cases h5 : (escapeF r).2.2 = true
              · rw [if_pos h5] at h
                rw [escapeF_app b hE h5, if_pos h5]
                obtain ⟨a1, a2, a3⟩ := ihd _ _ _ h
                rw [happ _ a3]
                rw [List.length_drop] at a2
                exact ⟨a1, by omega⟩
              · rw [if_neg h5] at h
                cases h
theorem getQ_app {q : UInt8} (hq : q ≠ 10) (b : List UInt8) {l t : List UInt8} {n : Nat} (hl : Ends l) (h : getQ q l = some (t, n)) : getQ q (l ++ b) = some (t, n) ∧ n < l.length := by
  unfold getQ at h ⊢
  have := getF_app q hq b l.length l 0 [] t n hl (Nat.le_refl _) h
  rw [List.length_append]
  simpa using this

theorem digitsF_app (base : Nat) (hb : base ≤ 36) (b : List UInt8) {l : List UInt8} (frm : Nat) (hf : frm < l.length) (hl : Ends l) {x : Int × Nat} (h : digitsF base l frm = some x) : digitsF base (l ++ b) frm = some x ∧ x.2 < l.length := by
  unfold digitsF at h ⊢
  simp only at h ⊢
  have hd := hl.drop frm hf
  have hlt := spanN_lt (fun c => decide (digVal c < base)) (by have : digVal 10 = 36 := by decide
                                                               simp [this]; omega) _ hd
  rw [List.drop_append_of_le_length (by omega), spanN_app _ b _ hlt, List.take_append_of_le_length (by omega)]
  refine ⟨h, ?_⟩
  split at h
  · simp only [Option.some.injEq] at h
    subst h
    rw [List.length_drop] at hlt
    simp only
    omega
  · cases h
theorem charF_app (b : List UInt8) {l : List UInt8} (hl : Ends l) {x : Int × Nat} (h : charF l = some x) : charF (l ++ b) = some x ∧ x.2 < l.length := by
  match l, h with
  | [], h => cases h
  | [_], h => cases h
  | [_, _], h => cases h
  | c0 :: c1 :: c :: r, h =>
    simp only [List.cons_append, charF, charAt2] at h ⊢
    by_cases h1 : c = 10
    · rw [if_pos h1] at h; cases h
    · rw [if_neg h1] at h
      rw [if_neg h1]
      have hr : r ≠ [] := by
        rintro rfl
        exact h1 (((hl.tail (by simp)).tail (by simp)).one)
      obtain ⟨d, r, rfl⟩ := List.exists_cons_of_ne_nil hr
      have hE : Ends (d :: r) := ((hl.tail (by simp)).tail (by simp)).tail (by simp)
      by_cases h2 : c = 39
      · rw [if_pos h2] at h
        rw [if_pos h2]
        by_cases h3 : (d :: r).head? = some (39 : UInt8)
        · rw [if_pos h3] at h
          rw [if_pos (show (d :: r ++ b).head? = some 39 from h3)]
          refine ⟨h, ?_⟩
          have hd : d = 39 := Option.some.inj h3
          have : r ≠ [] := by rintro rfl; rw [hE.one] at hd; revert hd; decide
          have := List.length_pos_iff.2 this
          cases h
          simp only [List.length_cons]
          omega
        · rw [if_neg h3] at h
          cases h
      · rw [if_neg h2] at h
        rw [if_neg h2]
        by_cases h3 : c = 92
        · rw [if_pos h3] at h
          rw [if_pos h3]
          simp only [List.cons_append, charSlash] at h ⊢
          refine ⟨h, ?_⟩
          have hr : r ≠ [] := by
            rintro rfl
            have e : getQ 39 [92, 10, 39] = some ([], 3) := by decide +kernel
            rw [hE.one, e] at h
            cases h
          have := List.length_pos_iff.2 hr
          unfold slashRes at h
          split at h
          · cases h
            simp only [List.length_cons]
            omega
          · cases h
        · rw [if_neg h3] at h
          rw [if_neg h3]
          refine ⟨h, ?_⟩
          cases h
          simp only [List.length_cons]
          omega
end Go.Proofs.YtmgidfndifhcoaaDoor
