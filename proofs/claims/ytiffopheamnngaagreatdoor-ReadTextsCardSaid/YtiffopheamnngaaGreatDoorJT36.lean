import Derived.Test.YtiffopheamnngaaGreatDoorJT35
namespace Go.Proofs.YtiffopheamnngaaGreatDoor
open Go.RowKit
set_option maxRecDepth 100000
theorem six_cells {w1 : World} {b : Nat} {a0 a1 a2 a3 a4 a5 : Value} {t : TypeId} (h : w1.heap[b]? = some (.cells #[a0, a1, a2, a3, a4, a5] t (0, 0))) :
    (w1.cell? ⟨b, 0, none⟩ = some a0 ∧ w1.cell? ⟨b, 1, none⟩ = some a1 ∧ w1.cell? ⟨b, 2, none⟩ = some a2 ∧ w1.cell? ⟨b, 3, none⟩ = some a3 ∧ w1.cell? ⟨b, 4, none⟩ = some a4 ∧ w1.cell? ⟨b, 5, none⟩ = some a5) ∧ (∀ o, w1.frozen? ⟨b, o, none⟩ = false) := by
 have hf : ∀ o, w1.frozen? ⟨b, o, none⟩ = false := fun o => by simp [World.frozen?, h]
 exact ⟨⟨by rw [cell_of_row w1 b 0 _ t (0, 0) h]; rfl, by rw [cell_of_row w1 b 1 _ t (0, 0) h]; rfl, by rw [cell_of_row w1 b 2 _ t (0, 0) h]; rfl, by rw [cell_of_row w1 b 3 _ t (0, 0) h]; rfl, by rw [cell_of_row w1 b 4 _ t (0, 0) h]; rfl, by rw [cell_of_row w1 b 5 _ t (0, 0) h]; rfl⟩, hf⟩
theorem below_two {w w1 : World} {o1 o2 : Obj} (hb : Below ((w.alloc o1).alloc o2).heap.size ((w.alloc o1).alloc o2) w1) : w1.heap[w.heap.size]? = some o1 ∧ w1.heap[w.heap.size + 1]? = some o2 := by
 have e1 : ((w.alloc o1).alloc o2).heap.size = w.heap.size + 1 + 1 := by simp
 have e2 : (w.alloc o1).heap.size = w.heap.size + 1 := by simp
 refine ⟨?_, ?_⟩
 ·rw [hb.block _ (by omega), Below.heap_alloc _ _ _ (by omega)]
  exact heap_alloc_new w o1
 ·rw [hb.block _ (by omega), ← e2]
  exact heap_alloc_new (w.alloc o1) o2
def digT (x : Int × Nat) : TokIs := ⟨3, x.1, [], x.2⟩
theorem charF_short {l : List UInt8} (h : l.length < 3) : charF l = none := by
 match l, h with
 | [], _ => rfl
 | [_], _ => rfl
 | [_, _], _ => rfl
theorem charF_at {l : List UInt8} {c : UInt8} {r : List UInt8} (h : l.drop 2 = c :: r) : charF l = charAt2 c r := by
 match l, h with
 | _ :: _ :: _, h => rw [List.drop_succ_cons, List.drop_succ_cons, List.drop_zero] at h; subst h; rfl
 | [_], h => cases h
 | [], h => cases h
set_option maxHeartbeats 2000000 in
theorem char_any (w : World) (l : List UInt8) (hl : (l.length : Int) ≤ 1000000) :
    Calls Tryz.prog 46 #[.string ⟨l.toArray⟩] w fun e w' => e = .returned (tryV (some ((charF l).map digT))) ∧ Below w.heap.size w w' := by
 generalize hR : (some ((charF l).map digT)) = R
 have HR := Lib.hid hR
 clear hR
 by_cases h3 : (l.length : Int) < 3
 ·have hr := HR.out
  rw [charF_short (by omega)] at hr
  have HR2 := Lib.hid hr
  clear hr HR
  go_enter Tryz.func46, Tryz.ntmps46
  go_wp2_with fail
  rw [← HR2.out]
  refine bodyPost_ret (v := tryV (some none)) (by simp [results, Tryz.results46, go_sem, tryV, tokV]) rfl ⟨rfl, ((Below.refl _ _).alloc (Nat.le_refl _) _).alloc (by simp) _⟩
 ·have hlt2 : 2 < l.length := by omega
  have h3' : 3 ≤ (l.length : Int) := by omega
  obtain ⟨c, hd, hx2, -⟩ := byte_at l 2 hlt2
  have hr := HR.out
  rw [charF_at hd, charAt2] at hr
  have HR2 := Lib.hid hr
  clear hr HR hd h3
  by_cases h10 : c = 10
  ·have t10 : ((c.toNat : Int) == 10) = true := byte_eq h10
   have hr := HR2.out
   rw [if_pos h10] at hr
   have HR3 := Lib.hid hr
   clear hr HR2 h10
   go_enter Tryz.func46, Tryz.ntmps46
   go_wp2_with fail
   rw [← HR3.out]
   refine bodyPost_ret (v := tryV (some none)) (by simp [results, Tryz.results46, go_sem, tryV, tokV]) rfl ⟨rfl, ((Below.refl _ _).alloc (Nat.le_refl _) _).alloc (by simp) _⟩
  have t10 : ((c.toNat : Int) == 10) = false := byte_ne h10
  have hr := HR2.out
  rw [if_neg h10] at hr
  have HR3 := Lib.hid hr
  clear hr HR2 h10
  by_cases h39 : c = 39
  ·have t39 : ((c.toNat : Int) == 39) = true := byte_eq h39
   have t39' : ((c.toNat : Int) != 39) = false := by rw [bne, t39]; rfl
   have hr := HR3.out
   rw [if_pos h39] at hr
   have HR4 := Lib.hid hr
   clear hr HR3 h39
   by_cases h4 : (l.length : Int) < 4
   ·have hr := HR4.out
    rw [if_neg (by rw [List.drop_eq_nil_of_le (by omega)]; simp)] at hr
    have HR5 := Lib.hid hr
    clear hr HR4
    go_enter Tryz.func46, Tryz.ntmps46
    go_wp2_with fail
    rw [← HR5.out]
    refine bodyPost_ret (v := tryV (some none)) (by simp [results, Tryz.results46, go_sem, tryV, tokV]) rfl ⟨rfl, ((Below.refl _ _).alloc (Nat.le_refl _) _).alloc (by simp) _⟩
   ·have hlt3 : 3 < l.length := by omega
    have h4' : 4 ≤ (l.length : Int) := by omega
    obtain ⟨d, hd3, hx3, -⟩ := byte_at l 3 hlt3
    by_cases hd39 : d = 39
    ·have u39 : ((d.toNat : Int) == 39) = true := byte_eq hd39
     have u39' : ((d.toNat : Int) != 39) = false := by rw [bne, u39]; rfl
     have hr := HR4.out
     rw [hd3, if_pos (by rw [hd39]; rfl)] at hr
     have HR5 := Lib.hid hr
     clear hr HR4 hd39 hd3 h4
     go_enter Tryz.func46, Tryz.ntmps46
     go_wp2_with fail
     rw [← HR5.out]
     refine bodyPost_ret (v := tryV (some (some ⟨3, 39, [], 4⟩))) (by simp [results, Tryz.results46, go_sem, tryV, tokV]) rfl ⟨rfl, ((Below.refl _ _).alloc (Nat.le_refl _) _).alloc (by simp) _⟩
    ·have u39 : ((d.toNat : Int) == 39) = false := byte_ne hd39
     have u39' : ((d.toNat : Int) != 39) = true := by rw [bne, u39]; rfl
     have hr := HR4.out
     rw [hd3, if_neg (by simpa using hd39)] at hr
     have HR5 := Lib.hid hr
     clear hr HR4 hd39 hd3 h4
     go_enter Tryz.func46, Tryz.ntmps46
     go_wp2_with fail
     rw [← HR5.out]
     refine bodyPost_ret (v := tryV (some none)) (by simp [results, Tryz.results46, go_sem, tryV, tokV]) rfl ⟨rfl, ((Below.refl _ _).alloc (Nat.le_refl _) _).alloc (by simp) _⟩
  ·have t39 : ((c.toNat : Int) == 39) = false := byte_ne h39
   have t39' : ((c.toNat : Int) != 39) = true := by rw [bne, t39]; rfl
   have hr := HR3.out
   rw [if_neg h39] at hr
   have HR4 := Lib.hid hr
   clear hr HR3 h39
   by_cases h92 : c = 92
   ·have t92 : ((c.toNat : Int) == 92) = true := byte_eq h92
    have t92' : ((c.toNat : Int) != 92) = false := by rw [bne, t92]; rfl
    have hr := HR4.out
    rw [if_pos h92] at hr
    have HR5 := Lib.hid hr
    by_cases h4 : (l.length : Int) < 4
    ·have hr := HR5.out
     rw [List.drop_eq_nil_of_le (by omega), charSlash] at hr
     have HR6 := Lib.hid hr
     clear hr HR5 HR4 h92
     go_enter Tryz.func46, Tryz.ntmps46
     go_wp2_with fail
     rw [← HR6.out]
     refine bodyPost_ret (v := tryV (some none)) (by simp [results, Tryz.results46, go_sem, tryV, tokV]) rfl ⟨rfl, ((Below.refl _ _).alloc (Nat.le_refl _) _).alloc (by simp) _⟩
    ·have hlt3 : 3 < l.length := by omega
     have h4' : 4 ≤ (l.length : Int) := by omega
     obtain ⟨d, hd3, hx3, -⟩ := byte_at l 3 hlt3
     have hs : (⟨l.toArray⟩ : ByteArray).extract 2 4 = ⟨[c, d].toArray⟩ := by
      obtain ⟨c2, hd2, hx2', -⟩ := byte_at l 2 hlt2
      have e : c2 = c := hx2'.symm.trans hx2
      rw [slice_mid, hd2, e, hd3]
      rfl
     have happ : (⟨[c, d].toArray⟩ : ByteArray) ++ ⟨#[39]⟩ = ⟨[92, d, 39].toArray⟩ := by rw [h92]; rfl
     have hr := HR5.out
     rw [hd3, charSlash] at hr
     have HR6 := Lib.hid hr
     clear hr HR5 HR4 h92 hd3 h4
     go_enter Tryz.func46, Tryz.ntmps46
     go_wp2_with fail
     refine (get_any _ [92, d, 39] 39 39 rfl (by simp)).mono ?_
     rintro e w1 ⟨rfl, hb⟩
     obtain ⟨hA, hB⟩ := below_two hb
     obtain ⟨⟨a0, a1, a2, a3, a4, a5⟩, hfa⟩ := six_cells hA
     obtain ⟨⟨b0, b1, b2, b3, b4, b5⟩, hfb⟩ := six_cells hB
     have hz : w.heap.size + 2 ≤ w1.heap.size := by have := hb.size; simp at this; omega
     have HB := Lib.hid hb
     clear hb hr hs happ hA hB
     generalize getQ 39 [92, d, 39] = G at *
     cases G with
     | none =>
      simp only [getRes]
      go_wp2_with fail
      rw [← HR6.out]
      refine bodyPost_ret (v := tryV (some none)) (by simp [results, Tryz.results46, go_sem, tryV, tokV, a0, a1, a2, a3, a4, a5]) rfl ⟨rfl, ?_⟩
      repeat (refine Below.setCell ?_ (by simp) _)
      exact ((((Below.refl _ _).alloc (Nat.le_refl _) _).alloc (by simp) _).trans (HB.out.mono (by simp; omega)))
     | some x =>
      obtain ⟨t, n⟩ := x
      simp only [getRes]
      by_cases hn3 : n = 3
      ·subst hn3
       match t with
       | [b] =>
        have hb8 : (b.toNat : Int) < 256 := by have := b.toNat_lt; omega
        have hx0 : (⟨#[b]⟩ : ByteArray)[0]'(by show 0 < 1; omega) = b := rfl
        go_wp2_with fail
        rw [← HR6.out]
        refine bodyPost_ret (v := tryV (some (some ⟨3, (b.toNat : Int), [], 4⟩))) (by simp [results, Tryz.results46, go_sem, tryV, tokV, a0, a1, a2, a3, a4, a5]) rfl ⟨rfl, ?_⟩
        repeat (refine Below.setCell ?_ (by simp) _)
        exact ((((Below.refl _ _).alloc (Nat.le_refl _) _).alloc (by simp) _).trans (HB.out.mono (by simp; omega)))
       | [] =>
        go_wp2_with fail
        rw [← HR6.out]
        refine bodyPost_ret (v := tryV (some none)) (by simp [results, Tryz.results46, go_sem, tryV, tokV, a0, a1, a2, a3, a4, a5]) rfl ⟨rfl, ?_⟩
        repeat (refine Below.setCell ?_ (by simp) _)
        exact ((((Below.refl _ _).alloc (Nat.le_refl _) _).alloc (by simp) _).trans (HB.out.mono (by simp; omega)))
       | b :: b' :: r =>
        have hr2 : slashRes (some (b :: b' :: r, 3)) = none := rfl
        have t2 : (((r.length : Int) + 1 + 1) != 1) = true := by rw [bne_iff_ne]; omega
        rw [hr2] at HR6
        clear hr2
        go_wp2_with fail
        rw [← HR6.out]
        refine bodyPost_ret (v := tryV (some none)) (by simp [results, Tryz.results46, go_sem, tryV, tokV, a0, a1, a2, a3, a4, a5]) rfl ⟨rfl, ?_⟩
        repeat (refine Below.setCell ?_ (by simp) _)
        exact ((((Below.refl _ _).alloc (Nat.le_refl _) _).alloc (by simp) _).trans (HB.out.mono (by simp; omega)))
      ·have hr2 : slashRes (some (t, n)) = none := by
        unfold slashRes
        split
        ·rename_i h
         simp only [Option.some.injEq, Prod.mk.injEq] at h
         exact absurd h.2 hn3
        ·rfl
       have t3 : ((n : Int) != 3) = true := by rw [bne_iff_ne]; omega
       rw [hr2] at HR6
       clear hr2
       go_wp2_with fail
       rw [← HR6.out]
       refine bodyPost_ret (v := tryV (some none)) (by simp [results, Tryz.results46, go_sem, tryV, tokV, a0, a1, a2, a3, a4, a5]) rfl ⟨rfl, ?_⟩
       repeat (refine Below.setCell ?_ (by simp) _)
       exact ((((Below.refl _ _).alloc (Nat.le_refl _) _).alloc (by simp) _).trans (HB.out.mono (by simp; omega)))
   ·have t92 : ((c.toNat : Int) == 92) = false := byte_ne h92
    have t92' : ((c.toNat : Int) != 92) = true := by rw [bne, t92]; rfl
    have hr := HR4.out
    rw [if_neg h92] at hr
    have HR5 := Lib.hid hr
    clear hr HR4 h92
    have hc8 : (c.toNat : Int) < 256 := by have := c.toNat_lt; omega
    go_enter Tryz.func46, Tryz.ntmps46
    go_wp2_with fail
    rw [← HR5.out]
    refine bodyPost_ret (v := tryV (some (some ⟨3, (c.toNat : Int), [], 3⟩))) (by simp [results, Tryz.results46, go_sem, tryV, tokV]) rfl ⟨rfl, ((Below.refl _ _).alloc (Nat.le_refl _) _).alloc (by simp) _⟩
theorem below_one {w w1 : World} {o1 : Obj} (hb : Below (w.alloc o1).heap.size (w.alloc o1) w1) : w1.heap[w.heap.size]? = some o1 := by
 rw [hb.block _ (by simp)]
 exact heap_alloc_new w o1
theorem numberF_far {l : List UInt8} {c : UInt8} {r : List UInt8} (h : l = c :: r) (hc : c ≠ 48 ∨ r = []) : numberF l = digitsF 10 l 0 := by
 subst h
 unfold numberF
 have hn : ∀ x : UInt8, ¬ ((c :: r).head? = some 48 ∧ (c :: r).tail.head? = some x) := by
  rintro x ⟨h1, h2⟩
  rcases hc with h | h
  ·exact h (Option.some.inj h1)
  ·subst h
   cases h2
 rw [if_neg (hn _), if_neg (hn _), if_neg (hn _), if_neg (hn _)]
theorem numberF_near {l : List UInt8} {d : UInt8} {r : List UInt8} (h : l = 48 :: d :: r) : numberF l = if d = 120 then digitsF 16 l 2 else if d = 111 then digitsF 8 l 2 else if d = 98 then digitsF 2 l 2 else if d = 39 then charF l else digitsF 10 l 0 := by
 subst h
 unfold numberF
 simp only [List.head?_cons, List.tail_cons, Option.some.injEq, true_and]
set_option maxHeartbeats 2000000 in
theorem toknumber_any (w : World) (xv : Value) (l : List UInt8) (c : UInt8) (r : List UInt8) (hlc : l = c :: r) (hl : (l.length : Int) ≤ 1000000) :
    Calls Tryz.prog 21 #[xv, .string ⟨l.toArray⟩] w fun e w' => e = .returned (tryV (if bsort c = 4 then some ((numberF l).map digT) else none)) ∧ Below w.heap.size w w' := by
 have hlen : 0 < l.length := by rw [hlc]; simp
 have hx : (⟨l.toArray⟩ : ByteArray)[0]'(by show 0 < l.toArray.size; simpa using hlen) = c := by subst hlc; rfl
 by_cases h4 : bsort c = 4
 ·rw [if_pos h4]
  generalize hR : (some ((numberF l).map digT)) = R
  have HR := Lib.hid hR
  clear hR
  by_cases h1 : (l.length : Int) ≤ 1
  ·have h1' : (1 : Int) < (l.length : Int) → False := by omega
   have hr := HR.out
   rw [numberF_far hlc (.inr (List.eq_nil_of_length_eq_zero (by rw [hlc] at h1; simp at h1; omega)))] at hr
   have HR2 := Lib.hid hr
   clear hr HR hlc h1'
   by_cases hc48 : c = 48
   ·have t48 : ((c.toNat : Int) == 48) = true := byte_eq hc48
    have t1 : decide ((1 : Int) < (l.length : Int)) = false := decide_eq_false (by omega)
    clear hc48
    go_enter Tryz.func21, Tryz.ntmps21
    go_wp2_with fail
    refine (sort_byte _ c).mono ?_
    rintro e w' ⟨rfl, rfl⟩
    go_wp2_with fail
    refine (digits_any _ l 0 0 10 rfl (Nat.zero_le _) (.inr (.inr (.inl rfl))) hl).mono ?_
    rintro e w1 ⟨rfl, hb⟩
    have hA := below_one hb
    obtain ⟨⟨a0, a1, a2, a3, a4, a5⟩, hfa⟩ := six_cells hA
    have hz : w.heap.size < w1.heap.size := by have := hb.size; simp at this; omega
    have HB := Lib.hid hb
    clear hb hA
    simp only [Int.reduceToNat]
    generalize digitsF 10 l 0 = G at *
    cases G with
    | none =>
     simp only [Option.map_none, tryV, tokV]
     go_wp2_with fail
     rw [← HR2.out]
     refine bodyPost_ret (v := tryV (some none)) (by simp [results, Tryz.results21, go_sem, tryV, tokV, a0, a1, a2, a3, a4, a5]) rfl ⟨rfl, ?_⟩
     repeat (refine Below.setCell ?_ (by simp) _)
     exact (((Below.refl _ _).alloc (Nat.le_refl _) _).trans (HB.out.mono (by simp)))
    | some x =>
     obtain ⟨x1, x2⟩ := x
     simp only [Option.map_some, tryV, tokV]
     go_wp2_with fail
     rw [← HR2.out]
     refine bodyPost_ret (v := tryV (some (some ⟨3, x1, [], x2⟩))) (by simp [results, Tryz.results21, go_sem, tryV, tokV, a0, a1, a2, a3, a4, a5]) rfl ⟨rfl, ?_⟩
     repeat (refine Below.setCell ?_ (by simp) _)
     exact (((Below.refl _ _).alloc (Nat.le_refl _) _).trans (HB.out.mono (by simp)))
   ·have t48 : ((c.toNat : Int) == 48) = false := byte_ne hc48
    clear hc48
    go_enter Tryz.func21, Tryz.ntmps21
    go_wp2_with fail
    refine (sort_byte _ c).mono ?_
    rintro e w' ⟨rfl, rfl⟩
    go_wp2_with fail
    refine (digits_any _ l 0 0 10 rfl (Nat.zero_le _) (.inr (.inr (.inl rfl))) hl).mono ?_
    rintro e w1 ⟨rfl, hb⟩
    have hA := below_one hb
    obtain ⟨⟨a0, a1, a2, a3, a4, a5⟩, hfa⟩ := six_cells hA
    have hz : w.heap.size < w1.heap.size := by have := hb.size; simp at this; omega
    have HB := Lib.hid hb
    clear hb hA
    simp only [Int.reduceToNat]
    generalize digitsF 10 l 0 = G at *
    cases G with
    | none =>
     simp only [Option.map_none, tryV, tokV]
     go_wp2_with fail
     rw [← HR2.out]
     refine bodyPost_ret (v := tryV (some none)) (by simp [results, Tryz.results21, go_sem, tryV, tokV, a0, a1, a2, a3, a4, a5]) rfl ⟨rfl, ?_⟩
     repeat (refine Below.setCell ?_ (by simp) _)
     exact (((Below.refl _ _).alloc (Nat.le_refl _) _).trans (HB.out.mono (by simp)))
    | some x =>
     obtain ⟨x1, x2⟩ := x
     simp only [Option.map_some, tryV, tokV]
     go_wp2_with fail
     rw [← HR2.out]
     refine bodyPost_ret (v := tryV (some (some ⟨3, x1, [], x2⟩))) (by simp [results, Tryz.results21, go_sem, tryV, tokV, a0, a1, a2, a3, a4, a5]) rfl ⟨rfl, ?_⟩
     repeat (refine Below.setCell ?_ (by simp) _)
     exact (((Below.refl _ _).alloc (Nat.le_refl _) _).trans (HB.out.mono (by simp)))
  ·have h1l : 1 < l.length := by omega
   have h1' : (1 : Int) < (l.length : Int) := by omega
   obtain ⟨d, hd, hx1, -⟩ := byte_at l 1 h1l
   by_cases hc48 : c = 48
   ·have t48 : ((c.toNat : Int) == 48) = true := byte_eq hc48
    have hr := HR.out
    have hl2 : l = 48 :: d :: l.drop (1 + 1) := by
     rw [← hd, hlc, hc48]
     rfl
    rw [numberF_near hl2] at hr
    have HR2 := Lib.hid hr
    clear hr HR hlc hl2 hc48 hd
    by_cases h120 : d = 120
    ·have u120 : ((d.toNat : Int) == 120) = true := byte_eq h120
     have hr := HR2.out
     rw [if_pos h120] at hr
     have HR3 := Lib.hid hr
     clear hr HR2 h120
     go_enter Tryz.func21, Tryz.ntmps21
     go_wp2_with fail
     refine (sort_byte _ c).mono ?_
     rintro e w' ⟨rfl, rfl⟩
     go_wp2_with fail
     refine (digits_any _ l 2 2 16 rfl (by omega) (.inr (.inr (.inr rfl))) hl).mono ?_
     rintro e w1 ⟨rfl, hb⟩
     have hA := below_one hb
     obtain ⟨⟨a0, a1, a2, a3, a4, a5⟩, hfa⟩ := six_cells hA
     have hz : w.heap.size < w1.heap.size := by have := hb.size; simp at this; omega
     have HB := Lib.hid hb
     clear hb hA
     simp only [Int.reduceToNat]
     generalize digitsF 16 l 2 = G at *
     cases G with
     | none =>
      simp only [Option.map_none, tryV, tokV]
      go_wp2_with fail
      rw [← HR3.out]
      refine bodyPost_ret (v := tryV (some none)) (by simp [results, Tryz.results21, go_sem, tryV, tokV, a0, a1, a2, a3, a4, a5]) rfl ⟨rfl, ?_⟩
      repeat (refine Below.setCell ?_ (by simp) _)
      exact (((Below.refl _ _).alloc (Nat.le_refl _) _).trans (HB.out.mono (by simp)))
     | some x =>
      obtain ⟨x1, x2⟩ := x
      simp only [Option.map_some, tryV, tokV]
      go_wp2_with fail
      rw [← HR3.out]
      refine bodyPost_ret (v := tryV (some (some ⟨3, x1, [], x2⟩))) (by simp [results, Tryz.results21, go_sem, tryV, tokV, a0, a1, a2, a3, a4, a5]) rfl ⟨rfl, ?_⟩
      repeat (refine Below.setCell ?_ (by simp) _)
      exact (((Below.refl _ _).alloc (Nat.le_refl _) _).trans (HB.out.mono (by simp)))
    have u120 : ((d.toNat : Int) == 120) = false := byte_ne h120
    have hr := HR2.out
    rw [if_neg h120] at hr
    have HR4 := Lib.hid hr
    clear hr HR2 h120
    by_cases h111 : d = 111
    ·have u111 : ((d.toNat : Int) == 111) = true := byte_eq h111
     have hr := HR4.out
     rw [if_pos h111] at hr
     have HR5 := Lib.hid hr
     clear hr HR4 h111
     go_enter Tryz.func21, Tryz.ntmps21
     go_wp2_with fail
     refine (sort_byte _ c).mono ?_
     rintro e w' ⟨rfl, rfl⟩
     go_wp2_with fail
     refine (digits_any _ l 2 2 8 rfl (by omega) (.inr (.inl rfl)) hl).mono ?_
     rintro e w1 ⟨rfl, hb⟩
     have hA := below_one hb
     obtain ⟨⟨a0, a1, a2, a3, a4, a5⟩, hfa⟩ := six_cells hA
     have hz : w.heap.size < w1.heap.size := by have := hb.size; simp at this; omega
     have HB := Lib.hid hb
     clear hb hA
     simp only [Int.reduceToNat]
     generalize digitsF 8 l 2 = G at *
     cases G with
     | none =>
      simp only [Option.map_none, tryV, tokV]
      go_wp2_with fail
      rw [← HR5.out]
      refine bodyPost_ret (v := tryV (some none)) (by simp [results, Tryz.results21, go_sem, tryV, tokV, a0, a1, a2, a3, a4, a5]) rfl ⟨rfl, ?_⟩
      repeat (refine Below.setCell ?_ (by simp) _)
      exact (((Below.refl _ _).alloc (Nat.le_refl _) _).trans (HB.out.mono (by simp)))
     | some x =>
      obtain ⟨x1, x2⟩ := x
      simp only [Option.map_some, tryV, tokV]
      go_wp2_with fail
      rw [← HR5.out]
      refine bodyPost_ret (v := tryV (some (some ⟨3, x1, [], x2⟩))) (by simp [results, Tryz.results21, go_sem, tryV, tokV, a0, a1, a2, a3, a4, a5]) rfl ⟨rfl, ?_⟩
      repeat (refine Below.setCell ?_ (by simp) _)
      exact (((Below.refl _ _).alloc (Nat.le_refl _) _).trans (HB.out.mono (by simp)))
    have u111 : ((d.toNat : Int) == 111) = false := byte_ne h111
    have hr := HR4.out
    rw [if_neg h111] at hr
    have HR6 := Lib.hid hr
    clear hr HR4 h111
    by_cases h98 : d = 98
    ·have u98 : ((d.toNat : Int) == 98) = true := byte_eq h98
     have hr := HR6.out
     rw [if_pos h98] at hr
     have HR7 := Lib.hid hr
     clear hr HR6 h98
     go_enter Tryz.func21, Tryz.ntmps21
     go_wp2_with fail
     refine (sort_byte _ c).mono ?_
     rintro e w' ⟨rfl, rfl⟩
     go_wp2_with fail
     refine (digits_any _ l 2 2 2 rfl (by omega) (.inl rfl) hl).mono ?_
     rintro e w1 ⟨rfl, hb⟩
     have hA := below_one hb
     obtain ⟨⟨a0, a1, a2, a3, a4, a5⟩, hfa⟩ := six_cells hA
     have hz : w.heap.size < w1.heap.size := by have := hb.size; simp at this; omega
     have HB := Lib.hid hb
     clear hb hA
     simp only [Int.reduceToNat]
     generalize digitsF 2 l 2 = G at *
     cases G with
     | none =>
      simp only [Option.map_none, tryV, tokV]
      go_wp2_with fail
      rw [← HR7.out]
      refine bodyPost_ret (v := tryV (some none)) (by simp [results, Tryz.results21, go_sem, tryV, tokV, a0, a1, a2, a3, a4, a5]) rfl ⟨rfl, ?_⟩
      repeat (refine Below.setCell ?_ (by simp) _)
      exact (((Below.refl _ _).alloc (Nat.le_refl _) _).trans (HB.out.mono (by simp)))
     | some x =>
      obtain ⟨x1, x2⟩ := x
      simp only [Option.map_some, tryV, tokV]
      go_wp2_with fail
      rw [← HR7.out]
      refine bodyPost_ret (v := tryV (some (some ⟨3, x1, [], x2⟩))) (by simp [results, Tryz.results21, go_sem, tryV, tokV, a0, a1, a2, a3, a4, a5]) rfl ⟨rfl, ?_⟩
      repeat (refine Below.setCell ?_ (by simp) _)
      exact (((Below.refl _ _).alloc (Nat.le_refl _) _).trans (HB.out.mono (by simp)))
    have u98 : ((d.toNat : Int) == 98) = false := byte_ne h98
    have hr := HR6.out
    rw [if_neg h98] at hr
    have HR8 := Lib.hid hr
    clear hr HR6 h98
    by_cases h39 : d = 39
    ·have u39 : ((d.toNat : Int) == 39) = true := byte_eq h39
     have hr := HR8.out
     rw [if_pos h39] at hr
     have HRa := Lib.hid hr
     clear hr HR8 h39
     go_enter Tryz.func21, Tryz.ntmps21
     go_wp2_with fail
     refine (sort_byte _ c).mono ?_
     rintro e w' ⟨rfl, rfl⟩
     go_wp2_with fail
     refine (char_any _ l hl).mono ?_
     rintro e w1 ⟨rfl, hb⟩
     have hA := below_one hb
     obtain ⟨⟨a0, a1, a2, a3, a4, a5⟩, hfa⟩ := six_cells hA
     have hz : w.heap.size < w1.heap.size := by have := hb.size; simp at this; omega
     have HB := Lib.hid hb
     clear hb hA
     generalize charF l = G at *
     cases G with
     | none =>
      simp only [Option.map_none, tryV, tokV]
      go_wp2_with fail
      rw [← HRa.out]
      refine bodyPost_ret (v := tryV (some none)) (by simp [results, Tryz.results21, go_sem, tryV, tokV, a0, a1, a2, a3, a4, a5]) rfl ⟨rfl, ?_⟩
      repeat (refine Below.setCell ?_ (by simp) _)
      exact (((Below.refl _ _).alloc (Nat.le_refl _) _).trans (HB.out.mono (by simp)))
     | some x =>
      obtain ⟨x1, x2⟩ := x
      simp only [Option.map_some, tryV, tokV]
      go_wp2_with fail
      rw [← HRa.out]
      refine bodyPost_ret (v := tryV (some (some ⟨3, x1, [], x2⟩))) (by simp [results, Tryz.results21, go_sem, tryV, tokV, a0, a1, a2, a3, a4, a5, digT]) rfl ⟨rfl, ?_⟩
      repeat (refine Below.setCell ?_ (by simp) _)
      exact (((Below.refl _ _).alloc (Nat.le_refl _) _).trans (HB.out.mono (by simp)))
    ·have u39 : ((d.toNat : Int) == 39) = false := byte_ne h39
     have hr := HR8.out
     rw [if_neg h39] at hr
     have HRa := Lib.hid hr
     clear hr HR8 h39
     go_enter Tryz.func21, Tryz.ntmps21
     go_wp2_with fail
     refine (sort_byte _ c).mono ?_
     rintro e w' ⟨rfl, rfl⟩
     go_wp2_with fail
     refine (digits_any _ l 0 0 10 rfl (Nat.zero_le _) (.inr (.inr (.inl rfl))) hl).mono ?_
     rintro e w1 ⟨rfl, hb⟩
     have hA := below_one hb
     obtain ⟨⟨a0, a1, a2, a3, a4, a5⟩, hfa⟩ := six_cells hA
     have hz : w.heap.size < w1.heap.size := by have := hb.size; simp at this; omega
     have HB := Lib.hid hb
     clear hb hA
     simp only [Int.reduceToNat]
     generalize digitsF 10 l 0 = G at *
     cases G with
     | none =>
      simp only [Option.map_none, tryV, tokV]
      go_wp2_with fail
      rw [← HRa.out]
      refine bodyPost_ret (v := tryV (some none)) (by simp [results, Tryz.results21, go_sem, tryV, tokV, a0, a1, a2, a3, a4, a5]) rfl ⟨rfl, ?_⟩
      repeat (refine Below.setCell ?_ (by simp) _)
      exact (((Below.refl _ _).alloc (Nat.le_refl _) _).trans (HB.out.mono (by simp)))
     | some x =>
      obtain ⟨x1, x2⟩ := x
      simp only [Option.map_some, tryV, tokV]
      go_wp2_with fail
      rw [← HRa.out]
      refine bodyPost_ret (v := tryV (some (some ⟨3, x1, [], x2⟩))) (by simp [results, Tryz.results21, go_sem, tryV, tokV, a0, a1, a2, a3, a4, a5]) rfl ⟨rfl, ?_⟩
      repeat (refine Below.setCell ?_ (by simp) _)
      exact (((Below.refl _ _).alloc (Nat.le_refl _) _).trans (HB.out.mono (by simp)))
   ·have t48 : ((c.toNat : Int) == 48) = false := byte_ne hc48
    have hr := HR.out
    rw [numberF_far hlc (.inl hc48)] at hr
    have HR2 := Lib.hid hr
    clear hr HR hlc hc48 hd
    go_enter Tryz.func21, Tryz.ntmps21
    go_wp2_with fail
    refine (sort_byte _ c).mono ?_
    rintro e w' ⟨rfl, rfl⟩
    go_wp2_with fail
    refine (digits_any _ l 0 0 10 rfl (Nat.zero_le _) (.inr (.inr (.inl rfl))) hl).mono ?_
    rintro e w1 ⟨rfl, hb⟩
    have hA := below_one hb
    obtain ⟨⟨a0, a1, a2, a3, a4, a5⟩, hfa⟩ := six_cells hA
    have hz : w.heap.size < w1.heap.size := by have := hb.size; simp at this; omega
    have HB := Lib.hid hb
    clear hb hA
    simp only [Int.reduceToNat]
    generalize digitsF 10 l 0 = G at *
    cases G with
    | none =>
     simp only [Option.map_none, tryV, tokV]
     go_wp2_with fail
     rw [← HR2.out]
     refine bodyPost_ret (v := tryV (some none)) (by simp [results, Tryz.results21, go_sem, tryV, tokV, a0, a1, a2, a3, a4, a5]) rfl ⟨rfl, ?_⟩
     repeat (refine Below.setCell ?_ (by simp) _)
     exact (((Below.refl _ _).alloc (Nat.le_refl _) _).trans (HB.out.mono (by simp)))
    | some x =>
     obtain ⟨x1, x2⟩ := x
     simp only [Option.map_some, tryV, tokV]
     go_wp2_with fail
     rw [← HR2.out]
     refine bodyPost_ret (v := tryV (some (some ⟨3, x1, [], x2⟩))) (by simp [results, Tryz.results21, go_sem, tryV, tokV, a0, a1, a2, a3, a4, a5]) rfl ⟨rfl, ?_⟩
     repeat (refine Below.setCell ?_ (by simp) _)
     exact (((Below.refl _ _).alloc (Nat.le_refl _) _).trans (HB.out.mono (by simp)))
 ·rw [if_neg h4]
  have t4 : (bsort c != 4) = true := by rw [bne_iff_ne]; exact h4
  clear h4 hlc
  go_enter Tryz.func21, Tryz.ntmps21
  go_wp2_with fail
  refine (sort_byte _ c).mono ?_
  rintro e w' ⟨rfl, rfl⟩
  go_wp2_with fail
  refine bodyPost_ret (v := tryV none) (by simp [results, Tryz.results21, go_sem, tryV, tokV]) rfl ⟨rfl, ?_⟩
  repeat (refine Below.setCell ?_ (by simp) _)
  exact (Below.refl _ _).alloc (Nat.le_refl _) _
theorem getF_le (q : UInt8) : ∀ (f : Nat) (l : List UInt8) (i : Nat) (b t : List UInt8) (n : Nat), getF q f l i b = some (t, n) → n ≤ i + l.length := by
 intro f
 induction f with
 | zero => intro l i b t n h; cases l <;> cases h
 | succ f ih =>
  intro l i b t n h
  cases l with
  | nil => cases h
  | cons c r =>
   have ht : r.tail.length ≤ r.length := by rw [List.length_tail]; omega
   simp only [getF] at h
   rw [List.length_cons]
   split at h
   ·split at h
    ·rename_i hh
     have hr : r ≠ [] := by rintro rfl; cases hh
     have h0 := List.length_pos_iff.2 hr
     have := ih _ _ _ _ _ h
     rw [List.length_tail] at this
     omega
    ·simp only [Option.some.injEq, Prod.mk.injEq] at h
     omega
   ·split at h
    ·cases h
    ·split at h
     ·have := ih _ _ _ _ _ h
      omega
     ·split at h
      ·cases h
      ·rename_i hr
       have h0 := List.length_pos_iff.2 hr
       split at h
       ·have := ih _ _ _ _ _ h
        rw [List.length_tail] at this
        omega
       ·split at h
        ·by_cases hk : (escapeF r).2.1 ≤ r.length
         ·have := ih _ _ _ _ _ h
          rw [List.length_drop] at this
          omega
         ·rw [List.drop_eq_nil_of_le (by omega)] at h
          cases f <;> cases h
        ·cases h
theorem getQ_le {q : UInt8} {l : List UInt8} {x : List UInt8 × Nat} (h : getQ q l = some x) : x.2 ≤ l.length := by
 have := getF_le q l.length l 0 [] x.1 x.2 h
 omega
theorem digitsF_pos {base : Nat} {l : List UInt8} {k : Nat} {x : Int × Nat} (h : digitsF base l k = some x) : 0 < x.2 := by
 unfold digitsF at h
 simp only at h
 split at h
 ·rename_i hp
  cases h
  simp only
  have : 0 < spanN (fun c => decide (digVal c < base)) (l.drop k) := by
   rcases Nat.eq_zero_or_pos (spanN (fun c => decide (digVal c < base)) (l.drop k)) with h0 | h0
   ·rw [h0] at hp
    simp [parseF] at hp
   ·exact h0
  omega
 ·cases h
theorem charF_pos {l : List UInt8} {x : Int × Nat} (h : charF l = some x) : 0 < x.2 := by
 unfold charF at h
 split at h
 ·unfold charAt2 at h
  split at h
  ·cases h
  ·split at h
   ·split at h
    ·cases h; decide
    ·cases h
   ·split at h
    ·unfold charSlash at h
     split at h
     ·cases h
     ·unfold slashRes at h
      split at h
      ·cases h; simp only; omega
      ·cases h
    ·cases h; simp only; omega
 ·cases h
theorem numberF_pos {l : List UInt8} {x : Int × Nat} (h : numberF l = some x) : 0 < x.2 := by
 unfold numberF at h
 split at h
 ·exact digitsF_pos h
 split at h
 ·exact digitsF_pos h
 split at h
 ·exact digitsF_pos h
 split at h
 ·exact charF_pos h
 ·exact digitsF_pos h
theorem tokF_pos {l : List UInt8} {t : TokIs} (h : tokF l = some t) : 0 < t.len := by
 cases l with
 | nil => cases h
 | cons c r =>
  unfold tokF at h
  simp only at h
  have hw : isWord c = true → 0 < spanN isWord (c :: r) := fun e => by rw [spanN_cons, if_pos e]; omega
  have hs : isSign c = true → 0 < spanN isSign (c :: r) := fun e => by rw [spanN_cons, if_pos e]; omega
  split at h
  ·cases h; simp only; omega
  split at h
  ·rename_i e
   cases h
   exact hw (by simp [isWord, e])
  split at h
  ·rename_i e
   cases h
   exact hs (by simp [isSign, e])
  split at h
  ·cases h; simp only; omega
  split at h
  ·rename_i e
   cases h
   exact hw (by simp [isWord, e])
  split at h
  ·obtain ⟨x, hx, rfl⟩ := Option.map_eq_some_iff.1 h
   exact numberF_pos hx
  split at h
  ·obtain ⟨x, hx, rfl⟩ := Option.map_eq_some_iff.1 h
   simp only; omega
  split at h
  ·obtain ⟨x, hx, rfl⟩ := Option.map_eq_some_iff.1 h
   simp only; omega
  split at h
  ·cases h; simp only; omega
  ·cases h
theorem endOf_le : ∀ (l : List UInt8) (n : Nat), endOf l = some n → n + 1 < l.length
 | [], n, h => by cases h
 | c :: r, n, h => by
  unfold endOf at h
  split at h
  ·rename_i hc
   cases h
   cases r with
   | nil => simp at hc
   | cons d r => simp only [List.length_cons]; omega
  ·obtain ⟨m, hm, rfl⟩ := Option.map_eq_some_iff.1 h
   have := endOf_le r m hm
   rw [List.length_cons]
   omega
theorem skipF_fuel : ∀ (f g : Nat) (l : List UInt8), l.length ≤ f → l.length ≤ g → skipF f l = skipF g l := by
 intro f
 induction f with
 | zero =>
  intro g l hf hg
  obtain rfl : l = [] := List.eq_nil_of_length_eq_zero (by omega)
  cases g <;> rfl
 | succ f ih =>
  intro g l hf hg
  cases l with
  | nil => cases g <;> rfl
  | cons c r =>
   cases g with
   | zero => simp at hg
   | succ g =>
    simp only [List.length_cons] at hf hg
    simp only [skipF]
    rw [ih g r (by omega) (by omega), ih g (r.drop _) (by rw [List.length_drop]; omega) (by rw [List.length_drop]; omega)]
    split
    ·rfl
    ·split
     ·rfl
     ·split
      ·cases h : endOf r.tail with
       | none => rfl
       | some n =>
        simp only
        rw [ih g (r.tail.drop _) (by rw [List.length_drop, List.length_tail]; omega) (by rw [List.length_drop, List.length_tail]; omega)]
      ·rfl
theorem skipF_drop : ∀ (f : Nat) (l : List UInt8), ∃ k, (skipF f l).1 = l.drop k ∧ k ≤ l.length := by
 intro f
 induction f with
 | zero => exact fun l => ⟨0, rfl, Nat.zero_le _⟩
 | succ f ih =>
  intro l
  cases l with
  | nil => exact ⟨0, rfl, Nat.zero_le _⟩
  | cons c r =>
   simp only [skipF, List.length_cons]
   split
   ·obtain ⟨k, h, hk⟩ := ih r
    exact ⟨k + 1, by rw [h, List.drop_succ_cons], by omega⟩
   ·split
    ·obtain ⟨k, h, hk⟩ := ih (r.drop (spanN (fun c => decide (c ≠ 10)) r))
     have := spanN_le (fun c => decide (c ≠ 10)) r
     refine ⟨spanN (fun c => decide (c ≠ 10)) r + k + 1, by rw [h, List.drop_succ_cons, List.drop_drop], ?_⟩
     rw [List.length_drop] at hk
     omega
    ·split
     ·cases h : endOf r.tail with
      | none => exact ⟨0, rfl, Nat.zero_le _⟩
      | some n =>
       simp only
       obtain ⟨k, h', hk⟩ := ih (r.tail.drop (n + 2))
       have := endOf_le _ _ h
       rw [List.length_tail] at this
       refine ⟨n + 2 + k + 1 + 1, ?_, ?_⟩
       ·rw [h', List.drop_succ_cons, ← List.drop_one, List.drop_drop, List.drop_drop]
        congr 1
        omega
       ·rw [List.length_drop, List.length_tail] at hk
        omega
     ·exact ⟨0, rfl, Nat.zero_le _⟩
theorem skipB_drop (l : List UInt8) : ∃ k, (skipB l).1 = l.drop k ∧ k ≤ l.length := skipF_drop _ l
theorem skipB_len (l : List UInt8) : (skipB l).1.length ≤ l.length := by
 obtain ⟨k, h, _⟩ := skipB_drop l
 rw [h, List.length_drop]
 omega
def behind (b : List UInt8) (k : List UInt8 × Bool) : List UInt8 × Bool := if k.1 = [] then skipF b.length b else (k.1 ++ b, true)
theorem skipF_cons (f : Nat) (c : UInt8) (r : List UInt8) : skipF (f + 1) (c :: r) = if bsort c = 1 then skipF f r
    else if c = 37 then skipF f (r.drop (spanN (fun c => decide (c ≠ 10)) r))
    else if c = 47 ∧ r.head? = some 42 then
     match endOf r.tail with
     | none => (c :: r, false)
     | some n => skipF f (r.tail.drop (n + 2))
    else (c :: r, true) := rfl
theorem lexF_fuel : ∀ (f g : Nat) (l : List UInt8) (line : Nat) (first : Bool), l.length < f → l.length < g → lexF f l line first = lexF g l line first := by
 intro f
 induction f with
 | zero => intro g l line first hf; omega
 | succ f ih =>
  intro g l line first hf hg
  cases g with
  | zero => omega
  | succ g =>
   simp only [lexF]
   split
   ·rfl
   ·split
    ·rfl
    ·cases ht : tokF (skipB l).1 with
     | none => rfl
     | some t =>
      simp only
      have h1 := tokF_pos ht
      have h2 := skipB_len l
      have hne : 0 < (skipB l).1.length := List.length_pos_iff.2 (by assumption)
      rw [ih g _ _ _ (by rw [List.length_drop]; omega) (by rw [List.length_drop]; omega)]
theorem lexF_step (f : Nat) (l : List UInt8) (line : Nat) (first : Bool) (hf : l.length < f) :
    lexF f l line first = if (skipB l).2 = false then ([], ((line + lines (l.take (l.length - (skipB l).1.length)) : Nat) : Int), 5)
    else if (skipB l).1 = [] then ([⟨0, ((line + lines (l.take (l.length - (skipB l).1.length)) : Nat) : Int), 0, [], false, false⟩], 0, 0)
    else match tokF (skipB l).1 with
     | none => ([], ((line + lines (l.take (l.length - (skipB l).1.length)) : Nat) : Int), 5)
     | some t =>
      (⟨t.kind, ((line + lines (l.take (l.length - (skipB l).1.length)) : Nat) : Int), t.n, t.s, decide (((skipB l).1.drop t.len).head? = some 40), !first && (skipB l).1.length == l.length⟩ :: (lexF f ((skipB l).1.drop t.len) (line + lines (l.take (l.length - (skipB l).1.length)) + lines ((skipB l).1.take t.len)) false).1,
        (lexF f ((skipB l).1.drop t.len) (line + lines (l.take (l.length - (skipB l).1.length)) + lines ((skipB l).1.take t.len)) false).2) := by
 cases f with
 | zero => omega
 | succ f =>
  rw [lexF]
  simp only
  split
  ·rfl
  ·split
   ·rfl
   ·cases ht : tokF (skipB l).1 with
    | none => rfl
    | some t =>
     simp only
     have h1 := tokF_pos ht
     have h2 := skipB_len l
     have hne : 0 < (skipB l).1.length := List.length_pos_iff.2 (by assumption)
     rw [lexF_fuel f (f + 1) _ _ _ (by rw [List.length_drop]; omega) (by rw [List.length_drop]; omega)]
theorem lines_app (a b : List UInt8) : lines (a ++ b) = lines a + lines b := by unfold lines; rw [List.count_append]
end Go.Proofs.YtiffopheamnngaaGreatDoor
