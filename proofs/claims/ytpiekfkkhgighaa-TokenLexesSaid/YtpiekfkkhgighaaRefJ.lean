/-
  What the document's own function on one token answers: the token at a place, and how many bytes it has. Condition: the place lies in the text, and the sizes that are named.
-/
import Derived.Test.YtpiekfkkhgighaaRefI
import Derived.Test.YtpiekfkkhgighaaTokW3
namespace Go.Proofs.Ytpiekfkkhgighaa
open Go.RowKit
set_option maxRecDepth 100000

theorem run5 (l : List UInt8) : spanN (ofSort 5) l = spanN isSign l := rfl
theorem tokF_stop {r : List UInt8} (h : r = [] ∨ r.headD 0 = 37 ∨ bsort (r.headD 0) = 1) : tokF (46 :: r) = some ⟨7, 0, [], 1⟩ := by rw [tokF, if_pos ⟨rfl, h⟩]
theorem tokF_k {c : UInt8} {r : List UInt8} (h : ¬ (c = 46 ∧ (r = [] ∨ r.headD 0 = 37 ∨ bsort (r.headD 0) = 1))) : tokF (c :: r) =
    if bsort c = 2 then some ⟨1, 0, (c :: r).take (spanN isWord (c :: r)), spanN isWord (c :: r)⟩
    else if bsort c = 5 then some ⟨1, 0, (c :: r).take (spanN isSign (c :: r)), spanN isSign (c :: r)⟩
    else if bsort c = 6 then some ⟨1, 0, [c], 1⟩
    else if bsort c = 3 then some ⟨4, 0, (c :: r).take (spanN isWord (c :: r)), spanN isWord (c :: r)⟩
    else if bsort c = 4 then (numberF (c :: r)).map numT
    else if c = 39 then (getQ 39 r).map fun x => ⟨2, 0, x.1, x.2 + 1⟩
    else if c = 34 then (getQ 34 r).map fun x => ⟨5, 0, x.1, x.2 + 1⟩
    else if bsort c = 7 then some ⟨6, 0, [c], 1⟩
    else none := by rw [tokF, if_neg h]; rfl

set_option maxHeartbeats 8000000 in
theorem rone_any (w : World) (l : List UInt8) (a : Nat) (ha : a < l.length) (hl : (l.length : Int) ≤ 1000000) :
    Calls Try.prog 28 #[.string ⟨l.toArray⟩, .int .i64 (a : Int)] w fun e w' => RTok (tokF (l.drop a)) e ∧ Below w.heap.size w w' := by
  obtain ⟨c, hd, hx, hg⟩ := byte_at l a ha
  have hlt : (a : Int) < (l.length : Int) := by omega
  have hlt1 : (a : Int) + 1 ≤ (l.length : Int) := by omega
  obtain ⟨T, hT⟩ : ∃ T, tokF (l.drop a) = T := ⟨_, rfl⟩
  have hone := one_at hg
  have HONE := Lib.hid hone
  clear hg hone
  rw [hT]
  by_cases h46 : c = 46
  · subst h46
    have hk5 : bsort 46 = 5 := by decide
    by_cases h1 : a + 1 < l.length
    · obtain ⟨d, hd1, hx1, -⟩ := byte_at l (a + 1) h1
      have h1' : (a : Int) + 1 < (l.length : Int) := by omega
      have h1'' : decide ((l.length : Int) ≤ (a : Int) + 1) = false := decide_eq_false (by omega)
      by_cases hb : bsort d = 1
      · rw [hd, tokF_stop (.inr (.inr (by rw [hd1]; exact hb)))] at hT
        have HT := Lib.hid hT
        have HB1 := Lib.hid hb
        have HK := Lib.hid hk5
        clear hT hd hd1 hb hk5
        go_enter Try.func28, Try.ntmps28
        go_wp2_with fail
        refine (rsort_any _ 46).mono ?_
        rintro e w' ⟨rfl, rfl⟩
        rw [HK.out]
        go_wp2_with fail
        refine (rsort_any _ d).mono ?_
        rintro e w' ⟨rfl, rfl⟩
        rw [HB1.out]
        go_wp2_with fail
        refine bodyPost_ret (v := tokR ⟨7, 0, [], 1⟩) (by simp [results, Try.results28, go_sem, tokR]) rfl ?_
        rw [← HT.out]
        refine ⟨RTok.yes _, ?_⟩
        repeat (refine Below.setCell ?_ (by simp) _)
        exact (Below.refl _ _).alloc (Nat.le_refl _) _
      have tb : (bsort d == 1) = false := beq_eq_false_iff_ne.2 hb
      by_cases h37 : d = 37
      · subst h37
        rw [hd, tokF_stop (.inr (.inl (by rw [hd1]; rfl)))] at hT
        have HT := Lib.hid hT
        have HK := Lib.hid hk5
        clear hT hd hd1 hb hk5
        go_enter Try.func28, Try.ntmps28
        go_wp2_with fail
        refine (rsort_any _ 46).mono ?_
        rintro e w' ⟨rfl, rfl⟩
        rw [HK.out]
        go_wp2_with fail
        refine (rsort_any _ 37).mono ?_
        rintro e w' ⟨rfl, rfl⟩
        go_wp2_with fail
        refine bodyPost_ret (v := tokR ⟨7, 0, [], 1⟩) (by simp [results, Try.results28, go_sem, tokR]) rfl ?_
        rw [← HT.out]
        refine ⟨RTok.yes _, ?_⟩
        repeat (refine Below.setCell ?_ (by simp) _)
        exact (Below.refl _ _).alloc (Nat.le_refl _) _
      have t37 : ((d.toNat : Int) == 37) = false := byte_ne h37
      rw [hd, tokF_k (by rintro ⟨-, h⟩; rw [hd1] at h; rcases h with h | h | h; · cases h
                         · exact h37 h
                         · exact hb h), if_neg (by decide), if_pos hk5] at hT
      have HK := Lib.hid hk5
      clear hd1 hb h37 hk5
      have hsp := spanN_le isSign (l.drop a)
      rw [List.length_drop] at hsp
      rw [← hd] at hT
      obtain ⟨N, hN⟩ : ∃ N, spanN isSign (l.drop a) = N := ⟨_, rfl⟩
      rw [hN] at hT hsp
      have hN3 : (a : Int) + (N : Int) ≤ (l.length : Int) := by omega
      have hN4 : (N : Int) ≤ 1000000 := by omega
      have hs : (⟨l.toArray⟩ : ByteArray).extract a (a + N) = ⟨((l.drop a).take N).toArray⟩ := by rw [slice_mid, show a + N - a = N by omega]
      generalize (l.drop a).take N = S at *
      have HT := Lib.hid hT
      have HN := Lib.hid hN
      clear hT hN hsp hd
      go_enter Try.func28, Try.ntmps28
      go_wp2_with fail
      refine (rsort_any _ 46).mono ?_
      rintro e w' ⟨rfl, rfl⟩
      rw [HK.out]
      go_wp2_with fail
      refine (rsort_any _ d).mono ?_
      rintro e w' ⟨rfl, rfl⟩
      go_wp2_with fail
      refine (rrun_any _ l a 5 (by omega) hl).mono ?_
      rintro e1 w' ⟨rfl, rfl⟩
      rw [run5]
      rw [HN.out]
      go_wp2_with fail
      refine bodyPost_ret (v := tokR ⟨1, 0, S, N⟩) (by simp [results, Try.results28, go_sem, tokR]) rfl ?_
      rw [← HT.out]
      refine ⟨RTok.yes _, ?_⟩
      repeat (refine Below.setCell ?_ (by simp) _)
      exact (Below.refl _ _).alloc (Nat.le_refl _) _
    · have h1'' : decide ((l.length : Int) ≤ (a : Int) + 1) = true := decide_eq_true (by omega)
      rw [hd, tokF_stop (.inl (List.drop_eq_nil_of_le (by omega)))] at hT
      have HT := Lib.hid hT
      have HK := Lib.hid hk5
      clear hT hd hk5
      go_enter Try.func28, Try.ntmps28
      go_wp2_with fail
      refine (rsort_any _ 46).mono ?_
      rintro e w' ⟨rfl, rfl⟩
      rw [HK.out]
      go_wp2_with fail
      refine bodyPost_ret (v := tokR ⟨7, 0, [], 1⟩) (by simp [results, Try.results28, go_sem, tokR]) rfl ?_
      rw [← HT.out]
      refine ⟨RTok.yes _, ?_⟩
      repeat (refine Below.setCell ?_ (by simp) _)
      exact (Below.refl _ _).alloc (Nat.le_refl _) _
  have t46 : ((c.toNat : Int) == 46) = false := byte_ne h46
  rw [hd, tokF_k (fun h => h46 h.1)] at hT
  clear h46
  by_cases hk2 : bsort c = 2
  · have hk := hk2
    rw [if_pos hk] at hT
    clear  hk2
    have hsp := spanN_le isWord (l.drop a)
    rw [List.length_drop] at hsp
    rw [← hd] at hT
    obtain ⟨N, hN⟩ : ∃ N, spanN isWord (l.drop a) = N := ⟨_, rfl⟩
    rw [hN] at hT hsp
    have hN3 : (a : Int) + (N : Int) ≤ (l.length : Int) := by omega
    have hN4 : (N : Int) ≤ 1000000 := by omega
    have hs : (⟨l.toArray⟩ : ByteArray).extract a (a + N) = ⟨((l.drop a).take N).toArray⟩ := by rw [slice_mid, show a + N - a = N by omega]
    generalize (l.drop a).take N = S at *
    have HT := Lib.hid hT
    have HN := Lib.hid hN
    clear hT hN hsp hd
    have HK := Lib.hid hk
    clear hk
    go_enter Try.func28, Try.ntmps28
    go_wp2_with fail
    refine (rsort_any _ c).mono ?_
    rintro e w' ⟨rfl, rfl⟩
    rw [HK.out]
    go_wp2_with fail
    refine (rword_any _ l a (by omega) hl).mono ?_
    rintro e1 w' ⟨rfl, rfl⟩
    rw [HN.out]
    go_wp2_with fail
    refine bodyPost_ret (v := tokR ⟨1, 0, S, N⟩) (by simp [results, Try.results28, go_sem, tokR]) rfl ?_
    rw [← HT.out]
    refine ⟨RTok.yes _, ?_⟩
    repeat (refine Below.setCell ?_ (by simp) _)
    exact (Below.refl _ _).alloc (Nat.le_refl _) _
  by_cases hk5 : bsort c = 5
  · have hk := hk5
    rw [if_neg (by rw [hk]; decide), if_pos hk] at hT
    clear hk2 hk5
    have hsp := spanN_le isSign (l.drop a)
    rw [List.length_drop] at hsp
    rw [← hd] at hT
    obtain ⟨N, hN⟩ : ∃ N, spanN isSign (l.drop a) = N := ⟨_, rfl⟩
    rw [hN] at hT hsp
    have hN3 : (a : Int) + (N : Int) ≤ (l.length : Int) := by omega
    have hN4 : (N : Int) ≤ 1000000 := by omega
    have hs : (⟨l.toArray⟩ : ByteArray).extract a (a + N) = ⟨((l.drop a).take N).toArray⟩ := by rw [slice_mid, show a + N - a = N by omega]
    generalize (l.drop a).take N = S at *
    have HT := Lib.hid hT
    have HN := Lib.hid hN
    clear hT hN hsp hd
    have HK := Lib.hid hk
    clear hk
    go_enter Try.func28, Try.ntmps28
    go_wp2_with fail
    refine (rsort_any _ c).mono ?_
    rintro e w' ⟨rfl, rfl⟩
    rw [HK.out]
    go_wp2_with fail
    refine (rrun_any _ l a 5 (by omega) hl).mono ?_
    rintro e1 w' ⟨rfl, rfl⟩
    rw [run5]
    rw [HN.out]
    go_wp2_with fail
    refine bodyPost_ret (v := tokR ⟨1, 0, S, N⟩) (by simp [results, Try.results28, go_sem, tokR]) rfl ?_
    rw [← HT.out]
    refine ⟨RTok.yes _, ?_⟩
    repeat (refine Below.setCell ?_ (by simp) _)
    exact (Below.refl _ _).alloc (Nat.le_refl _) _
  by_cases hk6 : bsort c = 6
  · have hk := hk6
    rw [if_neg (by rw [hk]; decide), if_neg (by rw [hk]; decide), if_pos hk] at hT
    clear hk2 hk5 hk6
    have HT := Lib.hid hT
    have HK := Lib.hid hk
    have hs : (⟨l.toArray⟩ : ByteArray).extract a (a + 1) = ⟨[c].toArray⟩ := HONE.out
    clear hT hk hd
    go_enter Try.func28, Try.ntmps28
    go_wp2_with fail
    refine (rsort_any _ c).mono ?_
    rintro e w' ⟨rfl, rfl⟩
    rw [HK.out]
    go_wp2_with fail
    refine bodyPost_ret (v := tokR ⟨1, 0, [c], 1⟩) (by simp [results, Try.results28, go_sem, tokR]) rfl ?_
    rw [← HT.out]
    refine ⟨RTok.yes _, ?_⟩
    repeat (refine Below.setCell ?_ (by simp) _)
    exact (Below.refl _ _).alloc (Nat.le_refl _) _
  by_cases hk3 : bsort c = 3
  · have hk := hk3
    rw [if_neg (by rw [hk]; decide), if_neg (by rw [hk]; decide), if_neg (by rw [hk]; decide), if_pos hk] at hT
    clear hk2 hk5 hk6 hk3
    have hsp := spanN_le isWord (l.drop a)
    rw [List.length_drop] at hsp
    rw [← hd] at hT
    obtain ⟨N, hN⟩ : ∃ N, spanN isWord (l.drop a) = N := ⟨_, rfl⟩
    rw [hN] at hT hsp
    have hN3 : (a : Int) + (N : Int) ≤ (l.length : Int) := by omega
    have hN4 : (N : Int) ≤ 1000000 := by omega
    have hs : (⟨l.toArray⟩ : ByteArray).extract a (a + N) = ⟨((l.drop a).take N).toArray⟩ := by rw [slice_mid, show a + N - a = N by omega]
    generalize (l.drop a).take N = S at *
    have HT := Lib.hid hT
    have HN := Lib.hid hN
    clear hT hN hsp hd
    have HK := Lib.hid hk
    clear hk
    go_enter Try.func28, Try.ntmps28
    go_wp2_with fail
    refine (rsort_any _ c).mono ?_
    rintro e w' ⟨rfl, rfl⟩
    rw [HK.out]
    go_wp2_with fail
    refine (rword_any _ l a (by omega) hl).mono ?_
    rintro e1 w' ⟨rfl, rfl⟩
    rw [HN.out]
    go_wp2_with fail
    refine bodyPost_ret (v := tokR ⟨4, 0, S, N⟩) (by simp [results, Try.results28, go_sem, tokR]) rfl ?_
    rw [← HT.out]
    refine ⟨RTok.yes _, ?_⟩
    repeat (refine Below.setCell ?_ (by simp) _)
    exact (Below.refl _ _).alloc (Nat.le_refl _) _
  by_cases hk4 : bsort c = 4
  · have hk := hk4
    rw [if_neg (by rw [hk]; decide), if_neg (by rw [hk]; decide), if_neg (by rw [hk]; decide), if_neg (by rw [hk]; decide), if_pos hk] at hT
    clear hk2 hk5 hk6 hk3 hk4
    rw [← hd] at hT
    have HT := Lib.hid hT
    have HK := Lib.hid hk
    clear hT hk hd
    go_enter Try.func28, Try.ntmps28
    go_wp2_with fail
    refine (rsort_any _ c).mono ?_
    rintro e w' ⟨rfl, rfl⟩
    rw [HK.out]
    go_wp2_with fail
    refine (rnumber_any _ l a ha hl).mono ?_
    rintro e1 w1 ⟨⟨t, ht1, ht2, rfl⟩, hb⟩
    rw [HT.out] at ht1 ht2
    have HR := Lib.hid (And.intro ht1 ht2)
    have hA := below_one hb
    obtain ⟨⟨a0, a1, a2, a3, a4, a5⟩, hfa⟩ := six_cells hA
    have hz : w.heap.size < w1.heap.size := by have := hb.size; simp at this; omega
    have HB := Lib.hid hb
    clear hb hA ht1 ht2
    unfold tokR
    go_wp2_with fail
    refine bodyPost_ret (v := tokR t) (by simp [results, Try.results28, go_sem, tokR, a0, a1, a2, a3, a4, a5]) rfl ?_
    refine ⟨⟨t, HR.out.1, HR.out.2, rfl⟩, ?_⟩
    repeat (refine Below.setCell ?_ (by simp) _)
    exact (((Below.refl _ _).alloc (Nat.le_refl _) _).trans (HB.out.mono (by simp)))
  rw [if_neg hk2, if_neg hk5, if_neg hk6, if_neg hk3, if_neg hk4] at hT
  have q2 : (bsort c == 2) = false := beq_eq_false_iff_ne.2 hk2
  have q5 : (bsort c == 5) = false := beq_eq_false_iff_ne.2 hk5
  have q6 : (bsort c == 6) = false := beq_eq_false_iff_ne.2 hk6
  have q3 : (bsort c == 3) = false := beq_eq_false_iff_ne.2 hk3
  have q4 : (bsort c == 4) = false := beq_eq_false_iff_ne.2 hk4
  clear hk2 hk5 hk6 hk3 hk4
  by_cases h39 : c = 39
  · subst h39
    have hk8 : bsort 39 = 8 := by decide
    rw [if_pos rfl] at hT
    have hsl : (⟨l.toArray⟩ : ByteArray).extract (a + 1) l.length = ⟨(l.drop (a + 1)).toArray⟩ := slice_end l (a + 1)
    have hrl : (l.drop (a + 1)).length ≤ l.length := by rw [List.length_drop]; omega
    have hbd : ∀ x, getQ 39 (l.drop (a + 1)) = some x → x.2 ≤ (l.drop (a + 1)).length := fun x h => getQ_le h
    generalize l.drop (a + 1) = r at *
    obtain ⟨G, hG⟩ : ∃ G, getQ 39 r = G := ⟨_, rfl⟩
    rw [hG] at hT
    simp only [hG] at hbd
    have HBD := Lib.hid hbd
    have HG := Lib.hid hG
    have HT0 := Lib.hid hT
    have HK := Lib.hid hk8
    clear hT hd hG hk8 q2 q5 q6 q3 q4 hbd
    go_enter Try.func28, Try.ntmps28
    go_wp2_with fail
    refine (rsort_any _ 39).mono ?_
    rintro e w' ⟨rfl, rfl⟩
    rw [HK.out]
    go_wp2_with fail
    refine (rget_any _ r 39 39 rfl (by omega)).mono ?_
    rintro e1 w1 ⟨rfl, hb⟩
    rw [HG.out]
    have hA := below_one hb
    obtain ⟨⟨a0, a1, a2, a3, a4, a5⟩, hfa⟩ := six_cells hA
    have hz : w.heap.size < w1.heap.size := by have := hb.size; simp at this; omega
    have HB := Lib.hid hb
    clear hb hA hsl
    cases G with
    | none =>
      have ht := HT0.out
      simp only [Option.map_none] at ht
      have HT := Lib.hid ht
      clear ht HT0
      simp only [getRes]
      go_wp2_with fail
      refine bodyPost_ret (v := tokR ⟨0, 0, [], 0⟩) (by simp [results, Try.results28, go_sem, tokR, a0, a1, a2, a3, a4, a5]) rfl ?_
      rw [← HT.out]
      refine ⟨RTok.no _ rfl, ?_⟩
      repeat (refine Below.setCell ?_ (by simp) _)
      exact (((Below.refl _ _).alloc (Nat.le_refl _) _).trans (HB.out.mono (by simp)))
    | some x =>
      obtain ⟨t, n⟩ := x
      have hn := HBD.out _ rfl
      simp only at hn
      have hn2 : (n : Int) ≤ 1000000 := by omega
      have ht := HT0.out
      simp only [Option.map_some] at ht
      have HT := Lib.hid ht
      clear ht HT0 hn
      simp only [getRes]
      go_wp2_with fail
      refine bodyPost_ret (v := tokR ⟨2, 0, t, n + 1⟩) (by simp [results, Try.results28, go_sem, tokR, a0, a1, a2, a3, a4, a5]) rfl ?_
      rw [← HT.out]
      refine ⟨RTok.yes _, ?_⟩
      repeat (refine Below.setCell ?_ (by simp) _)
      exact (((Below.refl _ _).alloc (Nat.le_refl _) _).trans (HB.out.mono (by simp)))
  rw [if_neg h39] at hT
  have t39 : ((c.toNat : Int) == 39) = false := byte_ne h39
  clear h39
  by_cases h34 : c = 34
  · subst h34
    have hk8 : bsort 34 = 8 := by decide
    rw [if_pos rfl] at hT
    have hsl : (⟨l.toArray⟩ : ByteArray).extract (a + 1) l.length = ⟨(l.drop (a + 1)).toArray⟩ := slice_end l (a + 1)
    have hrl : (l.drop (a + 1)).length ≤ l.length := by rw [List.length_drop]; omega
    have hbd : ∀ x, getQ 34 (l.drop (a + 1)) = some x → x.2 ≤ (l.drop (a + 1)).length := fun x h => getQ_le h
    generalize l.drop (a + 1) = r at *
    obtain ⟨G, hG⟩ : ∃ G, getQ 34 r = G := ⟨_, rfl⟩
    rw [hG] at hT
    simp only [hG] at hbd
    have HBD := Lib.hid hbd
    have HG := Lib.hid hG
    have HT0 := Lib.hid hT
    have HK := Lib.hid hk8
    clear hT hd hG hk8 q2 q5 q6 q3 q4 t39 hbd
    go_enter Try.func28, Try.ntmps28
    go_wp2_with fail
    refine (rsort_any _ 34).mono ?_
    rintro e w' ⟨rfl, rfl⟩
    rw [HK.out]
    go_wp2_with fail
    refine (rget_any _ r 34 34 rfl (by omega)).mono ?_
    rintro e1 w1 ⟨rfl, hb⟩
    rw [HG.out]
    have hA := below_one hb
    obtain ⟨⟨a0, a1, a2, a3, a4, a5⟩, hfa⟩ := six_cells hA
    have hz : w.heap.size < w1.heap.size := by have := hb.size; simp at this; omega
    have HB := Lib.hid hb
    clear hb hA hsl
    cases G with
    | none =>
      have ht := HT0.out
      simp only [Option.map_none] at ht
      have HT := Lib.hid ht
      clear ht HT0
      simp only [getRes]
      go_wp2_with fail
      refine bodyPost_ret (v := tokR ⟨0, 0, [], 0⟩) (by simp [results, Try.results28, go_sem, tokR, a0, a1, a2, a3, a4, a5]) rfl ?_
      rw [← HT.out]
      refine ⟨RTok.no _ rfl, ?_⟩
      repeat (refine Below.setCell ?_ (by simp) _)
      exact (((Below.refl _ _).alloc (Nat.le_refl _) _).trans (HB.out.mono (by simp)))
    | some x =>
      obtain ⟨t, n⟩ := x
      have hn := HBD.out _ rfl
      simp only at hn
      have hn2 : (n : Int) ≤ 1000000 := by omega
      have ht := HT0.out
      simp only [Option.map_some] at ht
      have HT := Lib.hid ht
      clear ht HT0 hn
      simp only [getRes]
      go_wp2_with fail
      refine bodyPost_ret (v := tokR ⟨5, 0, t, n + 1⟩) (by simp [results, Try.results28, go_sem, tokR, a0, a1, a2, a3, a4, a5]) rfl ?_
      rw [← HT.out]
      refine ⟨RTok.yes _, ?_⟩
      repeat (refine Below.setCell ?_ (by simp) _)
      exact (((Below.refl _ _).alloc (Nat.le_refl _) _).trans (HB.out.mono (by simp)))
  rw [if_neg h34] at hT
  have t34 : ((c.toNat : Int) == 34) = false := byte_ne h34
  clear h34
  by_cases hk : bsort c = 7
  · rw [if_pos hk] at hT
    clear q2 q5 q6 q3 q4
    have HT := Lib.hid hT
    have HK := Lib.hid hk
    have hs : (⟨l.toArray⟩ : ByteArray).extract a (a + 1) = ⟨[c].toArray⟩ := HONE.out
    clear hT hk hd
    go_enter Try.func28, Try.ntmps28
    go_wp2_with fail
    refine (rsort_any _ c).mono ?_
    rintro e w' ⟨rfl, rfl⟩
    rw [HK.out]
    go_wp2_with fail
    refine bodyPost_ret (v := tokR ⟨6, 0, [c], 1⟩) (by simp [results, Try.results28, go_sem, tokR]) rfl ?_
    rw [← HT.out]
    refine ⟨RTok.yes _, ?_⟩
    repeat (refine Below.setCell ?_ (by simp) _)
    exact (Below.refl _ _).alloc (Nat.le_refl _) _
  rw [if_neg hk] at hT
  have q7 : (bsort c == 7) = false := beq_eq_false_iff_ne.2 hk
  have HT := Lib.hid hT
  clear hT hk hd
  go_enter Try.func28, Try.ntmps28
  go_wp2_with fail
  refine (rsort_any _ c).mono ?_
  rintro e w' ⟨rfl, rfl⟩
  go_wp2_with fail
  refine bodyPost_ret (v := tokR ⟨0, 0, [], 0⟩) (by simp [results, Try.results28, go_sem, tokR]) rfl ?_
  rw [← HT.out]
  refine ⟨RTok.no _ rfl, ?_⟩
  repeat (refine Below.setCell ?_ (by simp) _)
  exact (Below.refl _ _).alloc (Nat.le_refl _) _
end Go.Proofs.Ytpiekfkkhgighaa
