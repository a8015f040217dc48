/-
  What the document's own number (layer 4) answers: a number's token, and how many bytes it has. Condition: a digit stands at the place, and the sizes that are named.
-/
import Derived.Test.YtpiekfkkhgighaaRefD
import Derived.Test.YtpiekfkkhgighaaRefH
import Derived.Test.YtpiekfkkhgighaaTokLe
import Derived.Test.YtpiekfkkhgighaaTokW2
namespace Go.Proofs.Ytpiekfkkhgighaa
open Go.RowKit
set_option maxRecDepth 100000

/-- What the document's functions on tokens answer: the token, and how many bytes it has. -/
def tokR (t : TokIs) : Value := .tuple #[.agg #[.int .i64 t.kind, .int .i64 0, .int .i64 t.n, .string ⟨t.s.toArray⟩, .bool false, .bool false], .int .i64 (t.len : Int)]
/-- It answers the plain law's token, or one of no bytes. -/
def RTok (o : Option TokIs) (e : Ending) : Prop := ∃ t : TokIs, (∀ u, o = some u → t = u) ∧ (o = none → t.len = 0) ∧ e = .returned (tokR t)
theorem RTok.yes (t : TokIs) : RTok (some t) (.returned (tokR t)) := ⟨t, (fun u h => by injection h), (fun h => by cases h), rfl⟩
theorem RTok.no (t : TokIs) (h : t.len = 0) : RTok none (.returned (tokR t)) := ⟨t, (fun u h => by cases h), (fun _ => h), rfl⟩

theorem rdigits_i (w : World) (l : List UInt8) (i : Int) (k : Nat) (hik : i = (k : Int)) (hk : k ≤ l.length) (hl : (l.length : Int) ≤ 1000000) (b : Int) (bn : Nat) (hb : (b = 2 ∧ bn = 2) ∨ (b = 8 ∧ bn = 8) ∨ (b = 10 ∧ bn = 10) ∨ (b = 16 ∧ bn = 16)) :
    Calls Try.prog 74 #[.string ⟨l.toArray⟩, .int .i64 i, .int .i64 b] w fun e w' => e = .returned (.int .i64 (spanN (isDig bn) (l.drop k) : Int)) ∧ w = w' := by
  subst hik
  rcases hb with ⟨rfl, rfl⟩ | ⟨rfl, rfl⟩ | ⟨rfl, rfl⟩ | ⟨rfl, rfl⟩
  · exact rdigits_2 w l k hk hl
  · exact rdigits_8 w l k hk hl
  · exact rdigits_10 w l k hk hl
  · exact rdigits_16 w l k hk hl
theorem rparse_i (w : World) (l : List UInt8) (hl : (l.length : Int) ≤ 1000000) (b : Int) (bn : Nat) (hb : (b = 2 ∧ bn = 2) ∨ (b = 8 ∧ bn = 8) ∨ (b = 10 ∧ bn = 10) ∨ (b = 16 ∧ bn = 16)) :
    Calls Try.prog 75 #[.string ⟨l.toArray⟩, .int .i64 b] w fun e w' => e = .returned (.tuple #[.int .i64 (parseF bn l).1, .int .i64 (parseF bn l).2]) ∧ w = w' := by
  rcases hb with ⟨rfl, rfl⟩ | ⟨rfl, rfl⟩ | ⟨rfl, rfl⟩ | ⟨rfl, rfl⟩
  · exact rparse_2 w l hl
  · exact rparse_8 w l hl
  · exact rparse_10 w l hl
  · exact rparse_16 w l hl
theorem digitsF_at (b : Nat) (l : List UInt8) (a f : Nat) : digitsF b (l.drop a) f = if (parseF b ((l.drop (a + f)).take (spanN (isDig b) (l.drop (a + f))))).2 = 0 then some ((parseF b ((l.drop (a + f)).take (spanN (isDig b) (l.drop (a + f))))).1, f + spanN (isDig b) (l.drop (a + f))) else none := by
  unfold digitsF
  rw [List.drop_drop]
  rfl
def numT (x : Int × Nat) : TokIs := ⟨3, x.1, [], x.2⟩

set_option maxHeartbeats 8000000 in
theorem rnumber_any (w : World) (l : List UInt8) (a : Nat) (ha : a < l.length) (hl : (l.length : Int) ≤ 1000000) :
    Calls Try.prog 52 #[.string ⟨l.toArray⟩, .int .i64 (a : Int)] w fun e w' => RTok ((numberF (l.drop a)).map numT) e ∧ Below w.heap.size w w' := by
  obtain ⟨c, hd, hx, -⟩ := byte_at l a ha
  have hlt : (a : Int) < (l.length : Int) := by omega
  obtain ⟨T, hT⟩ : ∃ T, (numberF (l.drop a)).map numT = T := ⟨_, rfl⟩
  rw [hT]
  by_cases h48 : c = 48
  · subst h48
    by_cases h1 : a + 1 < l.length
    · obtain ⟨d, hd1, hx1, -⟩ := byte_at l (a + 1) h1
      have h1' : (a : Int) + 1 < (l.length : Int) := by omega
      have hdd : l.drop a = 48 :: d :: l.drop (a + 2) := by rw [hd, hd1]
      have hxn : (48 : UInt8) ≠ 0 := by decide
      clear hxn
      by_cases h120 : d = 120
      · subst h120
        have hq : numberF (l.drop a) = digitsF 16 (l.drop a) 2 := by
          rw [hdd, numberF, if_pos (by simp)]
        clear hd hd1 hdd
        have hnum := hq
        rw [digitsF_at] at hnum
        have hsp := spanN_le (isDig 16) (l.drop (a + 2))
        rw [List.length_drop] at hsp
        obtain ⟨N, hN⟩ : ∃ N, spanN (isDig 16) (l.drop (a + 2)) = N := ⟨_, rfl⟩
        rw [show a + 2 = a + 2 from rfl, hN] at hnum
        have hN2 : N ≤ l.length - (a + 2) := by rw [← hN]; exact hsp
        have hN3 : (a : Int) + 2 + (N : Int) ≤ (l.length : Int) := by omega
        have hN4 : (N : Int) ≤ 1000000 := by omega
        have hs : (⟨l.toArray⟩ : ByteArray).extract (a + 2) (a + 2 + N) = ⟨((l.drop (a + 2)).take N).toArray⟩ := by rw [slice_mid, show a + 2 + N - (a + 2) = N by omega]
        have hSl : ((l.drop (a + 2)).take N).length ≤ N := List.length_take_le _ _
        generalize (l.drop (a + 2)).take N = S at *
        obtain ⟨x, e, hxe⟩ : ∃ x e, parseF 16 S = (x, e) := ⟨_, _, rfl⟩
        rw [hxe] at hnum
        rw [hnum] at hT
        have HXE := Lib.hid hxe
        have HT := Lib.hid hT
        have HNN := Lib.hid hN
        clear hnum hsp hN hT hxe
        go_enter Try.func52, Try.ntmps52
        go_wp2_with fail
        refine (rdigits_i _ l _ (a + 2) (by omega) (by omega) hl 16 16 (.inr (.inr (.inr ⟨rfl, rfl⟩)))).mono ?_
        rintro e1 w' ⟨rfl, rfl⟩
        rw [HNN.out]
        go_wp2_with fail
        refine (rparse_i _ S (by omega) 16 16 (.inr (.inr (.inr ⟨rfl, rfl⟩)))).mono ?_
        rintro e1 w' ⟨rfl, rfl⟩
        rw [HXE.out]
        simp only
        clear hs
        by_cases he : e = 0
        · subst he
          have ht := HT.out
          rw [if_pos rfl] at ht
          simp only [Option.map_some, numT] at ht
          have HT2 := Lib.hid ht
          clear ht HT
          go_wp2_with fail
          refine bodyPost_ret (v := tokR ⟨3, x, [], 2 + N⟩) (by simp [results, Try.results52, go_sem, tokR]; omega) rfl ?_
          rw [← HT2.out]
          refine ⟨RTok.yes _, ?_⟩
          repeat (refine Below.setCell ?_ (by simp) _)
          exact (((Below.refl _ _).alloc (Nat.le_refl _) _).alloc (by simp) _)
        · have te : ((e : Int) == 0) = false := beq_eq_false_iff_ne.2 he
          have te' : ((e : Int) != 0) = true := by rw [bne, te]; rfl
          have ht := HT.out
          rw [if_neg he] at ht
          simp only [Option.map_none] at ht
          have HT2 := Lib.hid ht
          clear ht HT he
          go_wp2_with fail
          refine bodyPost_ret (v := tokR ⟨3, 0, [], 0⟩) (by simp [results, Try.results52, go_sem, tokR]) rfl ?_
          rw [← HT2.out]
          refine ⟨RTok.no _ rfl, ?_⟩
          repeat (refine Below.setCell ?_ (by simp) _)
          exact (((Below.refl _ _).alloc (Nat.le_refl _) _).alloc (by simp) _)
      by_cases h111 : d = 111
      · subst h111
        have hq : numberF (l.drop a) = digitsF 8 (l.drop a) 2 := by
          rw [hdd, numberF, if_neg (by simp), if_pos (by simp)]
        clear hd hd1 hdd
        have hnum := hq
        rw [digitsF_at] at hnum
        have hsp := spanN_le (isDig 8) (l.drop (a + 2))
        rw [List.length_drop] at hsp
        obtain ⟨N, hN⟩ : ∃ N, spanN (isDig 8) (l.drop (a + 2)) = N := ⟨_, rfl⟩
        rw [show a + 2 = a + 2 from rfl, hN] at hnum
        have hN2 : N ≤ l.length - (a + 2) := by rw [← hN]; exact hsp
        have hN3 : (a : Int) + 2 + (N : Int) ≤ (l.length : Int) := by omega
        have hN4 : (N : Int) ≤ 1000000 := by omega
        have hs : (⟨l.toArray⟩ : ByteArray).extract (a + 2) (a + 2 + N) = ⟨((l.drop (a + 2)).take N).toArray⟩ := by rw [slice_mid, show a + 2 + N - (a + 2) = N by omega]
        have hSl : ((l.drop (a + 2)).take N).length ≤ N := List.length_take_le _ _
        generalize (l.drop (a + 2)).take N = S at *
        obtain ⟨x, e, hxe⟩ : ∃ x e, parseF 8 S = (x, e) := ⟨_, _, rfl⟩
        rw [hxe] at hnum
        rw [hnum] at hT
        have HXE := Lib.hid hxe
        have HT := Lib.hid hT
        have HNN := Lib.hid hN
        clear hnum hsp hN hT hxe
        go_enter Try.func52, Try.ntmps52
        go_wp2_with fail
        refine (rdigits_i _ l _ (a + 2) (by omega) (by omega) hl 8 8 (.inr (.inl ⟨rfl, rfl⟩))).mono ?_
        rintro e1 w' ⟨rfl, rfl⟩
        rw [HNN.out]
        go_wp2_with fail
        refine (rparse_i _ S (by omega) 8 8 (.inr (.inl ⟨rfl, rfl⟩))).mono ?_
        rintro e1 w' ⟨rfl, rfl⟩
        rw [HXE.out]
        simp only
        clear hs
        by_cases he : e = 0
        · subst he
          have ht := HT.out
          rw [if_pos rfl] at ht
          simp only [Option.map_some, numT] at ht
          have HT2 := Lib.hid ht
          clear ht HT
          go_wp2_with fail
          refine bodyPost_ret (v := tokR ⟨3, x, [], 2 + N⟩) (by simp [results, Try.results52, go_sem, tokR]; omega) rfl ?_
          rw [← HT2.out]
          refine ⟨RTok.yes _, ?_⟩
          repeat (refine Below.setCell ?_ (by simp) _)
          exact (((Below.refl _ _).alloc (Nat.le_refl _) _).alloc (by simp) _)
        · have te : ((e : Int) == 0) = false := beq_eq_false_iff_ne.2 he
          have te' : ((e : Int) != 0) = true := by rw [bne, te]; rfl
          have ht := HT.out
          rw [if_neg he] at ht
          simp only [Option.map_none] at ht
          have HT2 := Lib.hid ht
          clear ht HT he
          go_wp2_with fail
          refine bodyPost_ret (v := tokR ⟨3, 0, [], 0⟩) (by simp [results, Try.results52, go_sem, tokR]) rfl ?_
          rw [← HT2.out]
          refine ⟨RTok.no _ rfl, ?_⟩
          repeat (refine Below.setCell ?_ (by simp) _)
          exact (((Below.refl _ _).alloc (Nat.le_refl _) _).alloc (by simp) _)
      by_cases h98 : d = 98
      · subst h98
        have hq : numberF (l.drop a) = digitsF 2 (l.drop a) 2 := by
          rw [hdd, numberF, if_neg (by simp), if_neg (by simp), if_pos (by simp)]
        clear hd hd1 hdd
        have hnum := hq
        rw [digitsF_at] at hnum
        have hsp := spanN_le (isDig 2) (l.drop (a + 2))
        rw [List.length_drop] at hsp
        obtain ⟨N, hN⟩ : ∃ N, spanN (isDig 2) (l.drop (a + 2)) = N := ⟨_, rfl⟩
        rw [show a + 2 = a + 2 from rfl, hN] at hnum
        have hN2 : N ≤ l.length - (a + 2) := by rw [← hN]; exact hsp
        have hN3 : (a : Int) + 2 + (N : Int) ≤ (l.length : Int) := by omega
        have hN4 : (N : Int) ≤ 1000000 := by omega
        have hs : (⟨l.toArray⟩ : ByteArray).extract (a + 2) (a + 2 + N) = ⟨((l.drop (a + 2)).take N).toArray⟩ := by rw [slice_mid, show a + 2 + N - (a + 2) = N by omega]
        have hSl : ((l.drop (a + 2)).take N).length ≤ N := List.length_take_le _ _
        generalize (l.drop (a + 2)).take N = S at *
        obtain ⟨x, e, hxe⟩ : ∃ x e, parseF 2 S = (x, e) := ⟨_, _, rfl⟩
        rw [hxe] at hnum
        rw [hnum] at hT
        have HXE := Lib.hid hxe
        have HT := Lib.hid hT
        have HNN := Lib.hid hN
        clear hnum hsp hN hT hxe
        go_enter Try.func52, Try.ntmps52
        go_wp2_with fail
        refine (rdigits_i _ l _ (a + 2) (by omega) (by omega) hl 2 2 (.inl ⟨rfl, rfl⟩)).mono ?_
        rintro e1 w' ⟨rfl, rfl⟩
        rw [HNN.out]
        go_wp2_with fail
        refine (rparse_i _ S (by omega) 2 2 (.inl ⟨rfl, rfl⟩)).mono ?_
        rintro e1 w' ⟨rfl, rfl⟩
        rw [HXE.out]
        simp only
        clear hs
        by_cases he : e = 0
        · subst he
          have ht := HT.out
          rw [if_pos rfl] at ht
          simp only [Option.map_some, numT] at ht
          have HT2 := Lib.hid ht
          clear ht HT
          go_wp2_with fail
          refine bodyPost_ret (v := tokR ⟨3, x, [], 2 + N⟩) (by simp [results, Try.results52, go_sem, tokR]; omega) rfl ?_
          rw [← HT2.out]
          refine ⟨RTok.yes _, ?_⟩
          repeat (refine Below.setCell ?_ (by simp) _)
          exact (((Below.refl _ _).alloc (Nat.le_refl _) _).alloc (by simp) _)
        · have te : ((e : Int) == 0) = false := beq_eq_false_iff_ne.2 he
          have te' : ((e : Int) != 0) = true := by rw [bne, te]; rfl
          have ht := HT.out
          rw [if_neg he] at ht
          simp only [Option.map_none] at ht
          have HT2 := Lib.hid ht
          clear ht HT he
          go_wp2_with fail
          refine bodyPost_ret (v := tokR ⟨3, 0, [], 0⟩) (by simp [results, Try.results52, go_sem, tokR]) rfl ?_
          rw [← HT2.out]
          refine ⟨RTok.no _ rfl, ?_⟩
          repeat (refine Below.setCell ?_ (by simp) _)
          exact (((Below.refl _ _).alloc (Nat.le_refl _) _).alloc (by simp) _)
      by_cases h39 : d = 39
      · subst h39
        have hq : numberF (l.drop a) = charF (l.drop a) := by
          rw [hdd]
          rw [numberF, if_neg (by simp), if_neg (by simp), if_neg (by simp), if_pos (by simp)]
        rw [hq, hdd] at hT
        clear hq hd hd1 h120 h111 h98
        by_cases h2 : a + 2 < l.length
        · obtain ⟨c2, hd2, hx2, -⟩ := byte_at l (a + 2) h2
          have h2' : (a : Int) + 2 < (l.length : Int) := by omega
          have hcb : (c2.toNat : Int) < 256 := by have := c2.toNat_lt; omega
          have h2'' : decide ((l.length : Int) ≤ (a : Int) + 2) = false := decide_eq_false (by omega)
          rw [hd2, charF, charAt2] at hT
          clear hdd
          by_cases h10 : c2 = 10
          · subst h10
            rw [if_pos rfl] at hT
            simp only [Option.map_none] at hT
            have HT := Lib.hid hT
            clear hT hd2
            go_enter Try.func52, Try.ntmps52
            go_wp2_with fail
            refine bodyPost_ret (v := tokR ⟨3, 0, [], 0⟩) (by simp [results, Try.results52, go_sem, tokR]) rfl ?_
            rw [← HT.out]
            refine ⟨RTok.no _ rfl, ?_⟩
            repeat (refine Below.setCell ?_ (by simp) _)
            exact (((Below.refl _ _).alloc (Nat.le_refl _) _).alloc (by simp) _)
          rw [if_neg h10] at hT
          have t10 : ((c2.toNat : Int) == 10) = false := byte_ne h10
          clear h10
          by_cases h39 : c2 = 39
          · subst h39
            rw [if_pos rfl] at hT
            by_cases h3 : a + 3 < l.length
            · obtain ⟨c3, hd3, hx3, -⟩ := byte_at l (a + 3) h3
              have h3' : (a : Int) + 3 < (l.length : Int) := by omega
              by_cases h4 : c3 = 39
              · subst h4
                rw [if_pos (by rw [show a + 2 + 1 = a + 3 from rfl, hd3]; rfl)] at hT
                simp only [Option.map_some, numT] at hT
                have HT := Lib.hid hT
                clear hT hd2 hd3 t10
                go_enter Try.func52, Try.ntmps52
                go_wp2_with fail
                refine bodyPost_ret (v := tokR ⟨3, 39, [], 4⟩) (by simp [results, Try.results52, go_sem, tokR]) rfl ?_
                rw [← HT.out]
                refine ⟨RTok.yes _, ?_⟩
                repeat (refine Below.setCell ?_ (by simp) _)
                exact (((Below.refl _ _).alloc (Nat.le_refl _) _).alloc (by simp) _)
              · have t4 : ((c3.toNat : Int) == 39) = false := byte_ne h4
                rw [if_neg (by rw [show a + 2 + 1 = a + 3 from rfl, hd3]; simpa using h4)] at hT
                simp only [Option.map_none] at hT
                have HT := Lib.hid hT
                clear hT hd2 hd3 t10 h4
                go_enter Try.func52, Try.ntmps52
                go_wp2_with fail
                refine bodyPost_ret (v := tokR ⟨3, 39, [], 0⟩) (by simp [results, Try.results52, go_sem, tokR]) rfl ?_
                rw [← HT.out]
                refine ⟨RTok.no _ rfl, ?_⟩
                repeat (refine Below.setCell ?_ (by simp) _)
                exact (((Below.refl _ _).alloc (Nat.le_refl _) _).alloc (by simp) _)
            · have h3' : decide ((a : Int) + 3 < (l.length : Int)) = false := decide_eq_false (by omega)
              rw [if_neg (by rw [List.drop_eq_nil_of_le (by omega)]; simp)] at hT
              simp only [Option.map_none] at hT
              have HT := Lib.hid hT
              clear hT hd2 t10
              go_enter Try.func52, Try.ntmps52
              go_wp2_with fail
              refine bodyPost_ret (v := tokR ⟨3, 39, [], 0⟩) (by simp [results, Try.results52, go_sem, tokR]) rfl ?_
              rw [← HT.out]
              refine ⟨RTok.no _ rfl, ?_⟩
              repeat (refine Below.setCell ?_ (by simp) _)
              exact (((Below.refl _ _).alloc (Nat.le_refl _) _).alloc (by simp) _)
          rw [if_neg h39] at hT
          have t39 : ((c2.toNat : Int) == 39) = false := byte_ne h39
          clear h39
          by_cases h92 : c2 = 92
          · subst h92
            rw [if_pos rfl] at hT
            by_cases h3 : a + 3 < l.length
            · obtain ⟨c3, hd3, hx3, -⟩ := byte_at l (a + 3) h3
              have h3' : (a : Int) + 3 < (l.length : Int) := by omega
              have h4' : (a : Int) + 4 ≤ (l.length : Int) := by omega
              rw [show a + 2 + 1 = a + 3 from rfl, hd3, charSlash] at hT
              have hs : (⟨l.toArray⟩ : ByteArray).extract (a + 2) (a + 4) = ⟨#[92, c3]⟩ := by rw [slice_mid, hd2, show a + 4 - (a + 2) = 2 by omega, show a + 2 + 1 = a + 3 from rfl, hd3]; rfl
              obtain ⟨G, hG⟩ : ∃ G, getQ 39 [92, c3, 39] = G := ⟨_, rfl⟩
              rw [hG] at hT
              have HG := Lib.hid hG
              have HT0 := Lib.hid hT
              clear hT hd2 hd3 t10 t39 hG
              go_enter Try.func52, Try.ntmps52
              go_wp2_with fail
              refine (rget_any _ [92, c3, 39] 39 39 rfl (by simp)).mono ?_
              rintro e1 w1 ⟨rfl, hb1⟩
              rw [HG.out]
              obtain ⟨hA, hB⟩ := below_two hb1
              obtain ⟨⟨a0, a1, a2, a3, a4, a5⟩, hfa⟩ := six_cells hA
              obtain ⟨⟨b0, b1, b2, b3, b4, b5⟩, hfb⟩ := six_cells hB
              have hz : w.heap.size + 1 < w1.heap.size := by have := hb1.size; simp at this; omega
              have HB := Lib.hid hb1
              clear hb1 hA hB hs hcb
              cases G with
              | none =>
                have ht := HT0.out
                rw [show slashRes none = none from rfl] at ht
                simp only [Option.map_none] at ht
                have HT := Lib.hid ht
                clear ht HT0
                simp only [getRes]
                go_wp2_with fail
                refine bodyPost_ret (v := tokR ⟨3, 0, [], 0⟩) (by simp [results, Try.results52, go_sem, tokR, a0, a1, a2, a3, a4, a5]) rfl ?_
                rw [← HT.out]
                refine ⟨RTok.no _ rfl, ?_⟩
                repeat (refine Below.setCell ?_ (by simp) _)
                exact (((Below.refl _ _).alloc (Nat.le_refl _) _).alloc (by simp) _).trans (HB.out.mono (by simp; omega))
              | some x =>
                obtain ⟨t, n⟩ := x
                simp only [getRes]
                by_cases hn : n = 3
                · subst hn
                  rcases t with - | ⟨b, - | ⟨b', t⟩⟩
                  · have ht := HT0.out
                    rw [show slashRes (some ([], 3)) = none from rfl] at ht
                    simp only [Option.map_none] at ht
                    have HT := Lib.hid ht
                    clear ht HT0
                    go_wp2_with fail
                    refine bodyPost_ret (v := tokR ⟨3, 0, [], 0⟩) (by simp [results, Try.results52, go_sem, tokR, a0, a1, a2, a3, a4, a5]) rfl ?_
                    rw [← HT.out]
                    refine ⟨RTok.no _ rfl, ?_⟩
                    repeat (refine Below.setCell ?_ (by simp) _)
                    exact (((Below.refl _ _).alloc (Nat.le_refl _) _).alloc (by simp) _).trans (HB.out.mono (by simp; omega))
                  · have ht := HT0.out
                    rw [show slashRes (some ([b], 3)) = some ((b.toNat : Int), 4) from rfl] at ht
                    simp only [Option.map_some, numT] at ht
                    have hbb : (b.toNat : Int) < 256 := by have := b.toNat_lt; omega
                    have hx9 : (⟨[b].toArray⟩ : ByteArray)[0]'(by show 0 < 1; omega) = b := rfl
                    have HT := Lib.hid ht
                    clear ht HT0
                    go_wp2_with fail
                    refine bodyPost_ret (v := tokR ⟨3, (b.toNat : Int), [], 4⟩) (by simp [results, Try.results52, go_sem, tokR, a0, a1, a2, a3, a4, a5]) rfl ?_
                    rw [← HT.out]
                    refine ⟨RTok.yes _, ?_⟩
                    repeat (refine Below.setCell ?_ (by simp) _)
                    exact (((Below.refl _ _).alloc (Nat.le_refl _) _).alloc (by simp) _).trans (HB.out.mono (by simp; omega))
                  · have ht := HT0.out
                    rw [show slashRes (some (b :: b' :: t, 3)) = none from rfl] at ht
                    simp only [Option.map_none] at ht
                    have hl1 : (((b :: b' :: t).length : Int) == 1) = false := by rw [beq_eq_false_iff_ne]; simp; omega
                    have hl2 : ((b :: b' :: t).length == 1) = false := by rw [beq_eq_false_iff_ne]; simp
                    generalize b :: b' :: t = tt at *
                    have HT := Lib.hid ht
                    clear ht HT0
                    go_wp2_with fail
                    refine bodyPost_ret (v := tokR ⟨3, 0, [], 0⟩) (by simp [results, Try.results52, go_sem, tokR, a0, a1, a2, a3, a4, a5]) rfl ?_
                    rw [← HT.out]
                    refine ⟨RTok.no _ rfl, ?_⟩
                    repeat (refine Below.setCell ?_ (by simp) _)
                    exact (((Below.refl _ _).alloc (Nat.le_refl _) _).alloc (by simp) _).trans (HB.out.mono (by simp; omega))
                · have tn : ((n : Int) == 3) = false := by rw [beq_eq_false_iff_ne]; omega
                  have ht := HT0.out
                  have hsn : slashRes (some (t, n)) = none := by
                    unfold slashRes
                    split
                    · rename_i h
                      injection h with h
                      injection h with h1 h2
                      exact absurd h2 hn
                    · rfl
                  rw [hsn] at ht
                  simp only [Option.map_none] at ht
                  have HT := Lib.hid ht
                  clear ht HT0 hsn hn
                  go_wp2_with fail
                  refine bodyPost_ret (v := tokR ⟨3, 0, [], 0⟩) (by simp [results, Try.results52, go_sem, tokR, a0, a1, a2, a3, a4, a5]) rfl ?_
                  rw [← HT.out]
                  refine ⟨RTok.no _ rfl, ?_⟩
                  repeat (refine Below.setCell ?_ (by simp) _)
                  exact (((Below.refl _ _).alloc (Nat.le_refl _) _).alloc (by simp) _).trans (HB.out.mono (by simp; omega))
            · have h3' : decide ((a : Int) + 3 < (l.length : Int)) = false := decide_eq_false (by omega)
              rw [List.drop_eq_nil_of_le (show l.length ≤ a + 2 + 1 by omega), show charSlash [] = none from rfl] at hT
              simp only [Option.map_none] at hT
              have HT := Lib.hid hT
              clear hT hd2
              go_enter Try.func52, Try.ntmps52
              go_wp2_with fail
              refine bodyPost_ret (v := tokR ⟨3, 0, [], 0⟩) (by simp [results, Try.results52, go_sem, tokR]) rfl ?_
              rw [← HT.out]
              refine ⟨RTok.no _ rfl, ?_⟩
              repeat (refine Below.setCell ?_ (by simp) _)
              exact (((Below.refl _ _).alloc (Nat.le_refl _) _).alloc (by simp) _)
          rw [if_neg h92] at hT
          have t92 : ((c2.toNat : Int) == 92) = false := byte_ne h92
          simp only [Option.map_some, numT] at hT
          have HT := Lib.hid hT
          clear hT hd2 h92
          go_enter Try.func52, Try.ntmps52
          go_wp2_with fail
          refine bodyPost_ret (v := tokR ⟨3, (c2.toNat : Int), [], 3⟩) (by simp [results, Try.results52, go_sem, tokR]) rfl ?_
          rw [← HT.out]
          refine ⟨RTok.yes _, ?_⟩
          repeat (refine Below.setCell ?_ (by simp) _)
          exact (((Below.refl _ _).alloc (Nat.le_refl _) _).alloc (by simp) _)
        · have h2' : decide ((a : Int) + 2 < (l.length : Int)) = false := decide_eq_false (by omega)
          have h2'' : decide ((l.length : Int) ≤ (a : Int) + 2) = true := decide_eq_true (by omega)
          rw [List.drop_eq_nil_of_le (show l.length ≤ a + 2 by omega), show charF [48, 39] = none from rfl] at hT
          simp only [Option.map_none] at hT
          have HT := Lib.hid hT
          clear hT hdd
          go_enter Try.func52, Try.ntmps52
          go_wp2_with fail
          refine bodyPost_ret (v := tokR ⟨3, 0, [], 0⟩) (by simp [results, Try.results52, go_sem, tokR]) rfl ?_
          rw [← HT.out]
          refine ⟨RTok.no _ rfl, ?_⟩
          repeat (refine Below.setCell ?_ (by simp) _)
          exact (((Below.refl _ _).alloc (Nat.le_refl _) _).alloc (by simp) _)
      have hq : numberF (l.drop a) = digitsF 10 (l.drop a) 0 := by
        rw [hdd, numberF, if_neg (by simpa using h120), if_neg (by simpa using h111), if_neg (by simpa using h98), if_neg (by simpa using h39)]
      have t1 : ((d.toNat : Int) == 120) = false := byte_ne h120
      have t2 : ((d.toNat : Int) == 111) = false := byte_ne h111
      have t3 : ((d.toNat : Int) == 98) = false := byte_ne h98
      have t4 : ((d.toNat : Int) == 39) = false := byte_ne h39
      clear hd hd1 hdd h120 h111 h98 h39
      have hnum := hq
      rw [digitsF_at] at hnum
      have hsp := spanN_le (isDig 10) (l.drop (a))
      rw [List.length_drop] at hsp
      obtain ⟨N, hN⟩ : ∃ N, spanN (isDig 10) (l.drop (a)) = N := ⟨_, rfl⟩
      rw [show a + 0 = a from rfl, hN] at hnum
      have hN2 : N ≤ l.length - (a) := by rw [← hN]; exact hsp
      have hN3 : (a : Int) + (N : Int) ≤ (l.length : Int) := by omega
      have hN4 : (N : Int) ≤ 1000000 := by omega
      have hs : (⟨l.toArray⟩ : ByteArray).extract (a) (a + N) = ⟨((l.drop (a)).take N).toArray⟩ := by rw [slice_mid, show a + N - (a) = N by omega]
      have hSl : ((l.drop (a)).take N).length ≤ N := List.length_take_le _ _
      generalize (l.drop (a)).take N = S at *
      obtain ⟨x, e, hxe⟩ : ∃ x e, parseF 10 S = (x, e) := ⟨_, _, rfl⟩
      rw [hxe] at hnum
      rw [hnum] at hT
      have HXE := Lib.hid hxe
      have HT := Lib.hid hT
      have HNN := Lib.hid hN
      clear hnum hsp hN hT hxe
      go_enter Try.func52, Try.ntmps52
      go_wp2_with fail
      refine (rdigits_i _ l _ (a) (by omega) (by omega) hl 10 10 (.inr (.inr (.inl ⟨rfl, rfl⟩)))).mono ?_
      rintro e1 w' ⟨rfl, rfl⟩
      rw [HNN.out]
      go_wp2_with fail
      refine (rparse_i _ S (by omega) 10 10 (.inr (.inr (.inl ⟨rfl, rfl⟩)))).mono ?_
      rintro e1 w' ⟨rfl, rfl⟩
      rw [HXE.out]
      simp only
      clear hs
      by_cases he : e = 0
      · subst he
        have ht := HT.out
        rw [if_pos rfl] at ht
        simp only [Option.map_some, numT] at ht
        have HT2 := Lib.hid ht
        clear ht HT
        go_wp2_with fail
        refine bodyPost_ret (v := tokR ⟨3, x, [], 0 + N⟩) (by simp [results, Try.results52, go_sem, tokR]; omega) rfl ?_
        rw [← HT2.out]
        refine ⟨RTok.yes _, ?_⟩
        repeat (refine Below.setCell ?_ (by simp) _)
        exact (((Below.refl _ _).alloc (Nat.le_refl _) _).alloc (by simp) _)
      · have te : ((e : Int) == 0) = false := beq_eq_false_iff_ne.2 he
        have te' : ((e : Int) != 0) = true := by rw [bne, te]; rfl
        have ht := HT.out
        rw [if_neg he] at ht
        simp only [Option.map_none] at ht
        have HT2 := Lib.hid ht
        clear ht HT he
        go_wp2_with fail
        refine bodyPost_ret (v := tokR ⟨3, 0, [], 0⟩) (by simp [results, Try.results52, go_sem, tokR]) rfl ?_
        rw [← HT2.out]
        refine ⟨RTok.no _ rfl, ?_⟩
        repeat (refine Below.setCell ?_ (by simp) _)
        exact (((Below.refl _ _).alloc (Nat.le_refl _) _).alloc (by simp) _)
    · have h1' : decide ((a : Int) + 1 < (l.length : Int)) = false := decide_eq_false (by omega)
      have hq : numberF (l.drop a) = digitsF 10 (l.drop a) 0 := by
        rw [hd, List.drop_eq_nil_of_le (show l.length ≤ a + 1 by omega), numberF, if_neg (by simp), if_neg (by simp), if_neg (by simp), if_neg (by simp)]
      clear hd
      have hnum := hq
      rw [digitsF_at] at hnum
      have hsp := spanN_le (isDig 10) (l.drop (a))
      rw [List.length_drop] at hsp
      obtain ⟨N, hN⟩ : ∃ N, spanN (isDig 10) (l.drop (a)) = N := ⟨_, rfl⟩
      rw [show a + 0 = a from rfl, hN] at hnum
      have hN2 : N ≤ l.length - (a) := by rw [← hN]; exact hsp
      have hN3 : (a : Int) + (N : Int) ≤ (l.length : Int) := by omega
      have hN4 : (N : Int) ≤ 1000000 := by omega
      have hs : (⟨l.toArray⟩ : ByteArray).extract (a) (a + N) = ⟨((l.drop (a)).take N).toArray⟩ := by rw [slice_mid, show a + N - (a) = N by omega]
      have hSl : ((l.drop (a)).take N).length ≤ N := List.length_take_le _ _
      generalize (l.drop (a)).take N = S at *
      obtain ⟨x, e, hxe⟩ : ∃ x e, parseF 10 S = (x, e) := ⟨_, _, rfl⟩
      rw [hxe] at hnum
      rw [hnum] at hT
      have HXE := Lib.hid hxe
      have HT := Lib.hid hT
      have HNN := Lib.hid hN
      clear hnum hsp hN hT hxe
      go_enter Try.func52, Try.ntmps52
      go_wp2_with fail
      refine (rdigits_i _ l _ (a) (by omega) (by omega) hl 10 10 (.inr (.inr (.inl ⟨rfl, rfl⟩)))).mono ?_
      rintro e1 w' ⟨rfl, rfl⟩
      rw [HNN.out]
      go_wp2_with fail
      refine (rparse_i _ S (by omega) 10 10 (.inr (.inr (.inl ⟨rfl, rfl⟩)))).mono ?_
      rintro e1 w' ⟨rfl, rfl⟩
      rw [HXE.out]
      simp only
      clear hs
      by_cases he : e = 0
      · subst he
        have ht := HT.out
        rw [if_pos rfl] at ht
        simp only [Option.map_some, numT] at ht
        have HT2 := Lib.hid ht
        clear ht HT
        go_wp2_with fail
        refine bodyPost_ret (v := tokR ⟨3, x, [], 0 + N⟩) (by simp [results, Try.results52, go_sem, tokR]; omega) rfl ?_
        rw [← HT2.out]
        refine ⟨RTok.yes _, ?_⟩
        repeat (refine Below.setCell ?_ (by simp) _)
        exact (((Below.refl _ _).alloc (Nat.le_refl _) _).alloc (by simp) _)
      · have te : ((e : Int) == 0) = false := beq_eq_false_iff_ne.2 he
        have te' : ((e : Int) != 0) = true := by rw [bne, te]; rfl
        have ht := HT.out
        rw [if_neg he] at ht
        simp only [Option.map_none] at ht
        have HT2 := Lib.hid ht
        clear ht HT he
        go_wp2_with fail
        refine bodyPost_ret (v := tokR ⟨3, 0, [], 0⟩) (by simp [results, Try.results52, go_sem, tokR]) rfl ?_
        rw [← HT2.out]
        refine ⟨RTok.no _ rfl, ?_⟩
        repeat (refine Below.setCell ?_ (by simp) _)
        exact (((Below.refl _ _).alloc (Nat.le_refl _) _).alloc (by simp) _)
  · have t48 : ((c.toNat : Int) == 48) = false := byte_ne h48
    have hq : numberF (l.drop a) = digitsF 10 (l.drop a) 0 := by
      rw [hd, numberF, if_neg (by simp [h48]), if_neg (by simp [h48]), if_neg (by simp [h48]), if_neg (by simp [h48])]
    clear hd h48
    have hnum := hq
    rw [digitsF_at] at hnum
    have hsp := spanN_le (isDig 10) (l.drop (a))
    rw [List.length_drop] at hsp
    obtain ⟨N, hN⟩ : ∃ N, spanN (isDig 10) (l.drop (a)) = N := ⟨_, rfl⟩
    rw [show a + 0 = a from rfl, hN] at hnum
    have hN2 : N ≤ l.length - (a) := by rw [← hN]; exact hsp
    have hN3 : (a : Int) + (N : Int) ≤ (l.length : Int) := by omega
    have hN4 : (N : Int) ≤ 1000000 := by omega
    have hs : (⟨l.toArray⟩ : ByteArray).extract (a) (a + N) = ⟨((l.drop (a)).take N).toArray⟩ := by rw [slice_mid, show a + N - (a) = N by omega]
    have hSl : ((l.drop (a)).take N).length ≤ N := List.length_take_le _ _
    generalize (l.drop (a)).take N = S at *
    obtain ⟨x, e, hxe⟩ : ∃ x e, parseF 10 S = (x, e) := ⟨_, _, rfl⟩
    rw [hxe] at hnum
    rw [hnum] at hT
    have HXE := Lib.hid hxe
    have HT := Lib.hid hT
    have HNN := Lib.hid hN
    clear hnum hsp hN hT hxe
    go_enter Try.func52, Try.ntmps52
    go_wp2_with fail
    refine (rdigits_i _ l _ (a) (by omega) (by omega) hl 10 10 (.inr (.inr (.inl ⟨rfl, rfl⟩)))).mono ?_
    rintro e1 w' ⟨rfl, rfl⟩
    rw [HNN.out]
    go_wp2_with fail
    refine (rparse_i _ S (by omega) 10 10 (.inr (.inr (.inl ⟨rfl, rfl⟩)))).mono ?_
    rintro e1 w' ⟨rfl, rfl⟩
    rw [HXE.out]
    simp only
    clear hs
    by_cases he : e = 0
    · subst he
      have ht := HT.out
      rw [if_pos rfl] at ht
      simp only [Option.map_some, numT] at ht
      have HT2 := Lib.hid ht
      clear ht HT
      go_wp2_with fail
      refine bodyPost_ret (v := tokR ⟨3, x, [], 0 + N⟩) (by simp [results, Try.results52, go_sem, tokR]; omega) rfl ?_
      rw [← HT2.out]
      refine ⟨RTok.yes _, ?_⟩
      repeat (refine Below.setCell ?_ (by simp) _)
      exact (((Below.refl _ _).alloc (Nat.le_refl _) _).alloc (by simp) _)
    · have te : ((e : Int) == 0) = false := beq_eq_false_iff_ne.2 he
      have te' : ((e : Int) != 0) = true := by rw [bne, te]; rfl
      have ht := HT.out
      rw [if_neg he] at ht
      simp only [Option.map_none] at ht
      have HT2 := Lib.hid ht
      clear ht HT he
      go_wp2_with fail
      refine bodyPost_ret (v := tokR ⟨3, 0, [], 0⟩) (by simp [results, Try.results52, go_sem, tokR]) rfl ?_
      rw [← HT2.out]
      refine ⟨RTok.no _ rfl, ?_⟩
      repeat (refine Below.setCell ?_ (by simp) _)
      exact (((Below.refl _ _).alloc (Nat.le_refl _) _).alloc (by simp) _)
end Go.Proofs.Ytpiekfkkhgighaa
