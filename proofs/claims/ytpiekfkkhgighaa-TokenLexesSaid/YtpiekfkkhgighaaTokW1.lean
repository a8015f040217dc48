/-
  What the lexer's small functions answer: a token that begins at a place, or none of that sort. No condition but the sizes that are named.
-/
import Derived.Test.YtpiekfkkhgighaaToks
import Derived.Test.YtpiekfkkhgighaaParse
import Derived.Test.YtpiekfkkhgighaaGet
import Derived.Laws.DeepStrings4
namespace Go.Proofs.Ytpiekfkkhgighaa
open Go.RowKit
set_option maxRecDepth 100000

def tokV (t : TokIs) : Value := .agg #[.int .i64 t.kind, .int .i64 0, .int .i64 t.n, .string ⟨t.s.toArray⟩, .bool false, .bool false]
def tryV : Option (Option TokIs) → Value
  | none => .tuple #[tokV ⟨0, 0, [], 0⟩, .int .i64 0, .int .i64 0]
  | some none => .tuple #[tokV ⟨0, 0, [], 0⟩, .int .i64 0, .int .i64 5]
  | some (some t) => .tuple #[tokV t, .int .i64 (t.len : Int), .int .i64 0]

set_option maxHeartbeats 1000000 in
theorem word_any (w : World) (l : List UInt8) (hl : (l.length : Int) ≤ 1000000) : Calls Try.prog 41 #[.string ⟨l.toArray⟩] w fun e w' => e = .returned (.int .i64 (spanN isWord l : Int)) ∧ w = w' := by
  go_enter Try.func41, Try.ntmps41
  go_wp2_with fail
  go_loop [3] (fun i => ∃ k : Nat, k ≤ l.length ∧ i = .int .i64 k ∧ k ≤ spanN isWord l) (fun i => l.length - (intOf i).toNat)
  case atStart => exact ⟨0, Nat.zero_le _, rfl, Nat.zero_le _⟩
  case round =>
    obtain ⟨k, hk, rfl, hks⟩ := hrel
    have hsp := spanN_le isWord l
    have hgo := spanN_go isWord l k hks
    have HGO := Lib.hid hgo
    clear hgo
    by_cases hlt : k < l.length
    · obtain ⟨c, hd, hx, hg⟩ := byte_at l k hlt
      have HG := Lib.hid hg
      have hlt' : (k : Int) < (l.length : Int) := by omega
      clear hd hg
      cases hw : isWord c
      · have hn : ¬ (bsort c = 2 ∨ bsort c = 3 ∨ bsort c = 4) := by simpa [isWord] using hw
        have t2 : (bsort c != 2) = true := by rw [bne_iff_ne]; exact fun e => hn (.inl e)
        have t3 : (bsort c != 3) = true := by rw [bne_iff_ne]; exact fun e => hn (.inr (.inl e))
        have t4 : (bsort c != 4) = true := by rw [bne_iff_ne]; exact fun e => hn (.inr (.inr e))
        have he : k = spanN isWord l := by
          have h2 := HGO.out.1
          rcases Nat.lt_or_ge k (spanN isWord l) with h | h
          · obtain ⟨c', h3, h4⟩ := h2 h
            rw [HG.out] at h3
            cases h3
            rw [hw] at h4
            cases h4
          · omega
        have HE := Lib.hid he
        clear hn he hw
        go_wp2_with fail
        refine (sort_byte _ c).mono ?_
        rintro e w' ⟨rfl, rfl⟩
        go_wp2_with fail
        go_ret
        exact ⟨ret_i (by have := HE.out; omega), rfl⟩
      · have hn : bsort c = 2 ∨ bsort c = 3 ∨ bsort c = 4 := by simpa [isWord] using hw
        have hks' : k < spanN isWord l := HGO.out.2 ⟨c, HG.out, hw⟩
        clear hw
        rcases hn with hn | hn | hn
        all_goals
          go_wp2_with fail
          refine (sort_byte _ c).mono ?_
          rintro e w' ⟨rfl, rfl⟩
          go_wp2_with fail
          go_round
          case rel => exact ⟨k + 1, hlt, by go_num, hks'⟩
          case measure => simp [intOf]; omega
    · have hkn : k = spanN isWord l := by omega
      have HE := Lib.hid hkn
      clear hkn
      go_wp2_with fail
      go_ret
      exact ⟨ret_i (by have := HE.out; omega), rfl⟩

set_option maxHeartbeats 1000000 in
theorem punct_any (w : World) (xv : Value) (l : List UInt8) (c : UInt8) (r : List UInt8) (hlc : l = c :: r) (hl : (l.length : Int) ≤ 1000000) :
    Calls Try.prog 22 #[xv, .string ⟨l.toArray⟩] w fun e w' => e = .returned (tryV (if bsort c = 7 then some (some ⟨6, 0, [c], 1⟩) else none)) ∧ Below w.heap.size w w' := by
  have hlen : 0 < l.length := by rw [hlc]; simp
  have hx : (⟨l.toArray⟩ : ByteArray)[0]'(by show 0 < l.toArray.size; simpa using hlen) = c := by subst hlc; rfl
  have hs : (⟨l.toArray⟩ : ByteArray).extract 0 1 = ⟨[c].toArray⟩ := by rw [slice_mid, hlc]; rfl
  clear hlc
  by_cases h7 : bsort c = 7
  · rw [if_pos h7]
    go_enter Try.func22, Try.ntmps22
    go_wp2_with fail
    refine (sort_byte _ c).mono ?_
    rintro e w' ⟨rfl, rfl⟩
    go_wp2_with fail
    refine bodyPost_ret (v := tryV (some (some ⟨6, 0, [c], 1⟩))) (by simp [results, Try.results22, go_sem, tryV, tokV]) rfl ⟨rfl, (Below.refl _ _).alloc (Nat.le_refl _) _⟩
  · rw [if_neg h7]
    have t7 : (bsort c != 7) = true := by rw [bne_iff_ne]; exact h7
    clear h7
    go_enter Try.func22, Try.ntmps22
    go_wp2_with fail
    refine (sort_byte _ c).mono ?_
    rintro e w' ⟨rfl, rfl⟩
    go_wp2_with fail
    refine bodyPost_ret (v := tryV none) (by simp [results, Try.results22, go_sem, tryV, tokV]) rfl ⟨rfl, (Below.refl _ _).alloc (Nat.le_refl _) _⟩

set_option maxHeartbeats 1000000 in
theorem named_any (w : World) (xv : Value) (l : List UInt8) (c : UInt8) (r : List UInt8) (hlc : l = c :: r) (hl : (l.length : Int) ≤ 1000000) :
    Calls Try.prog 19 #[xv, .string ⟨l.toArray⟩] w fun e w' => e = .returned (tryV (if bsort c = 3 then some (some ⟨4, 0, l.take (spanN isWord l), spanN isWord l⟩) else none)) ∧ Below w.heap.size w w' := by
  have hlen : 0 < l.length := by rw [hlc]; simp
  have hx : (⟨l.toArray⟩ : ByteArray)[0]'(by show 0 < l.toArray.size; simpa using hlen) = c := by subst hlc; rfl
  have hs : (⟨l.toArray⟩ : ByteArray).extract 0 (spanN isWord l) = ⟨(l.take (spanN isWord l)).toArray⟩ := by rw [slice_mid]; rfl
  have hsp := spanN_le isWord l
  have hsp' : (spanN isWord l : Int) ≤ (l.length : Int) := by omega
  generalize hn : spanN isWord l = n at *
  have HN := Lib.hid hn
  generalize l.take n = t at *
  clear hlc hn
  by_cases h3 : bsort c = 3
  · rw [if_pos h3]
    go_enter Try.func19, Try.ntmps19
    go_wp2_with fail
    refine (sort_byte _ c).mono ?_
    rintro e w' ⟨rfl, rfl⟩
    go_wp2_with fail
    refine (word_any _ l hl).mono ?_
    rintro e w' ⟨rfl, rfl⟩
    rw [HN.out]
    go_wp2_with fail
    refine bodyPost_ret (v := tryV (some (some ⟨4, 0, t, n⟩))) (by simp [results, Try.results19, go_sem, tryV, tokV]) rfl ⟨rfl, (Below.refl _ _).alloc (Nat.le_refl _) _⟩
  · rw [if_neg h3]
    have t3 : (bsort c != 3) = true := by rw [bne_iff_ne]; exact h3
    clear h3
    go_enter Try.func19, Try.ntmps19
    go_wp2_with fail
    refine (sort_byte _ c).mono ?_
    rintro e w' ⟨rfl, rfl⟩
    go_wp2_with fail
    refine bodyPost_ret (v := tryV none) (by simp [results, Try.results19, go_sem, tryV, tokV]) rfl ⟨rfl, (Below.refl _ _).alloc (Nat.le_refl _) _⟩

theorem parse_one (b : Nat) (c : UInt8) : parseF b [c] = if digVal c < b then ((digVal c : Int), 0) else (0, 6) := by
  have hd := digVal_le c
  unfold parseF
  by_cases h : digVal c < b
  · rw [if_pos h, if_neg (by simp [digitsIn, h]), if_neg (by simp [valOf]; omega)]
    have : tops (valOf b [c]) = (digVal c : Int) := by
      simp only [valOf, List.foldl_cons, List.foldl_nil, Nat.zero_mul, Nat.zero_add, tops]
      rw [if_neg (by omega)]
    rw [this]
  · rw [if_neg h, if_pos (.inr (by simp [digitsIn]; omega))]

set_option maxHeartbeats 1000000 in
theorem digits_any (w : World) (l : List UInt8) (f : Nat) (fi base : Int) (hf : fi = (f : Int)) (hfl : f ≤ l.length) (hb : base = 2 ∨ base = 8 ∨ base = 10 ∨ base = 16) (hl : (l.length : Int) ≤ 1000000) :
    Calls Try.prog 42 #[.string ⟨l.toArray⟩, .int .i64 fi, .int .i64 base] w fun e w' => e = .returned (tryV (some ((digitsF base.toNat l f).map fun x => ⟨3, x.1, [], x.2⟩))) ∧ Below w.heap.size w w' := by
  subst hf
  have HB := Lib.hid hb
  clear hb
  generalize hP : (fun c : UInt8 => decide (digVal c < base.toNat)) = p
  have HP := Lib.hid hP
  clear hP
  have hsl := spanN_le p (l.drop f)
  rw [List.length_drop] at hsl
  have hdig : digitsF base.toNat l f = if (parseF base.toNat ((l.drop f).take (spanN p (l.drop f)))).2 = 0 then some ((parseF base.toNat ((l.drop f).take (spanN p (l.drop f)))).1, f + spanN p (l.drop f)) else none := by
    unfold digitsF
    rw [HP.out]
  have HD := Lib.hid hdig
  clear hdig
  generalize hR : (some ((digitsF base.toNat l f).map fun x => (⟨3, x.1, [], x.2⟩ : TokIs))) = R
  have HR := Lib.hid hR
  clear hR
  generalize hN : spanN p (l.drop f) = N at *
  have HN := Lib.hid hN
  clear hN
  go_enter Try.func42, Try.ntmps42
  go_wp2_with fail
  go_loop [9] (fun i => ∃ k : Nat, f ≤ k ∧ k ≤ l.length ∧ i = .int .i64 k ∧ k ≤ f + N) (fun i => l.length - (intOf i).toNat)
  case atStart => exact ⟨f, Nat.le_refl _, hfl, rfl, Nat.le_add_right _ _⟩
  case round =>
    obtain ⟨k, hfk, hk, rfl, hkN⟩ := hrel
    have hgo := spanN_go p (l.drop f) (k - f) (by rw [HN.out]; omega)
    rw [HN.out, List.getElem?_drop, show f + (k - f) = k by omega] at hgo
    have HGO := Lib.hid hgo
    clear hgo
    have hend : (k = f + N) → Hid (k = f + N) := fun h => h
    by_cases hlt : k < l.length
    · obtain ⟨c, hd, hx, hg⟩ := byte_at l k hlt
      have HG := Lib.hid hg
      have hlt' : (k : Int) < (l.length : Int) := by omega
      have hs1 : (⟨l.toArray⟩ : ByteArray).extract k (k + 1) = ⟨[c].toArray⟩ := by
        rw [slice_mid, hd, show k + 1 - k = 1 by omega]
        rfl
      have hb1 : (k : Int) + 1 ≤ (l.length : Int) := by omega
      have hp1 := parse_one base.toNat c
      have hd36 := digVal_le c
      clear hd hg
      have hpc : p c = decide (digVal c < base.toNat) := by rw [← HP.out]
      have HPC := Lib.hid hpc
      clear hpc
      by_cases hdc : digVal c < base.toNat
      · rw [if_pos hdc] at hp1
        have HP1 := Lib.hid hp1
        have hkN' : k < f + N := by
          have := HGO.out.2 ⟨c, HG.out, by rw [HPC.out]; simpa using hdc⟩
          omega
        clear hp1 hdc
        go_wp2_with fail
        refine (parse_lit _ [c] base HB.out (by simp)).mono ?_
        rintro e w' ⟨rfl, rfl⟩
        rw [HP1.out]
        go_wp2_with fail
        go_round
        case rel => exact ⟨k + 1, by omega, hlt, by go_num, hkN'⟩
        case measure => simp [intOf]; omega
      · rw [if_neg hdc] at hp1
        have HP1 := Lib.hid hp1
        have hkN' : k = f + N := by
          rcases Nat.lt_or_ge (k - f) N with h | h
          · obtain ⟨c', h3, h4⟩ := HGO.out.1 h
            rw [HG.out] at h3
            cases h3
            rw [HPC.out] at h4
            exact absurd (by simpa using h4) hdc
          · omega
        have HE := hend hkN'
        have hs2 : (⟨l.toArray⟩ : ByteArray).extract f k = ⟨((l.drop f).take N).toArray⟩ := by rw [slice_mid, hkN', show f + N - f = N by omega]
        clear hp1 hdc hkN'
        go_wp2_with fail
        refine (parse_lit _ [c] base HB.out (by simp)).mono ?_
        rintro e w' ⟨rfl, rfl⟩
        rw [HP1.out]
        go_wp2_with fail
        refine (parse_lit _ _ base HB.out (by rw [List.length_take, List.length_drop]; omega)).mono ?_
        rintro e w' ⟨rfl, rfl⟩
        have hr := HR.out
        rw [HD.out] at hr
        generalize parseF base.toNat ((l.drop f).take N) = p at *
        obtain ⟨p1, p2⟩ := p
        simp only at hr ⊢
        by_cases hp2 : p2 = 0
        · rw [if_pos hp2] at hr
          have HR2 := Lib.hid hr
          subst hp2
          clear hr
          go_wp2_with fail
          have he := HE.out
          rw [← HR2.out]
          refine bodyPost_ret (v := tryV (some (some ⟨3, p1, [], f + N⟩))) (by simp [results, Try.results42, go_sem, tryV, tokV]; omega) rfl ⟨rfl, (Below.refl _ _).alloc (Nat.le_refl _) _⟩
        · have t : (p2 != 0) = true := by rw [bne_iff_ne]; exact hp2
          rw [if_neg hp2] at hr
          have HR2 := Lib.hid hr
          clear hr hp2
          go_wp2_with fail
          rw [← HR2.out]
          refine bodyPost_ret (v := tryV (some none)) (by simp [results, Try.results42, go_sem, tryV, tokV]) rfl ⟨rfl, (Below.refl _ _).alloc (Nat.le_refl _) _⟩
    · have hkN' : k = f + N := by omega
      have HE := hend hkN'
      have hs2 : (⟨l.toArray⟩ : ByteArray).extract f k = ⟨((l.drop f).take N).toArray⟩ := by rw [slice_mid, hkN', show f + N - f = N by omega]
      clear hkN'
      go_wp2_with fail
      refine (parse_lit _ _ base HB.out (by rw [List.length_take, List.length_drop]; omega)).mono ?_
      rintro e w' ⟨rfl, rfl⟩
      have hr := HR.out
      rw [HD.out] at hr
      generalize parseF base.toNat ((l.drop f).take N) = p at *
      obtain ⟨p1, p2⟩ := p
      simp only at hr ⊢
      by_cases hp2 : p2 = 0
      · rw [if_pos hp2] at hr
        have HR2 := Lib.hid hr
        subst hp2
        clear hr
        go_wp2_with fail
        have he := HE.out
        rw [← HR2.out]
        refine bodyPost_ret (v := tryV (some (some ⟨3, p1, [], f + N⟩))) (by simp [results, Try.results42, go_sem, tryV, tokV]; omega) rfl ⟨rfl, (Below.refl _ _).alloc (Nat.le_refl _) _⟩
      · have t : (p2 != 0) = true := by rw [bne_iff_ne]; exact hp2
        rw [if_neg hp2] at hr
        have HR2 := Lib.hid hr
        clear hr hp2
        go_wp2_with fail
        rw [← HR2.out]
        refine bodyPost_ret (v := tryV (some none)) (by simp [results, Try.results42, go_sem, tryV, tokV]) rfl ⟨rfl, (Below.refl _ _).alloc (Nat.le_refl _) _⟩
end Go.Proofs.Ytpiekfkkhgighaa
