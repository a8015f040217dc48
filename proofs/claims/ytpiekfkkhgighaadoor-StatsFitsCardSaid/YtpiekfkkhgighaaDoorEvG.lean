/-
  What stats' limit, Common and Fits answer: plain functions of the lists. Conditions: the slices can be read; the sizes that are named.
-/
import Derived.Test.YtpiekfkkhgighaaDoorEvF
namespace Go.Proofs.YtpiekfkkhgighaaDoor
open Go.RowKit
set_option maxRecDepth 100000

def limN : List Ev → Nat
  | [] => 0
  | e :: r => if e.kind = 5 then 0 else limN r + 1
def evEq (a b : Ev) : Bool := a.kind == b.kind && a.text == b.text
def comN : List Ev → List Ev → Nat
  | a :: l, b :: r => if evEq a b then comN l r + 1 else 0
  | _, _ => 0
theorem limN_le : ∀ l, limN l ≤ l.length
  | [] => Nat.le_refl _
  | e :: r => by
    have := limN_le r
    rw [limN, List.length_cons]
    split <;> omega
theorem limN_go : ∀ (l : List Ev) (k : Nat), k ≤ limN l → ∀ e, l[k]? = some e → (e.kind = 5 → limN l = k) ∧ (e.kind ≠ 5 → k + 1 ≤ limN l)
  | [], k, _, e, he => by simp at he
  | x :: r, 0, _, e, he => by
    simp only [List.getElem?_cons_zero, Option.some.injEq] at he
    subst he
    rw [limN]
    exact ⟨fun h => by rw [if_pos h], fun h => by rw [if_neg h]; omega⟩
  | x :: r, k + 1, h, e, he => by
    rw [limN] at h ⊢
    split at h
    · omega
    · rename_i hx
      rw [if_neg hx]
      have := limN_go r k (by omega) e (by simpa using he)
      exact ⟨fun h5 => by rw [this.1 h5], fun h5 => by have := this.2 h5; omega⟩
theorem evEq_refl (a : Ev) : evEq a a = true := by unfold evEq; simp
theorem comN_le : ∀ (l r : List Ev), comN l r ≤ l.length ∧ comN l r ≤ r.length
  | [], r => by rw [comN] <;> simp
  | a :: l, [] => by rw [comN] <;> simp
  | a :: l, b :: r => by
    have := comN_le l r
    rw [comN, List.length_cons, List.length_cons]
    split <;> omega
theorem comN_go : ∀ (l r : List Ev) (k : Nat), k ≤ comN l r → ∀ a b, l[k]? = some a → r[k]? = some b → (evEq a b = true → k + 1 ≤ comN l r) ∧ (evEq a b = false → comN l r = k)
  | [], r, k, _, a, b, ha, _ => by simp at ha
  | x :: l, [], k, _, a, b, _, hb => by simp at hb
  | x :: l, y :: r, 0, _, a, b, ha, hb => by
    simp only [List.getElem?_cons_zero, Option.some.injEq] at ha hb
    subst ha hb
    rw [comN]
    exact ⟨fun h => by rw [if_pos h]; omega, fun h => by rw [if_neg (by simp [h])]⟩
  | x :: l, y :: r, k + 1, h, a, b, ha, hb => by
    rw [comN] at h ⊢
    split at h
    · rename_i hx
      rw [if_pos hx]
      have := comN_go l r k (by omega) a b (by simpa using ha) (by simpa using hb)
      exact ⟨fun h5 => by have := this.1 h5; omega, fun h5 => by rw [this.2 h5]⟩
    · omega
theorem comN_self : ∀ l, comN l l = l.length
  | [] => by rw [comN] <;> simp
  | a :: l => by rw [comN, if_pos (evEq_refl a), comN_self l, List.length_cons]
theorem comN_app : ∀ (p a b : List Ev), p.length ≤ comN (p ++ a) (p ++ b)
  | [], a, b => Nat.zero_le _
  | x :: p, a, b => by
    have := comN_app p a b
    rw [List.cons_append, List.cons_append, comN, if_pos (evEq_refl x), List.length_cons]
    omega
theorem limN_app (p : List Ev) (x : Ev) (h : x.kind = 5) (q : List Ev) : limN (p ++ x :: q) ≤ p.length := by
  induction p with
  | nil => rw [List.nil_append, limN, if_pos h]; exact Nat.le_refl _
  | cons e p ih =>
    rw [List.cons_append, limN, List.length_cons]
    split <;> omega
def fitsE (l r : List Ev) : Bool :=
  if limN l = l.length ∧ limN r = r.length then decide (l.length = comN l r ∧ r.length = comN l r)
  else decide ((if limN l = l.length ∨ (limN r < r.length ∧ limN r < limN l) then limN r else limN l) ≤ comN l r)
theorem fits_self (l : List Ev) : fitsE l l = true := by
  unfold fitsE
  have h1 := limN_le l
  rw [comN_self]
  split
  · simp
  · rename_i h
    simp only [and_self] at h
    rw [if_neg (by omega)]
    exact decide_eq_true h1
theorem fits_cut {l : List Ev} {k : Nat} (hk : k ≤ l.length) (x : Ev) (hx : x.kind = 5) : fitsE l (l.take k ++ [x]) = true ∧ fitsE (l.take k ++ [x]) l = true := by
  have hl : (l.take k).length = k := by rw [List.length_take]; omega
  have hc1 : k ≤ comN l (l.take k ++ [x]) := by
    have h := comN_app (l.take k) (l.drop k) [x]
    rw [List.take_append_drop, hl] at h
    exact h
  have hc2 : k ≤ comN (l.take k ++ [x]) l := by
    have h := comN_app (l.take k) [x] (l.drop k)
    rw [List.take_append_drop, hl] at h
    exact h
  have hj := limN_app (l.take k) x hx []
  rw [hl] at hj
  have hlen : (l.take k ++ [x]).length = k + 1 := by rw [List.length_append, hl]; rfl
  have hi := limN_le l
  generalize l.take k ++ [x] = f at *
  unfold fitsE
  constructor
  · rw [if_neg (by omega)]
    apply decide_eq_true
    split <;> omega
  · rw [if_neg (by omega)]
    apply decide_eq_true
    split <;> omega

set_option maxHeartbeats 2000000 in
theorem limit_any (w : World) (A : Option Addr) (n c : Nat) (l : List Ev) (hl : EvsAt w w.heap.size A n l) (hn : n ≤ 100000) :
    Calls Tryd.prog 48 #[.slice A n c] w fun e w' => e = .returned (.int .i64 (limN l : Int)) ∧ Below w.heap.size w w' := by
  have HL := Lib.hid hl
  clear hl
  obtain ⟨R, hR⟩ : ∃ R, limN l = R := ⟨_, rfl⟩
  rw [hR]
  have HR := Lib.hid hR
  clear hR
  go_enter Tryd.func48, Tryd.ntmps48
  go_wp2_with fail
  go_loopw [7] (fun i wr => ∃ k : Nat, k ≤ n ∧ i = .int .i64 k ∧ Hid (k ≤ R) ∧ Hid (Below w.heap.size w wr)) (fun i _ => n - (intOf i).toNat)
  case atStart => exact ⟨0, Nat.zero_le _, rfl, Lib.hid (Nat.zero_le _), Lib.hid (Below.refl _ _)⟩
  case round =>
    obtain ⟨k, hk, rfl, HK, HB⟩ := hrel
    by_cases hlt : k < n
    · have hkl : k < l.length := by rw [HL.out.len]; exact hlt
      have hx := List.getElem?_eq_getElem hkl
      generalize l[k] = e at hx
      obtain ⟨b, off, hA, hb, c0, c1⟩ := HL.out.at' k e hx
      rw [← HB.out.cell (p := ⟨b, off + k * 2, none⟩) hb] at c0
      rw [← HB.out.cell (p := ⟨b, off + k * 2 + 1, none⟩) hb] at c1
      have hlt' : (k : Int) < (n : Int) := by omega
      obtain ⟨g1, g2⟩ := limN_go l k (by rw [HR.out]; exact HK.out) e hx
      rw [HR.out] at g1 g2
      have hbs := HB.out.size
      clear hx
      subst hA
      by_cases h5 : e.kind = 5
      · have hRk := Lib.hid (g1 h5)
        have t5 : (e.kind == 5) = true := beq_iff_eq.2 h5
        rw [h5] at c0
        clear g1 g2 h5 t5
        go_wp2_with fail
        go_ret
        exact ⟨by rw [hRk.out]; rfl, HB.out.alloc hbs _⟩
      · have hRk := Lib.hid (g2 h5)
        have t5 : (e.kind == 5) = false := beq_eq_false_iff_ne.2 h5
        clear g1 g2 h5
        go_wp2_with fail
        go_roundw
        case rel => exact ⟨k + 1, hlt, by go_num, hRk, Lib.hid (HB.out.alloc hbs _)⟩
        case measure => simp [intOf]; omega
    · have hkn : k = n := by omega
      subst hkn
      have hle := limN_le l
      rw [HL.out.len, HR.out] at hle
      have hRk : Hid (R = k) := Lib.hid (by have := HK.out; omega)
      clear hle
      go_wp2_with fail
      go_ret
      exact ⟨by rw [hRk.out]; rfl, HB.out⟩

set_option maxHeartbeats 4000000 in
theorem common_any (w : World) (A1 A2 : Option Addr) (n c1 m c2 : Nat) (l r : List Ev) (h1 : EvsAt w w.heap.size A1 n l) (h2 : EvsAt w w.heap.size A2 m r) (hn : n ≤ 100000) :
    Calls Tryd.prog 33 #[.slice A1 n c1, .slice A2 m c2] w fun e w' => e = .returned (.int .i64 (comN l r : Int)) ∧ Below w.heap.size w w' := by
  have HL1 := Lib.hid h1
  have HL2 := Lib.hid h2
  clear h1 h2
  obtain ⟨hle1, hle2⟩ := comN_le l r
  rw [HL1.out.len] at hle1
  rw [HL2.out.len] at hle2
  obtain ⟨R, hR⟩ : ∃ R, comN l r = R := ⟨_, rfl⟩
  rw [hR] at hle1 hle2 ⊢
  have HR := Lib.hid hR
  clear hR
  go_enter Tryd.func33, Tryd.ntmps33
  go_wp2_with fail
  go_loopw [5] (fun i wr => ∃ k nq : Nat, i = .int .i64 k ∧ Hid (k ≤ R) ∧ wr = w.drewN nq) (fun i _ => n - (intOf i).toNat)
  case atStart => exact ⟨0, 0, rfl, Lib.hid (Nat.zero_le _), rfl⟩
  case round =>
    obtain ⟨k, nq, rfl, HK, rfl⟩ := hrel
    have hkR := HK.out
    by_cases hlt1 : k < n
    · have t1 : decide (k < n) = true := decide_eq_true hlt1
      by_cases hlt2 : k < m
      · have t2 : decide (k < m) = true := decide_eq_true hlt2
        have hx1 := List.getElem?_eq_getElem (show k < l.length by rw [HL1.out.len]; exact hlt1)
        have hx2 := List.getElem?_eq_getElem (show k < r.length by rw [HL2.out.len]; exact hlt2)
        generalize l[k]'_ = a at hx1
        generalize r[k]'_ = b at hx2
        obtain ⟨g1, g2⟩ := comN_go l r k (by rw [HR.out]; exact HK.out) a b hx1 hx2
        rw [HR.out] at g1 g2
        obtain ⟨p, off, hA1, -, c0, c1⟩ := HL1.out.at' k a hx1
        obtain ⟨p', off', hA2, -, d0, d1⟩ := HL2.out.at' k b hx2
        have hlt1' : (k : Int) < (n : Int) := by omega
        have hlt2' : (k : Int) < (m : Int) := by omega
        clear hx1 hx2
        subst hA1 hA2
        cases heq : evEq a b with
        | true =>
          have HG := Lib.hid (g1 heq)
          unfold evEq at heq
          simp only [Bool.and_eq_true, beq_iff_eq] at heq
          obtain ⟨e1, e2⟩ := heq
          rw [← e1] at d0
          rw [← e2] at d1
          clear g1 g2 e1 e2
          go_wp2_with fail
          go_quiet (fail)
          go_wp2
          go_roundw
          case rel => exact ⟨k + 1, _, by go_num, HG, rfl⟩
          case measure => simp [intOf]; omega
        | false =>
          have HG := Lib.hid (g2 heq)
          unfold evEq at heq
          clear g1 g2
          by_cases e1 : a.kind = b.kind
          · rw [← e1] at d0 heq
            simp only [beq_self_eq_true, Bool.true_and] at heq
            have e2 : (a.text == b.text) = false := heq
            have e3 : ¬ a.text = b.text := by simpa using heq
            clear heq e1
            go_wp2_with fail
            go_quiet (fail)
            go_wp2
            go_ret
            exact ⟨by rw [HG.out]; rfl, rfl, rfl, rfl, Nat.le_refl _, fun _ _ => rfl⟩
          · have e2 : (a.kind == b.kind) = false := beq_eq_false_iff_ne.2 e1
            clear heq
            have E1 := Lib.hid e1
            clear e1
            go_wp2_with fail
            go_quiet (fail)
            go_wp2
            go_ret
            exact ⟨by rw [HG.out]; rfl, rfl, rfl, rfl, Nat.le_refl _, fun _ _ => rfl⟩
      · have t2 : decide (k < m) = false := decide_eq_false hlt2
        have HG : Hid (R = k) := Lib.hid (by omega)
        have hlt1' : (k : Int) < (n : Int) := by omega
        go_wp2_with fail
        go_quiet (fail)
        go_wp2
        go_ret
        exact ⟨by rw [HG.out]; rfl, rfl, rfl, rfl, Nat.le_refl _, fun _ _ => rfl⟩
    · have t1 : decide (k < n) = false := decide_eq_false hlt1
      have HG : Hid (R = k) := Lib.hid (by omega)
      go_wp2_with fail
      go_quiet (fail)
      go_wp2
      go_ret
      exact ⟨by rw [HG.out]; rfl, rfl, rfl, rfl, Nat.le_refl _, fun _ _ => rfl⟩

set_option maxHeartbeats 4000000 in
theorem fits_any (w : World) (A1 A2 : Option Addr) (n c1 m c2 : Nat) (l r : List Ev) (h1 : EvsAt w w.heap.size A1 n l) (h2 : EvsAt w w.heap.size A2 m r) (hn : n ≤ 100000) (hm : m ≤ 100000) (hf : fitsE l r = true) :
    Calls Tryd.prog 32 #[.slice A1 n c1, .slice A2 m c2] w fun e w' => e = .returned (.bool true) ∧ Below w.heap.size w w' := by
  have HL1 := Lib.hid h1
  have HL2 := Lib.hid h2
  have HF := Lib.hid hf
  clear h1 h2 hf
  go_enter Tryd.func32, Tryd.ntmps32
  go_wp2_with fail
  refine (limit_any w A1 n c1 l HL1.out hn).mono ?_
  rintro e w1 ⟨rfl, hb1⟩
  have HB1 := Lib.hid hb1
  have HM1 := Lib.hid ((HL1.out.below hb1).up hb1.size)
  have HM2 := Lib.hid ((HL2.out.below hb1).up hb1.size)
  clear hb1
  go_wp2_with fail
  refine (limit_any w1 A2 m c2 r HM2.out hm).mono ?_
  rintro e w2 ⟨rfl, hb2⟩
  have HB2 := Lib.hid (HB1.out.trans (hb2.mono HB1.out.size))
  have HN1 := Lib.hid ((HM1.out.below hb2).up hb2.size)
  have HN2 := Lib.hid ((HM2.out.below hb2).up hb2.size)
  clear hb2 HB1
  go_wp2_with fail
  refine (common_any w2 A1 A2 n c1 m c2 l r HN1.out HN2.out hn).mono ?_
  rintro e w3 ⟨rfl, hb3⟩
  have HB3 := Lib.hid (HB2.out.trans (hb3.mono HB2.out.size))
  have hi := limN_le l
  have hj := limN_le r
  obtain ⟨hc1, hc2⟩ := comN_le l r
  have hf := HF.out
  unfold fitsE at hf
  rw [HL1.out.len] at hi hc1 hf
  rw [HL2.out.len] at hj hc2 hf
  clear hb3 HF HB2 HL1 HL2 HM1 HM2 HN1 HN2
  generalize limN l = i at *
  generalize limN r = j at *
  generalize comN l r = q at *
  by_cases ei : i = n
  · have ti : ((i : Int) == (n : Int)) = true := by rw [ei]; simp
    by_cases ej : j = m
    · have tj : ((j : Int) == (m : Int)) = true := by rw [ej]; simp
      rw [if_pos ⟨ei, ej⟩] at hf
      obtain ⟨f1, f2⟩ := of_decide_eq_true hf
      have u1 : ((n : Int) == (q : Int)) = true := by rw [beq_iff_eq]; omega
      have u2 : ((m : Int) == (q : Int)) = true := by rw [beq_iff_eq]; omega
      have E := Lib.hid (And.intro ei (And.intro ej (And.intro f1 f2)))
      clear hf
      subst ei ej
      subst f1
      subst f2
      clear ti tj u1 u2
      go_wp2_with fail
      go_ret
      exact ⟨rfl, HB3.out⟩
    · have tj : ((j : Int) == (m : Int)) = false := by rw [beq_eq_false_iff_ne]; omega
      have tj2 : (j == m) = false := by rw [beq_eq_false_iff_ne]; omega
      rw [if_neg (by rintro ⟨-, h⟩; exact ej h), if_pos (.inl ei)] at hf
      have f1 := of_decide_eq_true hf
      have t5 : decide (j ≤ q) = true := decide_eq_true f1
      have t6 : decide ((j : Int) ≤ (q : Int)) = true := decide_eq_true (by omega)
      subst ei
      clear hf ej ti
      go_wp2_with fail
      go_ret
      exact ⟨rfl, HB3.out⟩
  · have ti : ((i : Int) == (n : Int)) = false := by rw [beq_eq_false_iff_ne]; omega
    have ti2 : (i == n) = false := by rw [beq_eq_false_iff_ne]; omega
    rw [if_neg (by rintro ⟨h, -⟩; exact ei h)] at hf
    by_cases ej : j < m ∧ j < i
    · obtain ⟨e1, e2⟩ := ej
      rw [if_pos (.inr ⟨e1, e2⟩)] at hf
      have f1 := of_decide_eq_true hf
      have t3 : decide (j < m) = true := decide_eq_true e1
      have t4 : decide (j < i) = true := decide_eq_true e2
      have t5 : decide (j ≤ q) = true := decide_eq_true f1
      clear hf ei
      go_wp2_with fail
      go_ret
      exact ⟨rfl, HB3.out⟩
    · rw [if_neg (by rintro (h | h); exact ei h; exact ej h)] at hf
      have f1 := of_decide_eq_true hf
      have t5 : decide (i ≤ q) = true := decide_eq_true f1
      by_cases e1 : j < m
      · have t3 : decide (j < m) = true := decide_eq_true e1
        have t4 : decide (j < i) = false := decide_eq_false (by omega)
        clear hf ei ej
        go_wp2_with fail
        go_ret
        exact ⟨rfl, HB3.out⟩
      · have t3 : decide (j < m) = false := decide_eq_false e1
        clear hf ei ej
        go_wp2_with fail
        go_ret
        exact ⟨rfl, HB3.out⟩
end Go.Proofs.YtpiekfkkhgighaaDoor
