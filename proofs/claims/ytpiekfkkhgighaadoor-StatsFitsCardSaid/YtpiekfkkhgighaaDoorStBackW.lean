/-
  What law25's StatsBack answers: true. Conditions: the table of bits and the index package's cell hold what is named; the slice can be read.
-/
import Derived.Test.YtpiekfkkhgighaaDoorEvD
import Derived.Deep.Cut
import Derived.Deep.DeepCutAuto
namespace Go.Proofs.YtpiekfkkhgighaaDoor
open Go.RowKit
set_option maxRecDepth 100000

theorem great_no {l : List Ev} (h : greatE l = false) : l.length ≤ 300 ∧ greatN l ≤ 5000 := by
  unfold greatE at h
  have := of_decide_eq_false h
  omega
theorem great_text {l : List Ev} (h : greatN l ≤ 5000) : ∀ e ∈ l, e.text.length ≤ 5000 := by
  intro e he
  have h1 : min e.text.length 10000 ≤ greatN l := by
    clear h
    induction l with
    | nil => cases he
    | cons x r ih =>
      have h4 : greatN (x :: r) = min x.text.length 10000 + greatN r := by unfold greatN; simp
      rcases List.mem_cons.1 he with rfl | he
      · omega
      · have := ih he
        omega
  omega
theorem lines_great : ∀ (l : List Ev), greatN l ≤ 5000 → (l.flatMap lineB).length ≤ 13 * l.length + 5 * greatN l := by
  intro l h
  have ht := great_text h
  clear h
  induction l with
  | nil => simp
  | cons e r ih =>
    have h1 := ih (fun x hx => ht x (List.mem_cons_of_mem _ hx))
    have h2 := lineB_len e
    have h3 := ht e (List.mem_cons_self ..)
    have h4 : greatN (e :: r) = min e.text.length 10000 + greatN r := by unfold greatN; simp
    rw [List.flatMap_cons, List.length_append, List.length_cons, h4]
    omega
theorem show_len {l : List Ev} {x : List UInt8} (hs : showB l = some x) (h : greatE l = false) : x.length ≤ 28900 := by
  obtain ⟨h1, h2⟩ := great_no h
  unfold showB at hs
  split at hs
  · injection hs with hs
    subst hs
    have := lines_great l h2
    omega
  · cases hs
theorem evs_textlen {s : List UInt8} {m : List Ev} (h : parseE s = some m) : m.length ≤ s.length ∧ ∀ e ∈ m, e.text.length ≤ s.length := by
  obtain ⟨-, hb⟩ := evs_back _ s m h
  subst hb
  have escs : ∀ t : List UInt8, t.length ≤ (t.flatMap escB).length := by
    intro t
    induction t with
    | nil => simp
    | cons c r ih =>
      have h1 : 1 ≤ (escB c).length := by
        unfold escB
        (repeat' split) <;> simp
      rw [List.flatMap_cons, List.length_append, List.length_cons]
      omega
  clear h
  induction m with
  | nil => simp
  | cons e r ih =>
    obtain ⟨i1, i2⟩ := ih
    have h1 := lineB_pos e
    have h2 : e.text.length ≤ (lineB e).length := by
      have := escs e.text
      unfold lineB quoteB
      simp only [List.length_append, List.length_cons, List.length_nil]
      omega
    rw [List.flatMap_cons, List.length_append, List.length_cons]
    refine ⟨by omega, fun x hx => ?_⟩
    rcases List.mem_cons.1 hx with rfl | hx
    · omega
    · have := i2 x hx
      omega

theorem showV_two (o : Option (List UInt8)) : ∃ (x : List UInt8) (E : Int), showV o = .tuple #[.string ⟨x.toArray⟩, .int .i64 E] ∧ (E = 0 → o = some x) := by
  cases o with
  | none => exact ⟨[], 2, rfl, fun h => by cases h⟩
  | some x => exact ⟨x, 0, rfl, fun _ => rfl⟩
theorem showV_both (o : Option (List UInt8)) : ∃ (x : List UInt8) (E : Int), showV o = .tuple #[.string ⟨x.toArray⟩, .int .i64 E] ∧ ((E = 0 ∧ o = some x) ∨ (E = 2 ∧ x = [] ∧ o = none)) := by
  cases o with
  | none => exact ⟨[], 2, rfl, .inr ⟨rfl, rfl, rfl⟩⟩
  | some x => exact ⟨x, 0, rfl, .inl ⟨rfl, rfl⟩⟩

set_option maxHeartbeats 8000000 in
theorem stBack_any (w : World) (hE : Env25 w) (A : Option Addr) (n c : Nat) (l : List Ev) (s : List UInt8) (hl : EvsAt w w.heap.size A n l) (hn : (n : Int) ≤ 9223372036854775807) (ht : ∀ e ∈ l, (e.text.length : Int) ≤ 9223372036854775807) (hs : (s.length : Int) ≤ 9223372036854775807) :
    Calls Tryd.prog 4 #[.slice A n c, .string ⟨s.toArray⟩] w fun e w' => e = .returned (.bool true) ∧ Below w.heap.size w w' := by
  have HE := Lib.hid hE
  have HL := Lib.hid hl
  have HT := Lib.hid ht
  clear hE hl ht
  go_enter Tryd.func4, Tryd.ntmps4
  go_wp2_with fail
  refine (alive25_any w HE.out).mono ?_
  rintro e w1 ⟨rfl, hb1⟩
  have HE1 := Lib.hid (HE.out.later hb1)
  have HL1 := Lib.hid ((HL.out.below hb1).up hb1.size)
  have HB1 := Lib.hid hb1
  clear hb1 HE HL
  by_cases hbig : 300 < n
  · go_wp2_with fail
    refine (great_big w1 A n c l HL1.out hbig hn HT.out).mono ?_
    rintro e w2 ⟨rfl, hb2⟩
    have HB2 := Lib.hid (HB1.out.trans (hb2.mono HB1.out.size))
    clear hb2
    go_wp2_with fail
    go_ret
    exact ⟨rfl, HB2.out⟩
  have hn3 : n ≤ 300 := by omega
  clear hbig
  go_wp2_with fail
  refine (great_any w1 A n c l HL1.out hn3 HT.out).mono ?_
  rintro e w2 ⟨rfl, hb2⟩
  have HE2 := Lib.hid (HE1.out.later hb2)
  have HL2 := Lib.hid ((HL1.out.below hb2).up hb2.size)
  have HB2 := Lib.hid (HB1.out.trans (hb2.mono HB1.out.size))
  clear hb2 HE1 HL1 HB1
  cases hg : greatE l with
  | true =>
    clear hg
    go_wp2_with fail
    go_ret
    exact ⟨rfl, HB2.out⟩
  | false =>
    have HG := Lib.hid hg
    clear hg
    by_cases hs3 : (3000 : Int) < (s.length : Int)
    · go_wp2_with fail
      go_ret
      exact ⟨rfl, HB2.out⟩
    have hs3' : decide ((3000 : Int) < (s.length : Int)) = false := decide_eq_false hs3
    have hsn : s.length ≤ 3000 := by omega
    clear hs3
    go_wp2_with fail
    refine (to_any w2 A n c l HL2.out (by omega)).mono ?_
    rintro e w3 ⟨v, rfl, hr3, hb3⟩
    obtain ⟨A3, c3, rfl, hev3⟩ := hr3.evs
    have HEV3 := Lib.hid hev3
    have HE3 := Lib.hid (HE2.out.later hb3)
    have HL3 := Lib.hid ((HL2.out.below hb3).up hb3.size)
    have HB3 := Lib.hid (HB2.out.trans (hb3.mono HB2.out.size))
    have hl3 : l.length = n := HL3.out.len
    rw [hl3] at HEV3 ⊢
    have HLN := Lib.hid hl3
    clear hb3 hr3 hev3 HE2 HL2 HB2 hl3
    go_wp2_with fail
    refine (show_any w3 A3 n c3 l HEV3.out (by omega) (fun e he => Nat.le_trans (great_text (great_no HG.out).2 e he) (by omega)) HE3.out.tab HE3.out.max).mono ?_
    rintro e w4 ⟨rfl, hb4⟩
    have HE4 := Lib.hid (HE3.out.later hb4)
    have HL4 := Lib.hid ((HL3.out.below hb4).up hb4.size)
    have HB4 := Lib.hid (HB3.out.trans (hb4.mono HB3.out.size))
    clear hb4 HE3 HL3 HB3 HEV3
    obtain ⟨x, E, hsv, hE0⟩ := showV_two (showB l)
    rw [hsv]
    have HE0 := Lib.hid hE0
    clear hsv hE0
    go_upto_if 29 with fail
    go_cut [0, 1] (fun a b u => a = .slice A n c ∧ b = .string ⟨s.toArray⟩ ∧ Hid (Env25 u) ∧ Hid (Below w.heap.size w u))
    case first =>
      by_cases hE : E = 0
      case neg =>
        have te : (E == 0) = false := beq_eq_false_iff_ne.2 hE
        clear hE
        go_wp2_with fail
        go_meet
        exact ⟨rfl, rfl, HE4, HB4⟩
      case pos =>
        subst hE
        have hsh := HE0.out rfl
        have hxl := show_len hsh HG.out
        have HP := Lib.hid (parse_show hsh)
        clear hsh HE0
        go_wp2_with fail
        refine (parse_any w4 x (by omega) HE4.out.tab HE4.out.max).mono ?_
        rintro e w5 ⟨⟨v, rfl, hr5⟩, hb5⟩
        rw [HP.out] at hr5 ⊢
        simp only [Option.isSome_some, if_true, Option.getD_some] at hr5 ⊢
        obtain ⟨A5, c5, rfl, hev5⟩ := hr5.evs
        have HEV5 := Lib.hid hev5
        have HE5 := Lib.hid (HE4.out.later hb5)
        have HL5 := Lib.hid ((HL4.out.below hb5).up hb5.size)
        have HB5 := Lib.hid (HB4.out.trans (hb5.mono HB4.out.size))
        rw [HLN.out] at HEV5 ⊢
        clear hb5 hr5 hev5 HE4 HL4 HB4
        go_wp2_with fail
        refine (from_any w5 A5 n c5 l HEV5.out (by omega)).mono ?_
        rintro e w6 ⟨v6, rfl, hr6, hb6⟩
        obtain ⟨A6, c6, rfl, hev6⟩ := hr6.evs
        have HEV6 := Lib.hid hev6
        have HE6 := Lib.hid (HE5.out.later hb6)
        have HL6 := Lib.hid ((HL5.out.below hb6).up hb6.size)
        have HB6 := Lib.hid (HB5.out.trans (hb6.mono HB5.out.size))
        rw [HLN.out] at HEV6 ⊢
        clear hb6 hr6 hev6 HE5 HL5 HB5 HEV5
        go_wp2_with fail
        refine (same_ev w6 _ _ n c6 c A6 A l HEV6.out HL6.out (by omega)).mono ?_
        rintro e w7 ⟨rfl, hb7⟩
        have HE7 := Lib.hid (HE6.out.later hb7)
        have HB7 := Lib.hid (HB6.out.trans (hb7.mono HB6.out.size))
        clear hb7
        go_wp2_with fail
        go_meet
        exact ⟨rfl, rfl, HE7, HB7⟩
    case rest =>
      obtain ⟨rfl, rfl, HEc, HBc⟩ := hcut
      clear HE4 HL4 HB4
      go_wp2_with fail
      refine (parse_any wc s (by omega) HEc.out.tab HEc.out.max).mono ?_
      rintro e w5 ⟨⟨v, rfl, hr5⟩, hb5⟩
      have HE5 := Lib.hid (HEc.out.later hb5)
      have HB5 := Lib.hid (HBc.out.trans (hb5.mono HBc.out.size))
      clear hb5 HEc HBc
      cases hp : parseE s with
      | none =>
        rw [hp] at hr5
        simp only [Option.isSome_none, Option.getD_none] at hr5 ⊢
        obtain ⟨A5, c5, rfl⟩ := hr5.shape
        clear hp hr5
        go_wp2_with fail
        go_ret
        exact ⟨rfl, HB5.out⟩
      | some m =>
        rw [hp] at hr5
        simp only [Option.isSome_some, if_true, Option.getD_some] at hr5 ⊢
        obtain ⟨A5, c5, rfl, hev5⟩ := hr5.evs
        have HEV5 := Lib.hid hev5
        obtain ⟨hm1, hm2⟩ := evs_textlen hp
        have HM2 := Lib.hid hm2
        have HP := Lib.hid (show_parse hp)
        clear hp hr5 hev5 hm2
        go_wp2_with fail
        refine (show_any w5 A5 m.length c5 m HEV5.out (by omega) (fun e he => by have := HM2.out e he; omega) HE5.out.tab HE5.out.max).mono ?_
        rintro e w6 ⟨rfl, hb6⟩
        have HB6 := Lib.hid (HB5.out.trans (hb6.mono HB5.out.size))
        rw [HP.out]
        simp only [showV]
        have tss : (s == s) = true := by simp
        clear hb6
        go_wp2_with fail
        go_ret
        exact ⟨rfl, HB6.out⟩
end Go.Proofs.YtpiekfkkhgighaaDoor
