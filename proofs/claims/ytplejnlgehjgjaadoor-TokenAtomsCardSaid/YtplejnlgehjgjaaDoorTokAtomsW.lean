/-
  What law04's TokenAtoms answers: true. Condition: the index package's cell holds a number, the table of bits what the program's text lays.
-/
import Derived.Test.YtplejnlgehjgjaaDoorTokW10
import Derived.Test.YtplejnlgehjgjaaDoorTokAtomsP
import Derived.Test.YtplejnlgehjgjaaDoorPut
import Derived.Deep.RegionHeld3
import Derived.Deep.QuietTactic
import Derived.BigQuiet
import Derived.Deep.DeepCutAuto
namespace Go.Proofs.YtplejnlgehjgjaaDoor
open Go.RowKit
set_option maxRecDepth 100000

theorem cat_b (a b : List UInt8) : (⟨a.toArray⟩ ++ ⟨b.toArray⟩ : ByteArray) = ⟨(a ++ b).toArray⟩ := by
  apply ByteArray.ext
  simp
theorem cat_end (a : List UInt8) : (⟨a.toArray⟩ ++ ⟨#[32]⟩ : ByteArray) = ⟨(a ++ [32]).toArray⟩ := cat_b a [32]

theorem cat_one (c : UInt8) (l : List UInt8) : (⟨#[c]⟩ ++ ⟨l.toArray⟩ : ByteArray) = ⟨(c :: l).toArray⟩ := by
  apply ByteArray.ext
  simp

theorem cat_twice (l : List UInt8) : (⟨l.toArray⟩ ++ ⟨#[95]⟩ ++ ⟨l.toArray⟩ : ByteArray) = ⟨(l ++ 95 :: l).toArray⟩ := by
  apply ByteArray.ext
  simp

theorem putB_len (s : List UInt8) : (putB s).length ≤ 5 * s.length + 2 := by
  unfold putB
  split
  · omega
  · have := escs_len s
    simp only [quoteB, List.length_append, List.length_cons, List.length_nil]
    omega

theorem at_drew {w u : World} {g : Nat} {x y : Value} (h : u.cell? ⟨g, 3, none⟩ = some x ∧ u.cell? ⟨g, 0, none⟩ = some y ∧ Below w.heap.size w u) : u.drew.cell? ⟨g, 3, none⟩ = some x ∧ u.drew.cell? ⟨g, 0, none⟩ = some y ∧ Below w.heap.size w u.drew :=
  ⟨h.1, h.2.1, h.2.2.drew⟩
theorem at_later {w u u' : World} {g : Nat} {x y : Value} (h : u.cell? ⟨g, 3, none⟩ = some x ∧ u.cell? ⟨g, 0, none⟩ = some y ∧ Below w.heap.size w u) (hb : Below u.heap.size u u') : u'.cell? ⟨g, 3, none⟩ = some x ∧ u'.cell? ⟨g, 0, none⟩ = some y ∧ Below w.heap.size w u' :=
  ⟨by rw [World.cell?_of_block (hb.block _ (World.block_lt_of_cell? u _ h.1))]; exact h.1, by rw [World.cell?_of_block (hb.block _ (World.block_lt_of_cell? u _ h.2.1))]; exact h.2.1, h.2.2.trans (hb.mono h.2.2.size)⟩

theorem enc_digit : ∀ d : Nat, d < 10 → Utf8.encode (48 + (d : Int)) = ⟨#[hexDigit d]⟩ := by
  intro d hd
  rcases (show d = 0 ∨ d = 1 ∨ d = 2 ∨ d = 3 ∨ d = 4 ∨ d = 5 ∨ d = 6 ∨ d = 7 ∨ d = 8 ∨ d = 9 by omega) with rfl | rfl | rfl | rfl | rfl | rfl | rfl | rfl | rfl | rfl <;> kernel_rfl
theorem enc_last (c : Nat) : Utf8.encode (48 + (c : Int) % 10) = ⟨#[hexDigit (c % 10)]⟩ := by
  have h := enc_digit (c % 10) (by omega)
  have e : ((c % 10 : Nat) : Int) = (c : Int) % 10 := by omega
  rw [e] at h
  exact h

set_option maxHeartbeats 4000000 in
theorem atoms_any (w : World) (s : List UInt8) (n : Nat) (hsl : (s.length : Int) ≤ 9223372036854775807) (hn : n < 4294967296) (hmax : ∃ m : Int, w.cell? ⟨1, 0, none⟩ = some (.int .i64 m)) (ht : w.cell? ⟨3, 15, none⟩ = some (.int .u8 4)) :
    Calls Tryd.prog 3 #[.string ⟨s.toArray⟩, .int .u32 (n : Int)] w fun e w' => e = .returned (.bool true) ∧ Below w.heap.size w w' := by
  have HM := Lib.hid hmax
  have HT := Lib.hid ht
  have HN := Lib.hid hn
  clear hmax ht hn
  go_enter Tryd.func3, Tryd.ntmps3
  go_wp2_with fail
  refine (alive_any w HM.out).mono ?_
  rintro e w1 ⟨rfl, hb1⟩
  have HB1 := Lib.hid hb1
  have HM1 := Lib.hid (maxLen_at HM.out hb1).1
  have HT1 := Lib.hid (tab_later HT.out hb1)
  clear hb1 HM HT
  by_cases hs5 : 500 < s.length
  · have hs5' : decide (500 < (s.length : Int)) = true := decide_eq_true (by omega)
    go_wp2_with fail
    go_ret
    exact ⟨rfl, HB1.out⟩
  have hs5' : (s.length : Int) ≤ 500 := by omega
  clear hs5 hsl
  go_wp2_with fail
  refine (put_any w1 s (by omega) HT1.out).mono ?_
  rintro e w2 ⟨rfl, hb2⟩
  have HB2 := Lib.hid (HB1.out.trans (hb2.mono HB1.out.size))
  have HM2 := Lib.hid (maxLen_at HM1.out hb2).1
  clear hb2 HB1 HM1 HT1
  have hpl := putB_len s
  have hpl' : ((putB s).length : Int) ≤ 2502 := by omega
  clear hpl
  go_wp2_with fail
  rw [cat_end]
  refine (lex_any w2 (putB s ++ [32]) (by rw [List.length_append]; simp; omega) HM2.out).mono ?_
  rintro e w3 ⟨v3, rfl, hr3, hb3⟩
  have HB3 := Lib.hid (HB2.out.trans (hb3.mono HB2.out.size))
  have HM3 := Lib.hid (maxLen_at HM2.out hb3).1
  clear hb3 HB2 HM2
  obtain ⟨L, hx, hL2, hL1⟩ : ∃ L, lexB (putB s ++ [32]) = (L, 0, 0) ∧ ((s = [91, 93] ∨ s = [123, 125]) → L.length = 3) ∧ (¬ (s = [91, 93] ∨ s = [123, 125]) → ∃ m, L = [⟨if plainB s then 1 else 2, 1, 0, s, false, false⟩, endTok m]) := by
    by_cases h2 : s = [91, 93] ∨ s = [123, 125]
    · obtain ⟨ta, tb, tc, hx⟩ := atom_two s h2
      exact ⟨_, hx, fun _ => rfl, fun h => absurd h2 h⟩
    · obtain ⟨m, hx⟩ := atom_one s (fun e => h2 (.inl e)) (fun e => h2 (.inr e))
      exact ⟨_, hx, fun h => absurd h h2, fun _ => ⟨m, rfl⟩⟩
  rw [hx] at hr3 ⊢
  simp only at hr3 ⊢
  have HR3 := Lib.hid hr3
  have HL2 := Lib.hid hL2
  have HL1 := Lib.hid hL1
  clear hr3 hx hL2 hL1
  go_upto_region 9 with fail
  go_cut [9] (fun t u => t = .bool (decide (s = [91, 93] ∨ s = [123, 125])) ∧ u = w3)
  case first =>
    by_cases e1 : s = [91, 93]
    · subst e1
      go_wp2_with fail
      go_meet
      exact ⟨rfl, rfl⟩
    · have f1 : (s == [91, 93]) = false := beq_eq_false_iff_ne.2 e1
      by_cases e2 : s = [123, 125]
      · subst e2
        go_wp2_with fail
        go_meet
        exact ⟨rfl, rfl⟩
      · have f2 : (s == [123, 125]) = false := beq_eq_false_iff_ne.2 e2
        go_wp2_with fail
        go_meet
        exact ⟨by rw [decide_eq_false (by simp [e1, e2])], rfl⟩
  case rest =>
    obtain ⟨rfl, rfl⟩ := hcut
    go_upto_region 10 with fail
    go_cut [6, 9, 82] (fun _ _ r u => r = .bool false ∧ Hid (Below wc.heap.size wc u))
    case first =>
      by_cases h2 : s = [91, 93] ∨ s = [123, 125]
      · obtain ⟨A, cap, rfl⟩ := HR3.out.shape
        rw [decide_eq_true h2, HL2.out h2]
        clear h2
        go_quiet (fail)
        go_wp2_with fail
        go_meet
        exact ⟨rfl, Lib.hid (below_drewN (Below.refl _ _) _)⟩
      · obtain ⟨m, hL⟩ := HL1.out h2
        subst hL
        rw [decide_eq_false h2]
        obtain ⟨g, cap, rfl, -, -, hc, k⟩ := HR3.out.cells encTok_len (by simp)
        clear HL1 HL2
        cases hpb : plainB s
        · have HPB := Lib.hid hpb
          rw [hpb] at k
          clear hpb h2
          have c3 := (k 0 _ rfl 3 _ rfl).1
          have c0 := (k 0 _ rfl 0 _ rfl).1
          simp only [if_true, Bool.false_eq_true, if_false, Nat.zero_mul, Nat.zero_add] at c3 c0
          have HA := Lib.hid (And.intro c3 (And.intro c0 (Below.refl wc.heap.size wc)))
          clear k
          first
            | (go_region_held3 (fun u => u.cell? ⟨g, 3, none⟩ = some (.string ⟨s.toArray⟩) ∧ u.cell? ⟨g, 0, none⟩ = some (.int .i64 2) ∧ Below wc.heap.size wc u) (first | (with_reducible exact HA.out) | (with_reducible exact at_drew HA.out) | (with_reducible exact at_later (at_drew HA.out) hb) | (with_reducible exact at_later HA.out hb) | (with_reducible exact at_drew (at_later HA.out hb)) | (with_reducible exact at_later (by assumption) hb) | (with_reducible exact at_drew (by assumption)) | (with_reducible assumption)) (first | (go_at_call 8; refine (plain_any _ s (by omega)).mono ?_; rintro e u1 ⟨rfl, hb⟩; rw [HPB.out])))
            | fail
          go_wp2_with fail
          go_meet
          exact ⟨rfl, Lib.hid (And.right (And.right (by assumption)))⟩
        · have HPB := Lib.hid hpb
          rw [hpb] at k
          clear hpb h2
          have c3 := (k 0 _ rfl 3 _ rfl).1
          have c0 := (k 0 _ rfl 0 _ rfl).1
          simp only [if_true, Bool.false_eq_true, if_false, Nat.zero_mul, Nat.zero_add] at c3 c0
          have HA := Lib.hid (And.intro c3 (And.intro c0 (Below.refl wc.heap.size wc)))
          clear k
          refine wp_region_held_drew (S := fun u => u.cell? ⟨g, 3, none⟩ = some (.string ⟨s.toArray⟩) ∧ u.cell? ⟨g, 0, none⟩ = some (.int .i64 1) ∧ Below wc.heap.size wc u) (by kernel_rfl) (at_drew HA.out) (fun hHeld => ?_)
          refine wpAnyH_take (i := 0) (v := ?_) rfl (by kernel_rfl) (by kernel_rfl) (by kernel_rfl) (fun _ _ _ h => h) (Or.inl ⟨by rfl, ?_⟩) (by assumption) ?_
          rotate_left
          · (intro w0 hSw; (try dsimp only at hSw); (try simp only [List.getElem_toArray, List.getElem_cons_zero, List.getElem_cons_succ]); go_simp <;> with_reducible rfl)
          (try simp only [List.getElem_toArray, List.getElem_cons_zero, List.getElem_cons_succ, Act.put, List.setIfInBounds_toArray, List.set_cons_zero, List.set_cons_succ])
          refine wpAnyH_take (i := 1) (v := ?_) rfl (by kernel_rfl) (by kernel_rfl) (by kernel_rfl) (fun _ _ _ h => h) (Or.inl ⟨by rfl, ?_⟩) (by assumption) ?_
          rotate_left
          · (intro w0 hSw; (try dsimp only at hSw); (try simp only [List.getElem_toArray, List.getElem_cons_zero, List.getElem_cons_succ]); go_simp <;> with_reducible rfl)
          (try simp only [List.getElem_toArray, List.getElem_cons_zero, List.getElem_cons_succ, Act.put, List.setIfInBounds_toArray, List.set_cons_zero, List.set_cons_succ])
          refine wpAnyH_take (i := 2) (v := ?_) rfl (by kernel_rfl) (by kernel_rfl) (by kernel_rfl) (fun _ _ _ h => h) (Or.inl ⟨by rfl, ?_⟩) (by assumption) ?_
          rotate_left
          · (intro w0 hSw; (try dsimp only at hSw); (try simp only [List.getElem_toArray, List.getElem_cons_zero, List.getElem_cons_succ]); go_simp <;> with_reducible rfl)
          (try simp only [List.getElem_toArray, List.getElem_cons_zero, List.getElem_cons_succ, Act.put, List.setIfInBounds_toArray, List.set_cons_zero, List.set_cons_succ])
          refine wpAnyH_take (i := 3) (v := ?_) rfl (by kernel_rfl) (by kernel_rfl) (by kernel_rfl) (fun _ _ _ h => h) (Or.inl ⟨by rfl, ?_⟩) (by assumption) ?_
          rotate_left
          · (intro w0 hSw; (try dsimp only at hSw); (try simp only [List.getElem_toArray, List.getElem_cons_zero, List.getElem_cons_succ]); go_simp <;> with_reducible rfl)
          (try simp only [List.getElem_toArray, List.getElem_cons_zero, List.getElem_cons_succ, Act.put, List.setIfInBounds_toArray, List.set_cons_zero, List.set_cons_succ])
          refine wpAnyH_take (i := 4) (v := ?_) rfl (by kernel_rfl) (by kernel_rfl) (by kernel_rfl) (fun _ _ _ h => h) (Or.inl ⟨by rfl, ?_⟩) (by assumption) ?_
          rotate_left
          · (intro w0 hSw; (try dsimp only at hSw); (try simp only [List.getElem_toArray, List.getElem_cons_zero, List.getElem_cons_succ]); go_simp <;> with_reducible rfl)
          (try simp only [List.getElem_toArray, List.getElem_cons_zero, List.getElem_cons_succ, Act.put, List.setIfInBounds_toArray, List.set_cons_zero, List.set_cons_succ])
          refine wpAnyH_take (i := 5) (v := ?_) rfl (by kernel_rfl) (by kernel_rfl) (by kernel_rfl) (fun _ _ _ h => h) (Or.inl ⟨by rfl, ?_⟩) (by assumption) ?_
          rotate_left
          · (intro w0 hSw; (try dsimp only at hSw); (try simp only [List.getElem_toArray, List.getElem_cons_zero, List.getElem_cons_succ]); go_simp <;> with_reducible rfl)
          (try simp only [List.getElem_toArray, List.getElem_cons_zero, List.getElem_cons_succ, Act.put, List.setIfInBounds_toArray, List.set_cons_zero, List.set_cons_succ])
          refine wpAnyH_take (i := 6) (v := ?_) rfl (by kernel_rfl) (by kernel_rfl) (by kernel_rfl) (fun _ _ _ h => h) (Or.inl ⟨by rfl, ?_⟩) (by assumption) ?_
          rotate_left
          · (intro w0 hSw; (try dsimp only at hSw); (try simp only [List.getElem_toArray, List.getElem_cons_zero, List.getElem_cons_succ]); go_simp <;> with_reducible rfl)
          (try simp only [List.getElem_toArray, List.getElem_cons_zero, List.getElem_cons_succ, Act.put, List.setIfInBounds_toArray, List.set_cons_zero, List.set_cons_succ])
          refine wpAnyH_take (i := 7) (v := ?_) rfl (by kernel_rfl) (by kernel_rfl) (by kernel_rfl) (fun _ _ _ h => h) (Or.inl ⟨by rfl, ?_⟩) (by assumption) ?_
          rotate_left
          · (intro w0 hSw; (try dsimp only at hSw); (try simp only [List.getElem_toArray, List.getElem_cons_zero, List.getElem_cons_succ]); go_simp <;> with_reducible rfl)
          (try simp only [List.getElem_toArray, List.getElem_cons_zero, List.getElem_cons_succ, Act.put, List.setIfInBounds_toArray, List.set_cons_zero, List.set_cons_succ])
          refine wpAnyH_take (i := 8) (v := ?_) rfl (by kernel_rfl) (by kernel_rfl) (by kernel_rfl) (fun _ _ _ h => h) (Or.inl ⟨by rfl, ?_⟩) (by assumption) ?_
          rotate_left
          · (intro w0 hSw; (try dsimp only at hSw); (try simp only [List.getElem_toArray, List.getElem_cons_zero, List.getElem_cons_succ]); go_simp <;> with_reducible rfl)
          (try simp only [List.getElem_toArray, List.getElem_cons_zero, List.getElem_cons_succ, Act.put, List.setIfInBounds_toArray, List.set_cons_zero, List.set_cons_succ])
          refine wpAnyH_take (i := 9) (v := ?_) rfl (by kernel_rfl) (by kernel_rfl) (by kernel_rfl) (fun _ _ _ h => h) (Or.inl ⟨by rfl, ?_⟩) (by assumption) ?_
          rotate_left
          · (intro w0 hSw; (try dsimp only at hSw); (try simp only [List.getElem_toArray, List.getElem_cons_zero, List.getElem_cons_succ]); go_simp <;> with_reducible rfl)
          (try simp only [List.getElem_toArray, List.getElem_cons_zero, List.getElem_cons_succ, Act.put, List.setIfInBounds_toArray, List.set_cons_zero, List.set_cons_succ])
          refine wpAnyH_take (i := 10) (v := ?_) rfl (by kernel_rfl) (by kernel_rfl) (by kernel_rfl) (fun _ _ _ h => h) (Or.inl ⟨by rfl, ?_⟩) (by assumption) ?_
          rotate_left
          · (intro w0 hSw; (try dsimp only at hSw); (try simp only [List.getElem_toArray, List.getElem_cons_zero, List.getElem_cons_succ]); go_simp <;> with_reducible rfl)
          (try simp only [List.getElem_toArray, List.getElem_cons_zero, List.getElem_cons_succ, Act.put, List.setIfInBounds_toArray, List.set_cons_zero, List.set_cons_succ])
          refine wpAnyH_take (i := 11) (v := ?_) rfl (by kernel_rfl) (by kernel_rfl) (by kernel_rfl) (fun _ _ _ h => h) (Or.inl ⟨by rfl, ?_⟩) (by assumption) ?_
          rotate_left
          · (intro w0 hSw; (try dsimp only at hSw); (try simp only [List.getElem_toArray, List.getElem_cons_zero, List.getElem_cons_succ]); go_simp <;> with_reducible rfl)
          (try simp only [List.getElem_toArray, List.getElem_cons_zero, List.getElem_cons_succ, Act.put, List.setIfInBounds_toArray, List.set_cons_zero, List.set_cons_succ])
          refine wpAnyH_take (i := 12) (v := ?_) rfl (by kernel_rfl) (by kernel_rfl) (by kernel_rfl) (fun _ _ _ h => h) (Or.inl ⟨by rfl, ?_⟩) (by assumption) ?_
          rotate_left
          · (intro w0 hSw; (try dsimp only at hSw); (try simp only [List.getElem_toArray, List.getElem_cons_zero, List.getElem_cons_succ]); go_simp <;> with_reducible rfl)
          (try simp only [List.getElem_toArray, List.getElem_cons_zero, List.getElem_cons_succ, Act.put, List.setIfInBounds_toArray, List.set_cons_zero, List.set_cons_succ])
          refine wpAnyH_take (i := 13) (v := ?_) rfl (by kernel_rfl) (by kernel_rfl) (by kernel_rfl) (fun _ _ _ h => h) (Or.inl ⟨by rfl, ?_⟩) (by assumption) ?_
          rotate_left
          · (intro w0 hSw; (try dsimp only at hSw); (try simp only [List.getElem_toArray, List.getElem_cons_zero, List.getElem_cons_succ]); go_simp <;> with_reducible rfl)
          (try simp only [List.getElem_toArray, List.getElem_cons_zero, List.getElem_cons_succ, Act.put, List.setIfInBounds_toArray, List.set_cons_zero, List.set_cons_succ])
          refine wpAnyH_take (i := 14) (v := ?_) rfl (by kernel_rfl) (by kernel_rfl) (by kernel_rfl) (fun _ _ _ h => h) (Or.inl ⟨by rfl, ?_⟩) (by assumption) ?_
          rotate_left
          · (intro w0 hSw; (try dsimp only at hSw); (try simp only [List.getElem_toArray, List.getElem_cons_zero, List.getElem_cons_succ]); go_simp <;> with_reducible rfl)
          (try simp only [List.getElem_toArray, List.getElem_cons_zero, List.getElem_cons_succ, Act.put, List.setIfInBounds_toArray, List.set_cons_zero, List.set_cons_succ])
          refine wpAnyH_take (i := 15) (v := ?_) rfl (by kernel_rfl) (by kernel_rfl) (by kernel_rfl) (fun _ _ _ h => h) (Or.inl ⟨by rfl, ?_⟩) (by assumption) ?_
          rotate_left
          · (intro w0 hSw; (try dsimp only at hSw); (try simp only [List.getElem_toArray, List.getElem_cons_zero, List.getElem_cons_succ]); go_simp <;> with_reducible rfl)
          (try simp only [List.getElem_toArray, List.getElem_cons_zero, List.getElem_cons_succ, Act.put, List.setIfInBounds_toArray, List.set_cons_zero, List.set_cons_succ])
          refine wpAnyH_take (i := 16) (v := ?_) rfl (by kernel_rfl) (by kernel_rfl) (by kernel_rfl) (fun _ _ _ h => h) (Or.inl ⟨by rfl, ?_⟩) (by assumption) ?_
          rotate_left
          · (intro w0 hSw; (try dsimp only at hSw); (try simp only [List.getElem_toArray, List.getElem_cons_zero, List.getElem_cons_succ]); go_simp <;> with_reducible rfl)
          (try simp only [List.getElem_toArray, List.getElem_cons_zero, List.getElem_cons_succ, Act.put, List.setIfInBounds_toArray, List.set_cons_zero, List.set_cons_succ])
          refine wpAnyH_take (i := 17) (v := ?_) rfl (by kernel_rfl) (by kernel_rfl) (by kernel_rfl) (fun _ _ _ h => h) (Or.inl ⟨by rfl, ?_⟩) (by assumption) ?_
          rotate_left
          · (intro w0 hSw; (try dsimp only at hSw); (try simp only [List.getElem_toArray, List.getElem_cons_zero, List.getElem_cons_succ]); go_simp <;> with_reducible rfl)
          (try simp only [List.getElem_toArray, List.getElem_cons_zero, List.getElem_cons_succ, Act.put, List.setIfInBounds_toArray, List.set_cons_zero, List.set_cons_succ])
          refine wpAnyH_take (i := 18) (v := ?_) rfl (by kernel_rfl) (by kernel_rfl) (by kernel_rfl) (fun _ _ _ h => h) (Or.inl ⟨by rfl, ?_⟩) (by assumption) ?_
          rotate_left
          · (intro w0 hSw; (try dsimp only at hSw); (try simp only [List.getElem_toArray, List.getElem_cons_zero, List.getElem_cons_succ]); go_simp <;> with_reducible rfl)
          (try simp only [List.getElem_toArray, List.getElem_cons_zero, List.getElem_cons_succ, Act.put, List.setIfInBounds_toArray, List.set_cons_zero, List.set_cons_succ])
          refine wpAnyH_take (i := 19) (v := ?_) rfl (by kernel_rfl) (by kernel_rfl) (by kernel_rfl) (fun _ _ _ h => h) (Or.inl ⟨by rfl, ?_⟩) (by assumption) ?_
          rotate_left
          · (intro w0 hSw; (try dsimp only at hSw); (try simp only [List.getElem_toArray, List.getElem_cons_zero, List.getElem_cons_succ]); go_simp <;> with_reducible rfl)
          (try simp only [List.getElem_toArray, List.getElem_cons_zero, List.getElem_cons_succ, Act.put, List.setIfInBounds_toArray, List.set_cons_zero, List.set_cons_succ])
          refine wpAnyH_take (i := 20) (v := ?_) rfl (by kernel_rfl) (by kernel_rfl) (by kernel_rfl) (fun _ _ _ h => h) (Or.inl ⟨by rfl, ?_⟩) (by assumption) ?_
          rotate_left
          · (intro w0 hSw; (try dsimp only at hSw); (try simp only [List.getElem_toArray, List.getElem_cons_zero, List.getElem_cons_succ]); go_simp <;> with_reducible rfl)
          (try simp only [List.getElem_toArray, List.getElem_cons_zero, List.getElem_cons_succ, Act.put, List.setIfInBounds_toArray, List.set_cons_zero, List.set_cons_succ])
          refine wpAnyH_take (i := 21) (v := ?_) rfl (by kernel_rfl) (by kernel_rfl) (by kernel_rfl) (fun _ _ _ h => h) (Or.inl ⟨by rfl, ?_⟩) (by assumption) ?_
          rotate_left
          · (intro w0 hSw; (try dsimp only at hSw); (try simp only [List.getElem_toArray, List.getElem_cons_zero, List.getElem_cons_succ]); go_simp <;> with_reducible rfl)
          (try simp only [List.getElem_toArray, List.getElem_cons_zero, List.getElem_cons_succ, Act.put, List.setIfInBounds_toArray, List.set_cons_zero, List.set_cons_succ])
          refine wpAnyH_take (i := 22) (v := ?_) rfl (by kernel_rfl) (by kernel_rfl) (by kernel_rfl) (fun _ _ _ h => h) (Or.inl ⟨by rfl, ?_⟩) (by assumption) ?_
          rotate_left
          · (intro w0 hSw; (try dsimp only at hSw); (try simp only [List.getElem_toArray, List.getElem_cons_zero, List.getElem_cons_succ]); go_simp <;> with_reducible rfl)
          (try simp only [List.getElem_toArray, List.getElem_cons_zero, List.getElem_cons_succ, Act.put, List.setIfInBounds_toArray, List.set_cons_zero, List.set_cons_succ])
          refine wpAnyH_take (i := 23) (v := ?_) rfl (by kernel_rfl) (by kernel_rfl) (by kernel_rfl) (fun _ _ _ h => h) (Or.inl ⟨by rfl, ?_⟩) (by assumption) ?_
          rotate_left
          · (intro w0 hSw; (try dsimp only at hSw); (try simp only [List.getElem_toArray, List.getElem_cons_zero, List.getElem_cons_succ]); go_simp <;> with_reducible rfl)
          (try simp only [List.getElem_toArray, List.getElem_cons_zero, List.getElem_cons_succ, Act.put, List.setIfInBounds_toArray, List.set_cons_zero, List.set_cons_succ])
          refine wpAnyH_take (i := 24) (v := ?_) rfl (by kernel_rfl) (by kernel_rfl) (by kernel_rfl) (fun _ _ _ h => h) (Or.inl ⟨by rfl, ?_⟩) (by assumption) ?_
          rotate_left
          · (intro w0 hSw; (try dsimp only at hSw); (try simp only [List.getElem_toArray, List.getElem_cons_zero, List.getElem_cons_succ]); go_simp <;> with_reducible rfl)
          (try simp only [List.getElem_toArray, List.getElem_cons_zero, List.getElem_cons_succ, Act.put, List.setIfInBounds_toArray, List.set_cons_zero, List.set_cons_succ])
          refine wpAnyH_take (i := 25) (v := ?_) rfl (by kernel_rfl) (by kernel_rfl) (by kernel_rfl) (fun _ _ _ h => h) (Or.inl ⟨by rfl, ?_⟩) (by assumption) ?_
          rotate_left
          · (intro w0 hSw; (try dsimp only at hSw); (try simp only [List.getElem_toArray, List.getElem_cons_zero, List.getElem_cons_succ]); go_simp <;> with_reducible rfl)
          (try simp only [List.getElem_toArray, List.getElem_cons_zero, List.getElem_cons_succ, Act.put, List.setIfInBounds_toArray, List.set_cons_zero, List.set_cons_succ])
          refine wpAnyH_take (i := 26) (v := ?_) rfl (by kernel_rfl) (by kernel_rfl) (by kernel_rfl) (fun _ _ _ h => h) (Or.inl ⟨by rfl, ?_⟩) (by assumption) ?_
          rotate_left
          · (intro w0 hSw; (try dsimp only at hSw); (try simp only [List.getElem_toArray, List.getElem_cons_zero, List.getElem_cons_succ]); go_simp <;> with_reducible rfl)
          (try simp only [List.getElem_toArray, List.getElem_cons_zero, List.getElem_cons_succ, Act.put, List.setIfInBounds_toArray, List.set_cons_zero, List.set_cons_succ])
          refine wpAnyH_ready (rs := [27]) (by kernel_rfl) (by simp) ?_
          refine AllReadyH.cons (by simp only [List.getElem?_toArray, List.getElem?_cons_zero, List.getElem?_cons_succ] <;> rfl) (fun KK hKK => ?_) AllReadyH.nil
          go_simp
          refine (plain_any _ s (by omega)).mono ?_
          rintro e u1 ⟨rfl, hb⟩
          rw [HPB.out]
          refine hKK.out _ _ (at_later (at_drew HA.out) hb) (fun hHeld2 => ?_)
          clear hHeld hKK KK
          refine wpAnyH_take (i := 28) (v := ?_) rfl (by kernel_rfl) (by kernel_rfl) (by kernel_rfl) (fun _ _ _ h => h) (Or.inl ⟨by rfl, ?_⟩) (by assumption) ?_
          rotate_left
          · (intro w0 hSw; (try dsimp only at hSw); (try simp only [List.getElem_toArray, List.getElem_cons_zero, List.getElem_cons_succ]); go_simp <;> with_reducible rfl)
          (try simp only [List.getElem_toArray, List.getElem_cons_zero, List.getElem_cons_succ, Act.put, List.setIfInBounds_toArray, List.set_cons_zero, List.set_cons_succ])
          refine wpAnyH_take (i := 29) (v := ?_) rfl (by kernel_rfl) (by kernel_rfl) (by kernel_rfl) (fun _ _ _ h => h) (Or.inl ⟨by rfl, ?_⟩) (by assumption) ?_
          rotate_left
          · (intro w0 hSw; (try dsimp only at hSw); (try simp only [List.getElem_toArray, List.getElem_cons_zero, List.getElem_cons_succ]); go_simp <;> with_reducible rfl)
          (try simp only [List.getElem_toArray, List.getElem_cons_zero, List.getElem_cons_succ, Act.put, List.setIfInBounds_toArray, List.set_cons_zero, List.set_cons_succ])
          refine wpAnyH_take (i := 30) (v := ?_) rfl (by kernel_rfl) (by kernel_rfl) (by kernel_rfl) (fun _ _ _ h => h) (Or.inl ⟨by rfl, ?_⟩) (by assumption) ?_
          rotate_left
          · (intro w0 hSw; (try dsimp only at hSw); (try simp only [List.getElem_toArray, List.getElem_cons_zero, List.getElem_cons_succ]); go_simp <;> with_reducible rfl)
          (try simp only [List.getElem_toArray, List.getElem_cons_zero, List.getElem_cons_succ, Act.put, List.setIfInBounds_toArray, List.set_cons_zero, List.set_cons_succ])
          refine wpAnyH_take (i := 31) (v := ?_) rfl (by kernel_rfl) (by kernel_rfl) (by kernel_rfl) (fun _ _ _ h => h) (Or.inl ⟨by rfl, ?_⟩) (by assumption) ?_
          rotate_left
          · (intro w0 hSw; (try dsimp only at hSw); (try simp only [List.getElem_toArray, List.getElem_cons_zero, List.getElem_cons_succ]); go_simp <;> with_reducible rfl)
          (try simp only [List.getElem_toArray, List.getElem_cons_zero, List.getElem_cons_succ, Act.put, List.setIfInBounds_toArray, List.set_cons_zero, List.set_cons_succ])
          refine wpAnyH_take (i := 32) (v := ?_) rfl (by kernel_rfl) (by kernel_rfl) (by kernel_rfl) (fun _ _ _ h => h) (Or.inl ⟨by rfl, ?_⟩) (by assumption) ?_
          rotate_left
          · (intro w0 hSw; (try dsimp only at hSw); (try simp only [List.getElem_toArray, List.getElem_cons_zero, List.getElem_cons_succ]); go_simp <;> with_reducible rfl)
          (try simp only [List.getElem_toArray, List.getElem_cons_zero, List.getElem_cons_succ, Act.put, List.setIfInBounds_toArray, List.set_cons_zero, List.set_cons_succ])
          refine wpAnyH_take (i := 33) (v := ?_) rfl (by kernel_rfl) (by kernel_rfl) (by kernel_rfl) (fun _ _ _ h => h) (Or.inl ⟨by rfl, ?_⟩) (by assumption) ?_
          rotate_left
          · (intro w0 hSw; (try dsimp only at hSw); (try simp only [List.getElem_toArray, List.getElem_cons_zero, List.getElem_cons_succ]); go_simp <;> with_reducible rfl)
          (try simp only [List.getElem_toArray, List.getElem_cons_zero, List.getElem_cons_succ, Act.put, List.setIfInBounds_toArray, List.set_cons_zero, List.set_cons_succ])
          refine wpAnyH_take (i := 34) (v := ?_) rfl (by kernel_rfl) (by kernel_rfl) (by kernel_rfl) (fun _ _ _ h => h) (Or.inl ⟨by rfl, ?_⟩) (by assumption) ?_
          rotate_left
          · (intro w0 hSw; (try dsimp only at hSw); (try simp only [List.getElem_toArray, List.getElem_cons_zero, List.getElem_cons_succ]); go_simp <;> with_reducible rfl)
          (try simp only [List.getElem_toArray, List.getElem_cons_zero, List.getElem_cons_succ, Act.put, List.setIfInBounds_toArray, List.set_cons_zero, List.set_cons_succ])
          refine wpAnyH_take (i := 35) (v := ?_) rfl (by kernel_rfl) (by kernel_rfl) (by kernel_rfl) (fun _ _ _ h => h) (Or.inl ⟨by rfl, ?_⟩) (by assumption) ?_
          rotate_left
          · (intro w0 hSw; (try dsimp only at hSw); (try simp only [List.getElem_toArray, List.getElem_cons_zero, List.getElem_cons_succ]); go_simp <;> with_reducible rfl)
          (try simp only [List.getElem_toArray, List.getElem_cons_zero, List.getElem_cons_succ, Act.put, List.setIfInBounds_toArray, List.set_cons_zero, List.set_cons_succ])
          refine wpAnyH_take (i := 36) (v := ?_) rfl (by kernel_rfl) (by kernel_rfl) (by kernel_rfl) (fun _ _ _ h => h) (Or.inl ⟨by rfl, ?_⟩) (by assumption) ?_
          rotate_left
          · (intro w0 hSw; (try dsimp only at hSw); (try simp only [List.getElem_toArray, List.getElem_cons_zero, List.getElem_cons_succ]); go_simp <;> with_reducible rfl)
          (try simp only [List.getElem_toArray, List.getElem_cons_zero, List.getElem_cons_succ, Act.put, List.setIfInBounds_toArray, List.set_cons_zero, List.set_cons_succ])
          refine wpAnyH_take (i := 37) (v := undef) rfl (by kernel_rfl) (by kernel_rfl) (by kernel_rfl) (fun _ _ _ h => h) (Or.inr ⟨by rfl, rfl⟩) (by assumption) ?_
          (try simp only [List.getElem_toArray, List.getElem_cons_zero, List.getElem_cons_succ, Act.put, List.setIfInBounds_toArray, List.set_cons_zero, List.set_cons_succ])
          refine wpAnyH_take (i := 38) (v := undef) rfl (by kernel_rfl) (by kernel_rfl) (by kernel_rfl) (fun _ _ _ h => h) (Or.inr ⟨by rfl, rfl⟩) (by assumption) ?_
          (try simp only [List.getElem_toArray, List.getElem_cons_zero, List.getElem_cons_succ, Act.put, List.setIfInBounds_toArray, List.set_cons_zero, List.set_cons_succ])
          refine wpAnyH_take (i := 39) (v := undef) rfl (by kernel_rfl) (by kernel_rfl) (by kernel_rfl) (fun _ _ _ h => h) (Or.inr ⟨by rfl, rfl⟩) (by assumption) ?_
          (try simp only [List.getElem_toArray, List.getElem_cons_zero, List.getElem_cons_succ, Act.put, List.setIfInBounds_toArray, List.set_cons_zero, List.set_cons_succ])
          refine wpAnyH_take (i := 40) (v := undef) rfl (by kernel_rfl) (by kernel_rfl) (by kernel_rfl) (fun _ _ _ h => h) (Or.inr ⟨by rfl, rfl⟩) (by assumption) ?_
          (try simp only [List.getElem_toArray, List.getElem_cons_zero, List.getElem_cons_succ, Act.put, List.setIfInBounds_toArray, List.set_cons_zero, List.set_cons_succ])
          refine wpAnyH_take (i := 41) (v := undef) rfl (by kernel_rfl) (by kernel_rfl) (by kernel_rfl) (fun _ _ _ h => h) (Or.inr ⟨by rfl, rfl⟩) (by assumption) ?_
          (try simp only [List.getElem_toArray, List.getElem_cons_zero, List.getElem_cons_succ, Act.put, List.setIfInBounds_toArray, List.set_cons_zero, List.set_cons_succ])
          refine wpAnyH_take (i := 42) (v := ?_) rfl (by kernel_rfl) (by kernel_rfl) (by kernel_rfl) (fun _ _ _ h => h) (Or.inl ⟨by rfl, ?_⟩) (by assumption) ?_
          rotate_left
          · (intro w0 hSw; (try dsimp only at hSw); (try simp only [List.getElem_toArray, List.getElem_cons_zero, List.getElem_cons_succ]); go_simp <;> with_reducible rfl)
          (try simp only [List.getElem_toArray, List.getElem_cons_zero, List.getElem_cons_succ, Act.put, List.setIfInBounds_toArray, List.set_cons_zero, List.set_cons_succ])
          refine wpAnyH_take (i := 43) (v := ?_) rfl (by kernel_rfl) (by kernel_rfl) (by kernel_rfl) (fun _ _ _ h => h) (Or.inl ⟨by rfl, ?_⟩) (by assumption) ?_
          rotate_left
          · (intro w0 hSw; (try dsimp only at hSw); (try simp only [List.getElem_toArray, List.getElem_cons_zero, List.getElem_cons_succ]); go_simp <;> with_reducible rfl)
          (try simp only [List.getElem_toArray, List.getElem_cons_zero, List.getElem_cons_succ, Act.put, List.setIfInBounds_toArray, List.set_cons_zero, List.set_cons_succ])
          refine wpAnyH_take (i := 44) (v := ?_) rfl (by kernel_rfl) (by kernel_rfl) (by kernel_rfl) (fun _ _ _ h => h) (Or.inl ⟨by rfl, ?_⟩) (by assumption) ?_
          rotate_left
          · (intro w0 hSw; (try dsimp only at hSw); (try simp only [List.getElem_toArray, List.getElem_cons_zero, List.getElem_cons_succ]); go_simp <;> with_reducible rfl)
          (try simp only [List.getElem_toArray, List.getElem_cons_zero, List.getElem_cons_succ, Act.put, List.setIfInBounds_toArray, List.set_cons_zero, List.set_cons_succ])
          refine wpAnyH_take (i := 45) (v := ?_) rfl (by kernel_rfl) (by kernel_rfl) (by kernel_rfl) (fun _ _ _ h => h) (Or.inl ⟨by rfl, ?_⟩) (by assumption) ?_
          rotate_left
          · (intro w0 hSw; (try dsimp only at hSw); (try simp only [List.getElem_toArray, List.getElem_cons_zero, List.getElem_cons_succ]); go_simp <;> with_reducible rfl)
          (try simp only [List.getElem_toArray, List.getElem_cons_zero, List.getElem_cons_succ, Act.put, List.setIfInBounds_toArray, List.set_cons_zero, List.set_cons_succ])
          refine wpAnyH_done (by kernel_rfl) ?_ _
          go_wp2_with fail
          go_meet
          exact ⟨rfl, Lib.hid hHeld2.2.2⟩
    case rest =>
      obtain ⟨rfl, HB⟩ := hcut
      have HB4 := Lib.hid (HB3.out.trans (HB.out.mono HB3.out.size))
      have HM4 := Lib.hid (maxLen_at HM3.out HB.out).1
      clear HB HB3 HM3 HR3 HL1 HL2
      have hn := HN.out
      have hnw : IntKind.u64.wrap (n : Int) = (n : Int) := by
        have : IntKind.u64.wrap (n : Int) = (n : Int) % 18446744073709551616 := rfl
        omega
      obtain ⟨D, hD⟩ : ∃ D, digsB 10 n = D := ⟨_, rfl⟩
      have HD := Lib.hid hD
      clear hD
      go_wp2_with fail
      go_loopw [11, 10] (fun k t wr => ∃ (c : Nat) (l : List UInt8), c < 4294967296 ∧ k = .int .u64 c ∧ t = .string ⟨l.toArray⟩ ∧ l.length + c ≤ 4294967296 ∧ wr = wc ∧ Hid (digsB 10 c ++ l = D)) (fun k _ _ => (intOf k).toNat)
      case atStart => exact ⟨n, [], hn, rfl, rfl, by simp; omega, rfl, Lib.hid (by rw [List.append_nil]; exact HD.out)⟩
      case round =>
        obtain ⟨c, l, hc, rfl, rfl, hl, rfl, hS⟩ := hrel
        have henc := enc_last c
        by_cases hlt : c < 10
        · have hlt' : (c : Int) < 10 := by omega
          have hS2 := hS.out
          rw [digsB_small hlt] at hS2
          have HS2 := Lib.hid hS2
          clear hS2 hS
          go_wp2_with fail
          rw [cat_one, Nat.mod_eq_of_lt hlt, show hexDigit c :: l = D from HS2.out, cat_twice]
          have hDl : D.length ≤ 33 := by rw [← HD.out]; exact digsB_len (base := 10) (by omega) 32 n HN.out
          refine (lex_any wr (D ++ 95 :: D) (by rw [List.length_append, List.length_cons]; omega) HM4.out).mono ?_
          rintro e w5 ⟨v5, rfl, hr5, hb5⟩
          have hlex := lex_twice n HN.out
          rw [HD.out] at hlex
          rw [hlex] at hr5 ⊢
          simp only at hr5 ⊢
          have HB5 := Lib.hid (HB4.out.trans (hb5.mono HB4.out.size))
          obtain ⟨g, cap, rfl, -, -, hcp, k⟩ := hr5.cells encTok_len (by simp)
          have d0 : w5.cell? ⟨g, 0, none⟩ = some (.int .i64 3) := (k 0 _ rfl 0 _ rfl).1
          have d2 : w5.cell? ⟨g, 2, none⟩ = some (.int .i64 (n : Int)) := (k 0 _ rfl 2 _ rfl).1
          have d6 : w5.cell? ⟨g, 6, none⟩ = some (.int .i64 4) := (k 1 _ rfl 0 _ rfl).1
          have d9 : w5.cell? ⟨g, 9, none⟩ = some (.string ⟨(95 :: D).toArray⟩) := (k 1 _ rfl 3 _ rfl).1
          have d11 : w5.cell? ⟨g, 11, none⟩ = some (.bool true) := (k 1 _ rfl 5 _ rfl).1
          have hc1 := cat_one 95 D
          have hw64 : wrap64 (n : Int) = (n : Int) := by unfold wrap64; omega
          have hDl' : (D.length : Int) ≤ 33 := by omega
          clear k hr5 hb5 hlex HS2 henc hl HB4 HM4 hcp hnw
          go_wp2_with fail
          go_ret
          exact ⟨rfl, HB5.out⟩
        · have hlt' : 10 ≤ (c : Int) := by omega
          have hdc : decide ((c : Int) < 10) = false := decide_eq_false (by omega)
          have hS2 := hS.out
          rw [digsB_step (by omega) hlt, List.append_assoc] at hS2
          have HS2 := Lib.hid hS2
          clear hS2 hS
          have hc1 := cat_one (hexDigit (c % 10)) l
          go_wp2_with fail
          go_roundw
          case rel => exact ⟨c / 10, hexDigit (c % 10) :: l, by omega, by go_num, rfl, by rw [List.length_cons]; omega, trivial, HS2⟩
          case measure => simp [intOf]; omega
end Go.Proofs.YtplejnlgehjgjaaDoor
