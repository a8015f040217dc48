/-
  What law25's alive, and the document's Same at one list, answer: true. Conditions: the table of bits and the index package's cell hold what is named; the sizes that are named.
-/
import Derived.Test.YtpiekfkkhgighaaDoorEvC
import Derived.LoopTactic
namespace Go.Proofs.YtpiekfkkhgighaaDoor
open Go.RowKit
set_option maxRecDepth 100000

/-- What the laws ask of memory. -/
structure Env25 (w : World) : Prop where
  tab : w.cell? ⟨8, 15, none⟩ = some (.int .u8 4)
  max : ∃ m : Int, w.cell? ⟨3, 0, none⟩ = some (.int .i64 m)
theorem Env25.later {w w' : World} (h : Env25 w) (hb : Below w.heap.size w w') : Env25 w' := ⟨tab_later h.tab hb, max_later h.max hb⟩

set_option maxHeartbeats 2000000 in
theorem same_ev (w : World) (B1 B2 n c1 c2 : Nat) (A1 A2 : Option Addr) (l : List Ev) (h1 : EvsAt w B1 A1 n l) (h2 : EvsAt w B2 A2 n l) (hn : n ≤ 100000) :
    Calls Tryd.prog 29 #[.slice A1 n c1, .slice A2 n c2] w fun e w' => e = .returned (.bool true) ∧ Below w.heap.size w w' := by
  have HL1 := Lib.hid h1
  have HL2 := Lib.hid h2
  clear h1 h2
  have hnn : ((n : Int) != (n : Int)) = false := by simp
  go_enter Tryd.func29, Tryd.ntmps29
  go_wp2_with fail
  go_loopw [13] (fun i wr => ∃ k nq : Nat, k ≤ n ∧ i = .int .i64 k ∧ wr = w.drewN nq) (fun i _ => n - (intOf i).toNat)
  case atStart => exact ⟨0, 0, Nat.zero_le _, rfl, rfl⟩
  case round =>
    obtain ⟨k, nq, hk, rfl, rfl⟩ := hrel
    by_cases hlt : k < n
    · have hkl : k < l.length := by rw [HL1.out.len]; exact hlt
      have hx := List.getElem?_eq_getElem hkl
      generalize l[k] = e at hx
      obtain ⟨b, off, hA1, -, c0, c1⟩ := HL1.out.at' k e hx
      obtain ⟨b', off', hA2, -, d0, d1⟩ := HL2.out.at' k e hx
      have hlt' : (k : Int) < (n : Int) := by omega
      clear hx hnn
      subst hA1 hA2
      go_wp2_with fail
      go_quiet (fail)
      go_wp2
      go_roundw
      case rel => exact ⟨k + 1, _, hlt, by go_num, rfl⟩
      case measure => simp [intOf]; omega
    · have hkn : k = n := by omega
      subst hkn
      clear hnn
      go_wp2
      go_ret
      exact ⟨rfl, rfl, rfl, rfl, Nat.le_refl _, fun _ _ => rfl⟩

theorem show_one : showB [⟨1, [88, 32, 61, 32, 49]⟩] = some [121, 101, 115, 32, 39, 88, 32, 61, 32, 49, 39, 10] := by kernel_rfl
theorem parse_one25 : parseE [111, 117, 116, 32, 39, 97, 39, 10] = some [⟨4, [97]⟩] := by kernel_rfl
theorem evs_lit (w : World) (t : TypeId) (k : Int) (s : List UInt8) : EvsAt (w.alloc (.cells #[.int .i64 k, .string ⟨s.toArray⟩] t)) (w.alloc (.cells #[.int .i64 k, .string ⟨s.toArray⟩] t)).heap.size (some ⟨w.heap.size, 0, none⟩) 1 [⟨k, s⟩] := by
  refine ⟨rfl, fun i e he => ?_⟩
  have hi : i = 0 := by
    have := (List.getElem?_eq_some_iff.1 he).1
    simp at this
    exact this
  subst hi
  simp only [List.getElem?_cons_zero, Option.some.injEq] at he
  subst he
  exact ⟨_, _, rfl, by simp, cell_alloc1 _ _ _ _ _ rfl, cell_alloc1 _ _ _ _ _ rfl⟩

set_option maxHeartbeats 4000000 in
theorem alive25_any (w : World) (hE : Env25 w) :
    Calls Tryd.prog 24 #[] w fun e w' => e = .returned (.bool true) ∧ Below w.heap.size w w' := by
  have HE := Lib.hid hE
  clear hE
  go_enter Tryd.func24, Tryd.ntmps24
  go_wp2_with fail
  have hba : Below w.heap.size w (w.alloc (.cells #[.int .i64 1, .string ⟨#[88, 32, 61, 32, 49]⟩] 87)) := (Below.refl _ _).alloc (Nat.le_refl _) _
  refine (show_any _ _ 1 1 [⟨1, [88, 32, 61, 32, 49]⟩] (evs_lit w 87 1 [88, 32, 61, 32, 49]) (by decide) (by intro e he; simp only [List.mem_cons, List.mem_nil_iff, or_false] at he; subst he; decide) (HE.out.later hba).tab (HE.out.later hba).max).mono ?_
  rintro e w1 ⟨rfl, hb1⟩
  have hb01 : Below w.heap.size w w1 := hba.trans (hb1.mono (by simp))
  have HB1 := Lib.hid hb01
  have HE1 := Lib.hid (HE.out.later hb01)
  rw [show_one]
  simp only [showV]
  clear hba hb1 hb01
  go_wp2_with fail
  refine (parse_any w1 [111, 117, 116, 32, 39, 97, 39, 10] (by decide) HE1.out.tab HE1.out.max).mono ?_
  rintro e w2 ⟨⟨v, rfl, hr⟩, hb2⟩
  rw [parse_one25] at hr ⊢
  simp only [Option.isSome_some, if_true, Option.getD_some] at hr ⊢
  obtain ⟨g, cap, rfl, -, -, -, hc⟩ := hr.cells encEv_len (by simp)
  have c0 : w2.cell? ⟨g, 0, none⟩ = some (.int .i64 4) := (hc 0 _ rfl 0 _ rfl).1
  have c1 : w2.cell? ⟨g, 1, none⟩ = some (.string ⟨#[97]⟩) := (hc 0 _ rfl 1 _ rfl).1
  have HB2 := Lib.hid (HB1.out.trans (hb2.mono HB1.out.size))
  clear hc hr hb2
  go_wp2_with fail
  go_ret
  exact ⟨rfl, HB2.out⟩
end Go.Proofs.YtpiekfkkhgighaaDoor
