/-
  What law04's TokenBases answers: true. Condition: the index package's cell holds a number, the arguments are of their types.
-/
import Derived.Test.YtplejnlgehjgjaaTokW10
import Derived.Test.YtplejnlgehjgjaaTokBasesD
namespace Go.Proofs.Ytplejnlgehjgjaa
open Go.RowKit
set_option maxRecDepth 100000

theorem cat_b (a b : List UInt8) : (⟨a.toArray⟩ ++ ⟨b.toArray⟩ : ByteArray) = ⟨(a ++ b).toArray⟩ := by
  apply ByteArray.ext
  simp
theorem cat_end (a : List UInt8) : (⟨a.toArray⟩ ++ ⟨#[32]⟩ : ByteArray) = ⟨(a ++ [32]).toArray⟩ := cat_b a [32]
theorem cat_pre (m : UInt8) (a : List UInt8) : (⟨#[48, m]⟩ ++ ⟨a.toArray⟩ : ByteArray) = ⟨(48 :: m :: a).toArray⟩ := cat_b [48, m] a

/-- What a text of one number answers. -/
theorem pair_any (w : World) (T : List UInt8) (x : Int) (hT : (T.length : Int) ≤ 16000) (hx : lexB T = (pairOf x, 0, 0)) (hmax : ∃ m : Int, w.cell? ⟨0, 0, none⟩ = some (.int .i64 m)) :
    Calls Try.prog 7 #[.string ⟨T.toArray⟩] w fun e w' => ∃ g cap, e = .returned (.tuple #[.slice (some ⟨g, 0, none⟩) 2 cap, .int .i64 0, .int .i64 0]) ∧ 2 ≤ cap ∧ w'.cell? ⟨g, 0, none⟩ = some (.int .i64 3) ∧ w'.cell? ⟨g, 2, none⟩ = some (.int .i64 x) ∧ Below w.heap.size w w' := by
  refine (lex_any w T hT hmax).mono ?_
  rintro e w' ⟨v, rfl, hr, hb⟩
  rw [hx] at hr ⊢
  obtain ⟨g, cap, rfl, -, -, hc, k⟩ := hr.cells encTok_len (by simp [pairOf])
  exact ⟨g, cap, rfl, hc, (k 0 _ rfl 0 _ rfl).1, (k 0 _ rfl 2 _ rfl).1, hb⟩

theorem ix4_0 (a b c d : Value) (w : World) : (Instr.index 34 (.agg #[a, b, c, d]) (.int .i64 0)).run Try.prog w = .ok a w := by simp [Instr.index, run_underlying Try.underlying34, asIntOf, go_sem]
theorem ix4_1 (a b c d : Value) (w : World) : (Instr.index 34 (.agg #[a, b, c, d]) (.int .i64 1)).run Try.prog w = .ok b w := by simp [Instr.index, run_underlying Try.underlying34, asIntOf, go_sem]
theorem ix4_2 (a b c d : Value) (w : World) : (Instr.index 34 (.agg #[a, b, c, d]) (.int .i64 2)).run Try.prog w = .ok c w := by simp [Instr.index, run_underlying Try.underlying34, asIntOf, go_sem]
theorem ix4_3 (a b c d : Value) (w : World) : (Instr.index 34 (.agg #[a, b, c, d]) (.int .i64 3)).run Try.prog w = .ok d w := by simp [Instr.index, run_underlying Try.underlying34, asIntOf, go_sem]

structure BInv (w : World) (n : Nat) (u : World) : Prop where
  below : Below w.heap.size w u
  lt : w.heap.size < u.heap.size
  cell : u.cell? ⟨w.heap.size, 0, none⟩ = some (.int .u32 (n : Int))
  max : ∃ m : Int, u.cell? ⟨0, 0, none⟩ = some (.int .i64 m)
theorem BInv.step {w u u' : World} {n : Nat} (h : BInv w n u) (hb : Below u.heap.size u u') : BInv w n u' :=
  ⟨h.below.trans (hb.mono h.below.size), Nat.lt_of_lt_of_le h.lt hb.size, by rw [World.cell?_of_block (hb.block _ h.lt)]; exact h.cell, (maxLen_at h.max hb).1⟩
theorem BInv.drew {w u : World} {n : Nat} (h : BInv w n u) (k : Nat) : BInv w n (u.drewN k) := h.step (below_drewN (Below.refl _ _) k)

set_option maxHeartbeats 4000000 in
theorem bases_any (w : World) (n : Nat) (c : UInt8) (hn : n < 4294967296) (hmax : ∃ m : Int, w.cell? ⟨0, 0, none⟩ = some (.int .i64 m)) :
    Calls Try.prog 5 #[.int .u32 (n : Int), .int .u8 (c.toNat : Int)] w fun e w' => e = .returned (.bool true) ∧ Below w.heap.size w w' := by
  have hmf : ∀ (fn : Fn) (first cap : Array Value) (w : World), (Instr.makeFunc fn first cap).run Try.prog w = .ok (.func fn first cap) w := fun _ _ _ _ => rfl
  have x0 := ix4_0
  have x1 := ix4_1
  have x2 := ix4_2
  have x3 := ix4_3
  obtain ⟨W0, hW0⟩ : ∃ W0, w.alloc (.cells #[.int .u32 (n : Int)] 32) = W0 := ⟨_, rfl⟩
  have HI0 : Hid (BInv w n W0) := by
    refine Lib.hid ?_
    have hb0 : Below w.heap.size w W0 := by rw [← hW0]; exact (Below.refl _ _).alloc (Nat.le_refl _) _
    exact ⟨hb0, by rw [← hW0]; simp, by rw [← hW0]; simp, (maxLen_at hmax hb0).1⟩
  have l10 : ((digsB 10 n).length : Int) ≤ 33 := by have := digsB_len (base := 10) (by omega) 32 n hn; omega
  have l16 : ((digsB 16 n).length : Int) ≤ 33 := by have := digsB_len (base := 16) (by omega) 32 n hn; omega
  have l8 : ((digsB 8 n).length : Int) ≤ 33 := by have := digsB_len (base := 8) (by omega) 32 n hn; omega
  have l2 : ((digsB 2 n).length : Int) ≤ 33 := by have := digsB_len (base := 2) (by omega) 32 n hn; omega
  have hnw : wrap64 (n : Int) = (n : Int) := by unfold wrap64; omega
  have HN := Lib.hid hn
  clear hmax hn
  go_enter Try.func5, Try.ntmps5
  go_wp2_with fail
  refine (alive_any W0 HI0.out.max).mono ?_
  rintro e w1 ⟨rfl, hb1⟩
  have HI1 := Lib.hid (HI0.out.step hb1)
  clear hb1 HI0 hW0
  go_wp2_with fail
  refine (digits_10 w1 w.heap.size n HI1.out.cell HN.out).mono ?_
  rintro e w2 ⟨rfl, hb2⟩
  have HI2 := Lib.hid (HI1.out.step hb2)
  clear hb2 HI1
  go_wp2_with fail
  refine (digits_16 w2 w.heap.size n HI2.out.cell HN.out).mono ?_
  rintro e w3 ⟨rfl, hb3⟩
  have HI3 := Lib.hid (HI2.out.step hb3)
  clear hb3 HI2
  go_wp2_with fail
  refine (digits_8 w3 w.heap.size n HI3.out.cell HN.out).mono ?_
  rintro e w4 ⟨rfl, hb4⟩
  have HI4 := Lib.hid (HI3.out.step hb4)
  clear hb4 HI3
  go_wp2_with fail
  refine (digits_2 w4 w.heap.size n HI4.out.cell HN.out).mono ?_
  rintro e w5 ⟨rfl, hb5⟩
  have HI5 := Lib.hid (HI4.out.step hb5)
  clear hb5 HI4
  go_wp2_with fail
  rw [cat_pre, cat_pre, cat_pre]
  go_loopw [29] (fun i wr => ∃ k : Nat, k ≤ 4 ∧ i = .int .i64 k ∧ Hid (BInv w n wr)) (fun i _ => 4 - (intOf i).toNat)
  case atStart => exact ⟨0, by omega, rfl, HI5⟩
  case round =>
    obtain ⟨k, hk, rfl, HI⟩ := hrel
    clear HI5
    rcases (show k = 0 ∨ k = 1 ∨ k = 2 ∨ k = 3 ∨ k = 4 by omega) with rfl | rfl | rfl | rfl | rfl
    · go_wp2_with fail
      rw [cat_end]
      refine (pair_any wr _ n (by rw [List.length_append]; simp; omega) (lex_ten n HN.out) HI.out.max).mono ?_
      rintro e u ⟨g, cap, rfl, hc, c0, c2, hb⟩
      have HI2 := Lib.hid (HI.out.step hb)
      have cn := HI2.out.cell
      clear hb HI
      go_wp2_with fail
      go_quiet (fail)
      go_wp2
      go_roundw
      case rel => exact ⟨1, by omega, by go_num, Lib.hid (HI2.out.drew _)⟩
      case measure => simp [intOf]
    · go_wp2_with fail
      rw [cat_end]
      refine (pair_any wr _ n (by rw [List.length_append]; simp; omega) (lex_base' 120 (by simp) n HN.out) HI.out.max).mono ?_
      rintro e u ⟨g, cap, rfl, hc, c0, c2, hb⟩
      have HI2 := Lib.hid (HI.out.step hb)
      have cn := HI2.out.cell
      clear hb HI
      go_wp2_with fail
      go_quiet (fail)
      go_wp2
      go_roundw
      case rel => exact ⟨2, by omega, by go_num, Lib.hid (HI2.out.drew _)⟩
      case measure => simp [intOf]
    · go_wp2_with fail
      rw [cat_end]
      refine (pair_any wr _ n (by rw [List.length_append]; simp; omega) (lex_base' 111 (by simp) n HN.out) HI.out.max).mono ?_
      rintro e u ⟨g, cap, rfl, hc, c0, c2, hb⟩
      have HI2 := Lib.hid (HI.out.step hb)
      have cn := HI2.out.cell
      clear hb HI
      go_wp2_with fail
      go_quiet (fail)
      go_wp2
      go_roundw
      case rel => exact ⟨3, by omega, by go_num, Lib.hid (HI2.out.drew _)⟩
      case measure => simp [intOf]
    · go_wp2_with fail
      rw [cat_end]
      refine (pair_any wr _ n (by rw [List.length_append]; simp; omega) (lex_base' 98 (by simp) n HN.out) HI.out.max).mono ?_
      rintro e u ⟨g, cap, rfl, hc, c0, c2, hb⟩
      have HI2 := Lib.hid (HI.out.step hb)
      have cn := HI2.out.cell
      clear hb HI
      go_wp2_with fail
      go_quiet (fail)
      go_wp2
      go_roundw
      case rel => exact ⟨4, by omega, by go_num, Lib.hid (HI2.out.drew _)⟩
      case measure => simp [intOf]
    · clear x0 x1 x2 x3 l10 l16 l8 l2
      by_cases e39 : c = 39
      · subst e39
        go_wp2_with fail
        go_ret
        exact ⟨rfl, HI.out.below⟩
      by_cases e92 : c = 92
      · subst e92
        go_wp2_with fail
        go_ret
        exact ⟨rfl, HI.out.below⟩
      by_cases e10 : c = 10
      · subst e10
        go_wp2_with fail
        go_ret
        exact ⟨rfl, HI.out.below⟩
      have t1 : ((c.toNat : Int) == 39) = false := byte_ne e39
      have t2 : ((c.toNat : Int) == 92) = false := byte_ne e92
      have t3 : ((c.toNat : Int) == 10) = false := byte_ne e10
      have HE := Lib.hid (And.intro e39 (And.intro e92 e10))
      clear e39 e92 e10
      obtain ⟨W6, hW6⟩ : ∃ W6, wr.alloc (.cells #[.int .u8 (c.toNat : Int)] 5) = W6 := ⟨_, rfl⟩
      have hcv : (convert 35 9 (.slice (some ⟨wr.heap.size, 0, none⟩) 1 1)).run Try.prog W6 = .ok (.string ⟨#[c]⟩) W6 := by
        refine run_convert_bytes_back W6 35 9 5 ⟨wr.heap.size, 0, none⟩ 1 [c] Try.underlying35 Try.underlying5 Try.underlying9 (fun j hj => ?_)
        have : j = 0 := by simp at hj; omega
        subst this
        rw [← hW6, show (⟨wr.heap.size, 0, none⟩ : Addr).add 0 = ⟨wr.heap.size, 0, none⟩ from rfl]
        exact cell_alloc1 wr _ _ 0 _ rfl
      have HI6 : Hid (BInv w n W6) := Lib.hid (by rw [← hW6]; exact HI.out.step ((Below.refl _ _).alloc (Nat.le_refl _) _))
      have hcw : wrap64 (c.toNat : Int) = (c.toNat : Int) := by have := c.toNat_lt; unfold wrap64; omega
      go_wp2_with fail
      clear hW6 HI hcv
      have hcat : (⟨#[48, 39]⟩ ++ ⟨#[c]⟩ ++ ⟨#[32]⟩ : ByteArray) = ⟨[48, 39, c, 32].toArray⟩ := by
        apply ByteArray.ext
        simp
      rw [hcat]
      refine (pair_any W6 _ c.toNat (by simp) (lex_char c HE.out.1 HE.out.2.1 HE.out.2.2) HI6.out.max).mono ?_
      rintro e u ⟨g, cap, rfl, hc, c0, c2, hb⟩
      have HI7 := Lib.hid (HI6.out.step hb)
      clear hb HI6
      go_wp2_with fail
      go_ret
      exact ⟨rfl, HI7.out.below⟩
end Go.Proofs.Ytplejnlgehjgjaa
