/-
  What name.Put answers: an atom as it is written. Condition: the table of bits holds what the program's text lays, and the sizes that are named.
-/
import Derived.Test.YtpiekfkkhgighaaDoorPlain
import Derived.Test.YtpiekfkkhgighaaDoorUint
namespace Go.Proofs.YtpiekfkkhgighaaDoor
open Go.RowKit
set_option maxRecDepth 100000

/-- What stands as a text is built. -/
structure PutSt (w1 : World) (v : Value) (acc : List UInt8) (u : World) : Prop where
  row : Row u w1.heap.size 5 1 encB v acc
  below : Below w1.heap.size w1 u
theorem PutSt.app {w1 u u' : World} {v v' : Value} {acc ys : List UInt8} {o : Obj} (h : PutSt w1 v acc u) (hr : Row u' w1.heap.size 5 1 encB v' (acc ++ ys)) (hg : (u.alloc o).grownBy u' v.ownBlock) : PutSt w1 v' (acc ++ ys) u' := by
  refine ⟨hr, ?_⟩
  have hF : Fr (fun k => w1.heap.size ≤ k) w1 u' := ((Fr.of_below _ h.below).alloc o).grown hg fun g e => .inl (h.row.lt g e).1
  exact hF.below (Nat.le_refl _) fun k hk => by omega
theorem PutSt.fr {w1 u u' : World} {v v' : Value} {acc ys : List UInt8} (h : PutSt w1 v acc u) (hr : Row u' w1.heap.size 5 1 encB v' (acc ++ ys)) (hf : Fr (fun k => v.ownBlock = some k) u u') : PutSt w1 v' (acc ++ ys) u' := by
  refine ⟨hr, ?_⟩
  have hF : Fr (fun k => w1.heap.size ≤ k) w1 u' := (Fr.of_below _ h.below).trans (hf.weak fun k e => (h.row.lt k e).1)
  exact hF.below (Nat.le_refl _) fun k hk => by omega
theorem PutSt.size {w1 u : World} {v : Value} {acc : List UInt8} (h : PutSt w1 v acc u) : w1.heap.size ≤ u.heap.size := h.below.size
theorem PutSt.tab {w1 u : World} {v x : Value} {acc : List UInt8} (h : PutSt w1 v acc u) (ht : w1.cell? ⟨8, 15, none⟩ = some x) : u.cell? ⟨8, 15, none⟩ = some x := tab_later ht h.below

theorem one_cell (w : World) (e : TypeId) (a : UInt8) (x : Int) (hx : x = (a.toNat : Int)) : ∀ j u, ([a].flatMap encB)[j]? = some u → (w.alloc (.cells #[.int .u8 x] e)).cell? ⟨w.heap.size, 0 + j, none⟩ = some u := by
  intro j u hu
  subst hx
  rw [Nat.zero_add]
  refine cell_alloc1 _ _ _ j u ?_
  rw [← Array.getElem?_toList]
  exact hu
theorem two_cells (w : World) (e : TypeId) (a b : UInt8) (x y : Int) (hx : x = (a.toNat : Int)) (hy : y = (b.toNat : Int)) : ∀ j u, ([a, b].flatMap encB)[j]? = some u → (w.alloc (.cells #[.int .u8 x, .int .u8 y] e)).cell? ⟨w.heap.size, 0 + j, none⟩ = some u := by
  intro j u hu
  subst hx hy
  rw [Nat.zero_add]
  refine cell_alloc1 _ _ _ j u ?_
  rw [← Array.getElem?_toList]
  exact hu
theorem escB_len (c : UInt8) : (escB c).length ≤ 5 := by
  unfold escB hexOf
  (repeat' split) <;> simp
theorem escs_len : ∀ l : List UInt8, (l.flatMap escB).length ≤ 5 * l.length
  | [] => by simp
  | c :: r => by
    rw [List.flatMap_cons, List.length_append, List.length_cons]
    have := escs_len r
    have := escB_len c
    omega
theorem take_snocP {l : List UInt8} {k : Nat} {c : UInt8} (h : l[k]? = some c) : l.take (k + 1) = l.take k ++ [c] := by
  obtain ⟨hk, rfl⟩ := List.getElem?_eq_some_iff.1 h
  exact List.take_succ_eq_append_getElem hk
theorem escs_step {l : List UInt8} {k : Nat} {c : UInt8} (h : l[k]? = some c) : (l.take (k + 1)).flatMap escB = (l.take k).flatMap escB ++ escB c := by
  rw [take_snocP h, List.flatMap_append]
  simp
theorem put_quote {l : List UInt8} (h : plainB l = false) : putB l = 39 :: (l.flatMap escB) ++ [39] := by
  unfold putB
  rw [if_neg (by simp [h])]
  rfl

set_option maxHeartbeats 4000000 in
theorem put_any (w : World) (l : List UInt8) (hl : (l.length : Int) ≤ 100000) (ht : w.cell? ⟨8, 15, none⟩ = some (.int .u8 4)) :
    Calls Tryd.prog 58 #[.string ⟨l.toArray⟩] w fun e w' => e = .returned (.string ⟨(putB l).toArray⟩) ∧ Below w.heap.size w w' := by
  have HT := Lib.hid ht
  clear ht
  obtain ⟨ti, tz, hti, htz, hsi, hby, hzs⟩ := byte_info
  go_enter Tryd.func58, Tryd.ntmps58
  go_wp2_with fail
  refine (plain_any w l (by omega)).mono ?_
  rintro e w1 ⟨rfl, hb1⟩
  have HB1 := Lib.hid hb1
  have HT1 := Lib.hid (tab_later HT.out hb1)
  clear hb1 HT
  by_cases hp : plainB l = true
  · rw [hp]
    have HP := Lib.hid (show putB l = l by unfold putB; rw [if_pos hp])
    clear hp
    go_wp2_with fail
    go_ret
    exact ⟨by rw [HP.out]; rfl, HB1.out⟩
  rw [Bool.not_eq_true] at hp
  rw [hp]
  have HP := Lib.hid (put_quote hp)
  clear hp
  obtain ⟨w2, hmk, hr2, hg2⟩ := Row.made (P := Tryd.prog) (B := w1.heap.size) (enc := encB) (w := w1) Tryd.underlying93 hti htz hsi .i64 .i64 (l.length + 2) (by rw [hby]; omega) (by unfold maxLen; omega) (Nat.le_refl _)
  have HS2 : Hid (PutSt w1 (.slice (some ⟨w1.heap.size, 0, none⟩) 0 (l.length + 2)) [] w2) := Lib.hid ⟨hr2, (Fr.grown (Fr.refl (fun k => w1.heap.size ≤ k) w1) hg2 (fun g e => by cases e)).below (Nat.le_refl _) fun k hk => by omega⟩
  have HL2 := Lib.hid (PutSt.size HS2.out)
  clear hr2 hg2
  have hmk' : (Instr.makeSlice 93 (.int .i64 0) (.int .i64 ((l.length : Int) + 2))).run Tryd.prog w1 = .ok (.slice (some ⟨w1.heap.size, 0, none⟩) 0 (l.length + 2)) w2 := hmk
  clear hmk
  go_wp2_with (at_builtin; refine wpList_rows rfl _ _ 93 rfl _ w1.heap.size 5 ti tz 1 1 encB Tryd.underlying93 hti htz hsi hby hzs (by decide) encB_len encB_one _ [] [39] rfl (HS2.out.row.alloc _) _ 0 1 rfl (one_cell _ _ 39 _ rfl) (by unfold maxLen; simp) (by simp) (Nat.le_trans HL2.out (by simp)) ?_)
  intro v3 w3 hr3 hg3
  have HS3 := Lib.hid (HS2.out.app hr3 hg3)
  clear hr3 hg3 HS2 HL2 hmk'
  go_wp2_with fail
  go_loopw [3, 4] (fun v i wr => ∃ k : Nat, k ≤ l.length ∧ i = .int .i64 k ∧ Hid (PutSt w1 v (39 :: (l.take k).flatMap escB) wr)) (fun _ i _ => l.length - (intOf i).toNat)
  case atStart => exact ⟨0, Nat.zero_le _, rfl, Lib.hid (by simpa using HS3.out)⟩
  case round =>
    obtain ⟨k, hk, rfl, HS⟩ := hrel
    clear HS3
    have hel := escs_len (l.take k)
    rw [List.length_take] at hel
    by_cases hlt : k < l.length
    · obtain ⟨c, hd, hx, hg⟩ := byte_at l k hlt
      have hlt' : (k : Int) < (l.length : Int) := by omega
      have he : 39 :: (l.take (k + 1)).flatMap escB = (39 :: (l.take k).flatMap escB) ++ escB c := by rw [escs_step hg]; rfl
      have HE0 := Lib.hid he
      clear hd hg he
      by_cases e39 : c = 39
      · subst e39
        have HE := Lib.hid (HE0.out.trans (show _ = (39 :: (l.take k).flatMap escB) ++ [92, 39] from rfl))
        clear HE0
        go_wp2_with (at_builtin; refine wpList_rows rfl _ _ 93 rfl _ w1.heap.size 5 ti tz 1 1 encB Tryd.underlying93 hti htz hsi hby hzs (by decide) encB_len encB_one _ (39 :: (l.take k).flatMap escB) [92, 39] rfl (HS.out.row.alloc _) _ 0 2 rfl (two_cells _ _ 92 39 _ _ rfl rfl) (by unfold maxLen; simp only [List.length_cons, List.length_nil]; omega) (by simp only [List.length_cons, List.length_nil]; omega) (Nat.le_trans HS.out.size (by simp)) ?_)
        intro v4 w4 hr4 hg4
        have HS4 := Lib.hid (HS.out.app hr4 hg4)
        clear hr4 hg4 HS
        go_wp2_with fail
        go_roundw
        case rel => exact ⟨k + 1, hlt, by go_num, Lib.hid (by rw [HE.out]; exact HS4.out)⟩
        case measure => simp [intOf]; omega
      by_cases e92 : c = 92
      · subst e92
        have HE := Lib.hid (HE0.out.trans (show _ = (39 :: (l.take k).flatMap escB) ++ [92, 92] from rfl))
        clear HE0
        go_wp2_with (at_builtin; refine wpList_rows rfl _ _ 93 rfl _ w1.heap.size 5 ti tz 1 1 encB Tryd.underlying93 hti htz hsi hby hzs (by decide) encB_len encB_one _ (39 :: (l.take k).flatMap escB) [92, 92] rfl (HS.out.row.alloc _) _ 0 2 rfl (two_cells _ _ 92 92 _ _ rfl rfl) (by unfold maxLen; simp only [List.length_cons, List.length_nil]; omega) (by simp only [List.length_cons, List.length_nil]; omega) (Nat.le_trans HS.out.size (by simp)) ?_)
        intro v4 w4 hr4 hg4
        have HS4 := Lib.hid (HS.out.app hr4 hg4)
        clear hr4 hg4 HS
        go_wp2_with fail
        go_roundw
        case rel => exact ⟨k + 1, hlt, by go_num, Lib.hid (by rw [HE.out]; exact HS4.out)⟩
        case measure => simp [intOf]; omega
      by_cases e10 : c = 10
      · subst e10
        have HE := Lib.hid (HE0.out.trans (show _ = (39 :: (l.take k).flatMap escB) ++ [92, 110] from rfl))
        clear HE0
        go_wp2_with (at_builtin; refine wpList_rows rfl _ _ 93 rfl _ w1.heap.size 5 ti tz 1 1 encB Tryd.underlying93 hti htz hsi hby hzs (by decide) encB_len encB_one _ (39 :: (l.take k).flatMap escB) [92, 110] rfl (HS.out.row.alloc _) _ 0 2 rfl (two_cells _ _ 92 110 _ _ rfl rfl) (by unfold maxLen; simp only [List.length_cons, List.length_nil]; omega) (by simp only [List.length_cons, List.length_nil]; omega) (Nat.le_trans HS.out.size (by simp)) ?_)
        intro v4 w4 hr4 hg4
        have HS4 := Lib.hid (HS.out.app hr4 hg4)
        clear hr4 hg4 HS
        go_wp2_with fail
        go_roundw
        case rel => exact ⟨k + 1, hlt, by go_num, Lib.hid (by rw [HE.out]; exact HS4.out)⟩
        case measure => simp [intOf]; omega
      by_cases e9 : c = 9
      · subst e9
        have HE := Lib.hid (HE0.out.trans (show _ = (39 :: (l.take k).flatMap escB) ++ [92, 116] from rfl))
        clear HE0
        go_wp2_with (at_builtin; refine wpList_rows rfl _ _ 93 rfl _ w1.heap.size 5 ti tz 1 1 encB Tryd.underlying93 hti htz hsi hby hzs (by decide) encB_len encB_one _ (39 :: (l.take k).flatMap escB) [92, 116] rfl (HS.out.row.alloc _) _ 0 2 rfl (two_cells _ _ 92 116 _ _ rfl rfl) (by unfold maxLen; simp only [List.length_cons, List.length_nil]; omega) (by simp only [List.length_cons, List.length_nil]; omega) (Nat.le_trans HS.out.size (by simp)) ?_)
        intro v4 w4 hr4 hg4
        have HS4 := Lib.hid (HS.out.app hr4 hg4)
        clear hr4 hg4 HS
        go_wp2_with fail
        go_roundw
        case rel => exact ⟨k + 1, hlt, by go_num, Lib.hid (by rw [HE.out]; exact HS4.out)⟩
        case measure => simp [intOf]; omega
      have t39 : ((c.toNat : Int) == 39) = false := byte_ne e39
      have t92 : ((c.toNat : Int) == 92) = false := byte_ne e92
      have t10 : ((c.toNat : Int) == 10) = false := byte_ne e10
      have t9 : ((c.toNat : Int) == 9) = false := byte_ne e9
      by_cases hs : c < 32 ∨ c = 127
      · have HE := Lib.hid (HE0.out.trans (show _ = (39 :: (l.take k).flatMap escB) ++ ([92, 120] ++ hexOf c ++ [92]) by unfold escB; rw [if_neg (by simp [e39, e92]), if_neg e10, if_neg e9, if_pos hs]))
        clear HE0 e39 e92 e10 e9
        have hxl : (hexOf c).length ≤ 2 := by unfold hexOf; split <;> simp
        have HS' : c < 32 ∨ c = 127 := hs
        rcases HS' with h32 | h127
        case' inl =>
          have h2 : (c.toNat : Int) < 32 := by
            rw [UInt8.lt_iff_toNat_lt] at h32
            have h : (32 : UInt8).toNat = 32 := rfl
            omega
          clear h32
        case' inr =>
          have h3 : 32 ≤ (c.toNat : Int) := by rw [h127]; decide
          have h2 : ((c.toNat : Int) == 127) = true := by rw [h127]; rfl
          clear h127
        all_goals
          have hcb : (c.toNat : Int) < 256 := by have := c.toNat_lt; omega
          clear hs
          go_wp2_with (at_builtin; refine wpList_rows rfl _ _ 93 rfl _ w1.heap.size 5 ti tz 1 1 encB Tryd.underlying93 hti htz hsi hby hzs (by decide) encB_len encB_one _ (39 :: (l.take k).flatMap escB) [92, 120] rfl (HS.out.row.alloc _) _ 0 2 rfl (two_cells _ _ 92 120 _ _ rfl rfl) (by unfold maxLen; simp only [List.length_cons, List.length_nil]; omega) (by simp only [List.length_cons, List.length_nil]; omega) (Nat.le_trans HS.out.size (by simp)) ?_)
          intro v4 w4 hr4 hg4
          have HS4 := Lib.hid (HS.out.app hr4 hg4)
          clear hr4 hg4 HS
          go_wp2_with fail
          refine (uint_any w4 w1.heap.size v4 _ c (by simp only [List.length_append, List.length_cons, List.length_nil]; omega) HS4.out.row HS4.out.size (HS4.out.tab HT1.out)).mono ?_
          rintro e w5 ⟨v5, rfl, hr5, hf5⟩
          have HS5 := Lib.hid (HS4.out.fr hr5 hf5)
          clear hr5 hf5 HS4
          go_wp2_with (at_builtin; refine wpList_rows rfl _ _ 93 rfl _ w1.heap.size 5 ti tz 1 1 encB Tryd.underlying93 hti htz hsi hby hzs (by decide) encB_len encB_one _ ((39 :: (l.take k).flatMap escB) ++ [92, 120] ++ hexOf c) [92] rfl (HS5.out.row.alloc _) _ 0 1 rfl (one_cell _ _ 92 _ rfl) (by unfold maxLen; simp only [List.length_append, List.length_cons, List.length_nil]; omega) (by simp only [List.length_append, List.length_cons, List.length_nil]; omega) (Nat.le_trans HS5.out.size (by simp)) ?_)
          intro v6 w6 hr6 hg6
          have HS6 := Lib.hid (HS5.out.app (ys := [92]) (by simpa using hr6) hg6)
          clear hr6 hg6 HS5
          go_wp2_with fail
          go_roundw
          case rel => exact ⟨k + 1, hlt, by go_num, Lib.hid (by rw [HE.out]; simpa using HS6.out)⟩
          case measure => simp [intOf]; omega
      · have HE := Lib.hid (HE0.out.trans (show _ = (39 :: (l.take k).flatMap escB) ++ [c] by unfold escB; rw [if_neg (by simp [e39, e92]), if_neg e10, if_neg e9, if_neg hs]))
        simp only [not_or] at hs
        have t127 : ((c.toNat : Int) == 127) = false := byte_ne hs.2
        have h32 : 32 ≤ (c.toNat : Int) := by
          have := hs.1
          rw [UInt8.lt_iff_toNat_lt] at this
          have h : (32 : UInt8).toNat = 32 := rfl
          omega
        clear HE0 e39 e92 e10 e9 hs
        go_wp2_with (at_builtin; refine wpList_rows rfl _ _ 93 rfl _ w1.heap.size 5 ti tz 1 1 encB Tryd.underlying93 hti htz hsi hby hzs (by decide) encB_len encB_one _ (39 :: (l.take k).flatMap escB) [c] rfl (HS.out.row.alloc _) _ 0 1 rfl (one_cell _ _ c _ rfl) (by unfold maxLen; simp only [List.length_cons, List.length_nil]; omega) (by simp only [List.length_cons, List.length_nil]; omega) (Nat.le_trans HS.out.size (by simp)) ?_)
        intro v4 w4 hr4 hg4
        have HS4 := Lib.hid (HS.out.app hr4 hg4)
        clear hr4 hg4 HS
        go_wp2_with fail
        go_roundw
        case rel => exact ⟨k + 1, hlt, by go_num, Lib.hid (by rw [HE.out]; exact HS4.out)⟩
        case measure => simp [intOf]; omega
    · have hkn : k = l.length := by omega
      subst hkn
      rw [List.take_length] at HS hel
      have hi : l.length ≤ 100000 := by omega
      go_wp2_with (at_builtin; refine wpList_rows rfl _ _ 93 rfl _ w1.heap.size 5 ti tz 1 1 encB Tryd.underlying93 hti htz hsi hby hzs (by decide) encB_len encB_one _ (39 :: l.flatMap escB) [39] rfl (HS.out.row.alloc _) _ 0 1 rfl (one_cell _ _ 39 _ rfl) (by unfold maxLen; simp only [List.length_cons, List.length_nil]; omega) (by simp only [List.length_cons, List.length_nil]; omega) (Nat.le_trans HS.out.size (by simp)) ?_)
      intro v4 w4 hr4 hg4
      have HS4 := Lib.hid (HS.out.app hr4 hg4)
      clear hr4 hg4 HS
      have hst := HS4.out.row.string (P := Tryd.prog) (dst := 9) Tryd.underlying93 Tryd.underlying5 Tryd.underlying9
      go_wp2_with fail
      go_ret
      exact ⟨by rw [HP.out]; rfl, HB1.out.trans (HS4.out.below.mono HB1.out.size)⟩
end Go.Proofs.YtpiekfkkhgighaaDoor
