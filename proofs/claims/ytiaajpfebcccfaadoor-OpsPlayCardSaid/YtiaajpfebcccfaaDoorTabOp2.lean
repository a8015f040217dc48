/-
  What Op answers and what the table is behind it, all ways joined. Conditions: the table's block holds a map of well-formed operators; the types' table reads as the program lays it.
-/
import Derived.Test.YtiaajpfebcccfaaDoorTabOp
namespace Go.Proofs.YtiaajpfebcccfaaDoor
open Go.RowKit Go.Maps
set_option maxRecDepth 100000

set_option maxHeartbeats 400000 in
theorem op_nil (w : World) (p t : Int) (s : ByteArray) :
    Calls Tryd.prog 7 #[.pointer none, .int .i64 p, .int .i64 t, .string s] w fun e w' => e = .returned (.int .i64 1) ∧ w = w' := by
  go_enter Tryd.func7, Tryd.ntmps7
  go_wp2
  go_ret
  exact ⟨rfl, rfl⟩

set_option maxHeartbeats 400000 in
theorem op_arg (w : World) (bt : Nat) (p t : Int) (n : List UInt8) (hn : n.length ≤ 9223372036854775807) (h : p < 0 ∨ 1200 < p ∨ t < 1 ∨ 7 < t ∨ 1000 < n.length) :
    Calls Tryd.prog 7 #[.pointer (some ⟨bt, 0, none⟩), .int .i64 p, .int .i64 t, .string ⟨n.toArray⟩] w fun e w' => e = .returned (.int .i64 2) ∧ w = w' := by
  have H := Lib.hid h
  clear h
  by_cases h1 : p < 0
  · go_enter Tryd.func7, Tryd.ntmps7
    go_wp2
    go_ret
    exact ⟨rfl, rfl⟩
  by_cases h2 : 1200 < p
  · have h1' : 0 ≤ p := by omega
    clear h1
    go_enter Tryd.func7, Tryd.ntmps7
    go_wp2
    go_ret
    exact ⟨rfl, rfl⟩
  have h1' : 0 ≤ p := by omega
  have h2' : p ≤ 1200 := by omega
  clear h1 h2
  by_cases h3 : t < 1
  · go_enter Tryd.func7, Tryd.ntmps7
    go_wp2
    go_ret
    exact ⟨rfl, rfl⟩
  by_cases h4 : 7 < t
  · have h3' : 1 ≤ t := by omega
    clear h3
    go_enter Tryd.func7, Tryd.ntmps7
    go_wp2
    go_ret
    exact ⟨rfl, rfl⟩
  have h3' : 1 ≤ t := by omega
  have h4' : t ≤ 7 := by omega
  clear h3 h4
  have h5 : 1000 < n.length := by have := H.out; omega
  clear H
  go_enter Tryd.func7, Tryd.ntmps7
  go_wp2
  go_ret
  exact ⟨rfl, rfl⟩

set_option maxHeartbeats 400000 in
theorem op_perm (w : World) (bt : Nat) (p t : Int) (n : List UInt8) (hn : n.length ≤ 1000) (h1 : 0 ≤ p) (h2 : p ≤ 1200) (h3 : 1 ≤ t) (h4 : t ≤ 7) (h : n = [44] ∨ n = [124] ∨ n = [91, 93] ∨ n = [123, 125]) :
    Calls Tryd.prog 7 #[.pointer (some ⟨bt, 0, none⟩), .int .i64 p, .int .i64 t, .string ⟨n.toArray⟩] w fun e w' => e = .returned (.int .i64 15) ∧ w = w' := by
  rcases h with rfl | rfl | rfl | rfl
  all_goals
    go_enter Tryd.func7, Tryd.ntmps7
    go_wp2
    go_ret
    exact ⟨rfl, rfl⟩

theorem op_any (w : World) (bt bm : Nat) (es : List (OpK × OpV)) (hT : TabAt w bt bm es) (hK : KindsAt w) (hbb : bt ≠ bm) (p t : Int) (n : List UInt8) (hn : n.length ≤ 9223372036854775807) :
    Calls Tryd.prog 7 #[.pointer (some ⟨bt, 0, none⟩), .int .i64 p, .int .i64 t, .string ⟨n.toArray⟩] w fun e w' =>
      e = .returned (.int .i64 (opErr es p t n)) ∧ TabAt w' bt bm (opTab es p t n) ∧ Fr (· = bm) w w' := by
  unfold opTab
  by_cases c1 : p < 0 ∨ 1200 < p ∨ t < 1 ∨ 7 < t ∨ 1000 < n.length
  · have e1 : opErr es p t n = 2 := by unfold opErr; rw [if_pos c1]
    rw [e1]
    refine (op_arg w bt p t n hn c1).mono ?_
    rintro e w' ⟨rfl, rfl⟩
    exact ⟨rfl, by simpa using hT, Fr.refl _ _⟩
  by_cases c2 : n = [44] ∨ n = [124] ∨ n = [91, 93] ∨ n = [123, 125]
  · have e1 : opErr es p t n = 15 := by unfold opErr; rw [if_neg c1, if_pos c2]
    rw [e1]
    refine (op_perm w bt p t n (by omega) (by omega) (by omega) (by omega) (by omega) c2).mono ?_
    rintro e w' ⟨rfl, rfl⟩
    exact ⟨rfl, by simpa using hT, Fr.refl _ _⟩
  obtain ⟨t, rfl⟩ := Int.eq_ofNat_of_zero_le (show 0 ≤ t by omega)
  simp only [not_or] at c2
  obtain ⟨d1, d2, d3, d4⟩ := c2
  have hs3 : kSort t = 1 ∨ kSort t = 2 ∨ kSort t = 3 := by unfold kSort; repeat' split <;> omega
  have hnl : n.length ≤ 1000 := by omega
  have c2' : ¬ (n = [44] ∨ n = [124] ∨ n = [91, 93] ∨ n = [123, 125]) := by simp only [not_or]; exact ⟨d1, d2, d3, d4⟩
  by_cases c3 : p = 0
  · subst c3
    have e1 : opErr es 0 t n = 0 := by unfold opErr; rw [if_neg c1, if_neg c2', if_pos rfl]
    rw [e1, if_neg (by simp), if_pos rfl]
    rcases hs3 with hs | hs | hs <;> rw [hs]
    · exact op_del1 w bt bm es hT hK hbb 0 t n hnl ⟨rfl, trivial⟩ (by omega) d1 d2 d3 d4 hs
    · exact op_del2 w bt bm es hT hK hbb 0 t n hnl ⟨rfl, trivial⟩ (by omega) d1 d2 d3 d4 hs
    · exact op_del3 w bt bm es hT hK hbb 0 t n hnl ⟨rfl, trivial⟩ (by omega) d1 d2 d3 d4 hs
  have e0 : opErr es p t n = if (kSort t = 2 ∧ (mget es (3, n)).isSome = true) ∨ (kSort t = 3 ∧ (mget es (2, n)).isSome = true) then 15
      else if 256 ≤ es.length ∧ (mget es (kSort t, n)).isSome = false then 9 else 0 := by unfold opErr; rw [if_neg c1, if_neg c2', if_neg c3]
  rcases hs3 with hs | hs | hs
  · rw [hs] at e0 ⊢
    by_cases hr : 256 ≤ es.length
    · cases hh : (mget es (1, n)).isSome
      · have e1 : opErr es p t n = 9 := by rw [e0]; simp [hr, hh]
        rw [e1, if_pos (by simp)]
        exact op_full1 w bt bm es hT hK p t n hnl (by omega) (by omega) d1 d2 d3 d4 hs hr hh
      · have e1 : opErr es p t n = 0 := by rw [e0]; simp [hh]
        rw [e1, if_neg (by simp), if_neg c3]
        exact op_ok11 w bt bm es hT hK hbb p t n hnl (by omega) (by omega) d1 d2 d3 d4 hs hr hh
    · have e1 : opErr es p t n = 0 := by rw [e0]; simp [hr]
      rw [e1, if_neg (by simp), if_neg c3]
      exact op_ok10 w bt bm es hT hK hbb p t n hnl (by omega) (by omega) d1 d2 d3 d4 hs (by omega)
  · rw [hs] at e0 ⊢
    cases hq : (mget es (3, n)).isSome
    · by_cases hr : 256 ≤ es.length
      · cases hh : (mget es (2, n)).isSome
        · have e1 : opErr es p t n = 9 := by rw [e0]; simp [hr, hh, hq]
          rw [e1, if_pos (by simp)]
          exact op_full2 w bt bm es hT hK p t n hnl (by omega) (by omega) d1 d2 d3 d4 hs hr hh hq
        · have e1 : opErr es p t n = 0 := by rw [e0]; simp [hh, hq]
          rw [e1, if_neg (by simp), if_neg c3]
          exact op_ok21 w bt bm es hT hK hbb p t n hnl (by omega) (by omega) d1 d2 d3 d4 hs hr hh hq
      · have e1 : opErr es p t n = 0 := by rw [e0]; simp [hr, hq]
        rw [e1, if_neg (by simp), if_neg c3]
        exact op_ok20 w bt bm es hT hK hbb p t n hnl (by omega) (by omega) d1 d2 d3 d4 hs (by omega) hq
    · have e1 : opErr es p t n = 15 := by rw [e0]; simp [hq]
      rw [e1, if_pos (by simp)]
      exact op_conf2 w bt bm es hT hK p t n hnl (by omega) (by omega) d1 d2 d3 d4 hs hq
  · rw [hs] at e0 ⊢
    cases hq : (mget es (2, n)).isSome
    · by_cases hr : 256 ≤ es.length
      · cases hh : (mget es (3, n)).isSome
        · have e1 : opErr es p t n = 9 := by rw [e0]; simp [hr, hh, hq]
          rw [e1, if_pos (by simp)]
          exact op_full3 w bt bm es hT hK p t n hnl (by omega) (by omega) d1 d2 d3 d4 hs hr hh hq
        · have e1 : opErr es p t n = 0 := by rw [e0]; simp [hh, hq]
          rw [e1, if_neg (by simp), if_neg c3]
          exact op_ok31 w bt bm es hT hK hbb p t n hnl (by omega) (by omega) d1 d2 d3 d4 hs hr hh hq
      · have e1 : opErr es p t n = 0 := by rw [e0]; simp [hr, hq]
        rw [e1, if_neg (by simp), if_neg c3]
        exact op_ok30 w bt bm es hT hK hbb p t n hnl (by omega) (by omega) d1 d2 d3 d4 hs (by omega) hq
    · have e1 : opErr es p t n = 15 := by rw [e0]; simp [hq]
      rw [e1, if_pos (by simp)]
      exact op_conf3 w bt bm es hT hK p t n hnl (by omega) (by omega) d1 d2 d3 d4 hs hq
end Go.Proofs.YtiaajpfebcccfaaDoor
