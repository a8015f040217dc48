/-
  What the document's Same answers of two rows that hold the same tokens: true. Condition: at most 100000 tokens.
-/
import Derived.Test.YtpiekfkkhgighaaTokW10
import Derived.LoopTactic
namespace Go.Proofs.Ytpiekfkkhgighaa
open Go.RowKit
set_option maxRecDepth 100000

theorem Row.at {w : World} {B : Nat} {v : Value} {l : List Tok} (h : Row w B 46 6 encTok v l) :
    ∃ A cap, v = .slice A l.length cap ∧ (l ≠ [] → ∃ g, A = some ⟨g, 0, none⟩ ∧ ∀ i x, l[i]? = some x → ∀ j u, (encTok x)[j]? = some u → w.cell? ⟨g, i * 6 + j, none⟩ = some u) := by
  by_cases hne : l = []
  · obtain ⟨A, cap, rfl⟩ := h.shape
    exact ⟨A, cap, rfl, fun h => absurd hne h⟩
  · obtain ⟨g, cap, rfl, -, -, -, hk⟩ := h.cells encTok_len hne
    exact ⟨_, cap, rfl, fun _ => ⟨g, rfl, fun i x hx j u hu => (hk i x hx j u hu).1⟩⟩

set_option maxHeartbeats 2000000 in
theorem same_any (w : World) (B1 B2 : Nat) (v1 v2 : Value) (l : List Tok) (h1 : Row w B1 46 6 encTok v1 l) (h2 : Row w B2 46 6 encTok v2 l) (hn : l.length ≤ 100000) :
    Calls Try.prog 8 #[v1, v2] w fun e w' => e = .returned (.bool true) ∧ Below w.heap.size w w' := by
  obtain ⟨A1, cap1, rfl, hA1⟩ := h1.at
  obtain ⟨A2, cap2, rfl, hA2⟩ := h2.at
  have HA1 := Lib.hid hA1
  have HA2 := Lib.hid hA2
  clear h1 h2 hA1 hA2
  go_enter Try.func8, Try.ntmps8
  go_wp2_with fail
  go_loopw [13] (fun i wr => ∃ k nq : Nat, k ≤ l.length ∧ i = .int .i64 k ∧ wr = w.drewN nq) (fun i _ => l.length - (intOf i).toNat)
  case atStart => exact ⟨0, 0, Nat.zero_le _, rfl, rfl⟩
  case round =>
    obtain ⟨k, nq, hk, rfl, rfl⟩ := hrel
    by_cases hlt : k < l.length
    · have hne : l ≠ [] := by rintro rfl; simp at hlt
      obtain ⟨b1, e1, hc1⟩ := HA1.out hne
      obtain ⟨b2, e2, hc2⟩ := HA2.out hne
      have hx := List.getElem?_eq_getElem hlt
      generalize l[k] = x at hx
      have c0 := hc1 k x hx 0 _ rfl
      have c1 := hc1 k x hx 1 _ rfl
      have c2 := hc1 k x hx 2 _ rfl
      have c3 := hc1 k x hx 3 _ rfl
      have c4 := hc1 k x hx 4 _ rfl
      have c5 := hc1 k x hx 5 _ rfl
      have d0 := hc2 k x hx 0 _ rfl
      have d1 := hc2 k x hx 1 _ rfl
      have d2 := hc2 k x hx 2 _ rfl
      have d3 := hc2 k x hx 3 _ rfl
      have d4 := hc2 k x hx 4 _ rfl
      have d5 := hc2 k x hx 5 _ rfl
      simp only [Nat.add_zero] at c0 d0
      have hlt' : (k : Int) < (l.length : Int) := by omega
      clear hc1 hc2 hx
      subst e1 e2
      go_wp2_with fail
      go_quiet (fail)
      go_wp2
      go_roundw
      case rel => exact ⟨k + 1, _, hlt, by go_num, rfl⟩
      case measure => simp [intOf]; omega
    · have hkn : k = l.length := by omega
      subst hkn
      go_wp2
      go_ret
      exact ⟨rfl, rfl, rfl, rfl, Nat.le_refl _, fun _ _ => rfl⟩
end Go.Proofs.Ytpiekfkkhgighaa
