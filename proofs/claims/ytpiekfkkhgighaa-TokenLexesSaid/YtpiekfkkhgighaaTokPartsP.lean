/-
  Of two texts, the first of which ends by a byte 10: the tokens are those of both. No condition but that each has tokens.
-/
import Derived.Test.YtpiekfkkhgighaaLexApp
namespace Go.Proofs.Ytpiekfkkhgighaa

theorem lexF_ne {f : Nat} {l : List UInt8} {line : Nat} {first : Bool} {ts : List Tok} {ln : Int} (hf : l.length < f) (h : lexF f l line first = (ts, ln, 0)) : ts ≠ [] := by
  rw [lexF_step _ _ _ _ hf] at h
  split at h
  · simp at h
  split at h
  · rintro rfl
    simp at h
  · split at h
    · simp at h
    · rintro rfl
      simp at h
theorem lexB_ne {l : List UInt8} {ts : List Tok} {ln : Int} (h : lexB l = (ts, ln, 0)) : ts ≠ [] := lexF_ne (Nat.lt_succ_self _) h
theorem lexF_len : ∀ (f : Nat) (l : List UInt8) (line : Nat) (first : Bool), (lexF f l line first).1.length ≤ l.length + 1 := by
  intro f
  induction f with
  | zero => intro l line first; simp [lexF]
  | succ f ih =>
    intro l line first
    simp only [lexF]
    split
    · simp
    split
    · simp
    · rename_i hne
      cases ht : tokF (skipB l).1 with
      | none => simp
      | some t =>
        have h1 := tokF_pos ht
        have h2 := skipB_len l
        have h3 : 0 < (skipB l).1.length := List.length_pos_iff.2 hne
        have h4 := ih ((skipB l).1.drop t.len) (line + lines (l.take (l.length - (skipB l).1.length)) + lines ((skipB l).1.take t.len)) false
        rw [List.length_drop] at h4
        simp only [List.length_cons]
        omega
theorem lexB_len (l : List UInt8) : (lexB l).1.length ≤ l.length + 1 := lexF_len _ _ _ _
theorem lexF_lines : ∀ (f : Nat) (l : List UInt8) (line : Nat) (first : Bool), ∀ t ∈ (lexF f l line first).1, ∃ n : Nat, t.line = (n : Int) ∧ n ≤ line + l.length := by
  intro f
  induction f with
  | zero => intro l line first t ht; simp [lexF] at ht
  | succ f ih =>
    intro l line first t ht
    have h0 : lines (l.take (l.length - (skipB l).1.length)) ≤ l.length - (skipB l).1.length := by
      have : lines (l.take (l.length - (skipB l).1.length)) ≤ (l.take (l.length - (skipB l).1.length)).length := List.count_le_length ..
      rw [List.length_take] at this
      omega
    have h2 := skipB_len l
    simp only [lexF] at ht
    split at ht
    · simp at ht
    split at ht
    · simp at ht
      subst ht
      exact ⟨_, rfl, by omega⟩
    · cases hk : tokF (skipB l).1 with
      | none => rw [hk] at ht; simp at ht
      | some u =>
        rw [hk] at ht
        simp only [List.mem_cons] at ht
        rcases ht with rfl | ht
        · exact ⟨_, rfl, by omega⟩
        · obtain ⟨n, hn, hle⟩ := ih _ _ _ t ht
          refine ⟨n, hn, ?_⟩
          have h3 : lines ((skipB l).1.take u.len) ≤ ((skipB l).1.take u.len).length := List.count_le_length ..
          rw [List.length_take] at h3
          rw [List.length_drop] at hle
          omega
theorem lexB_lines {l : List UInt8} {ts : List Tok} {ln e : Int} (h : lexB l = (ts, ln, e)) : ∀ t ∈ ts, ∃ n : Nat, t.line = (n : Int) ∧ n ≤ 1 + l.length := by
  have := lexF_lines (l.length + 1) l 1 true
  unfold lexB at h
  rw [h] at this
  exact this
theorem parts (a b : List UInt8) {l m : List Tok} {ln ln2 : Int} (h1 : lexB (a ++ [32, 46, 10]) = (l, ln, 0)) (h2 : lexB b = (m, ln2, 0)) :
    ∃ ts0 c, l = ts0 ++ [endTok (1 + c)] ∧ c ≤ a.length + 3 ∧ ∃ ln3, lexB (a ++ [32, 46, 10] ++ b) = (ts0 ++ m.map (shiftT c), ln3, 0) := by
  unfold lexB at *
  have he : Ends (a ++ [32, 46, 10]) := by simp [Ends]
  obtain ⟨ts0, hl, hb⟩ := lex_app b _ _ 1 true l ln he (Nat.lt_succ_self _) h1
  have hs := lexF_shift (lines (a ++ [32, 46, 10])) (b.length + 1) b 1 true
  rw [h2] at hs
  refine ⟨ts0, lines (a ++ [32, 46, 10]), hl, ?_, (lexF (b.length + 1) b (1 + lines (a ++ [32, 46, 10])) true).2.1, ?_⟩
  · have : lines (a ++ [32, 46, 10]) ≤ (a ++ [32, 46, 10]).length := List.count_le_length ..
    simpa using this
  · have hfu : (a ++ [32, 46, 10] ++ b).length + 1 = (a ++ [32, 46, 10]).length.succ + b.length := by rw [List.length_append (as := a ++ [32, 46, 10])]; omega
    rw [hfu, hb]
    exact Prod.ext (congrArg (ts0 ++ ·) hs.1) (Prod.ext rfl hs.2)
end Go.Proofs.Ytpiekfkkhgighaa
