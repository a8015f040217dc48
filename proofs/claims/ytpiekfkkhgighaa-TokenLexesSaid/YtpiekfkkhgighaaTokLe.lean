/-
  A token has no more bytes than what is left. No condition.
-/
import Derived.Test.YtpiekfkkhgighaaLexApp
namespace Go.Proofs.Ytpiekfkkhgighaa

theorem digitsF_le {base frm : Nat} {l : List UInt8} {x : Int × Nat} (hf : frm ≤ l.length) (h : digitsF base l frm = some x) : x.2 ≤ l.length := by
  unfold digitsF at h
  have hs := spanN_le (fun c => decide (digVal c < base)) (l.drop frm)
  rw [List.length_drop] at hs
  simp only at h
  split at h
  · cases h
    show frm + spanN (fun c => decide (digVal c < base)) (l.drop frm) ≤ l.length
    omega
  · cases h
theorem slashRes_snd {y : Option (List UInt8 × Nat)} {x : Int × Nat} (h : slashRes y = some x) : x.2 = 4 := by
  unfold slashRes at h
  split at h
  · cases h; rfl
  · cases h
theorem charF_le {l : List UInt8} {x : Int × Nat} (h : charF l = some x) : x.2 ≤ l.length := by
  unfold charF at h
  split at h
  · rename_i a b c r
    unfold charAt2 at h
    split at h
    · cases h
    split at h
    · split at h
      · rename_i e
        cases h
        cases r with
        | nil => simp at e
        | cons d r' => simp
      · cases h
    split at h
    · cases r with
      | nil => cases h
      | cons d r' =>
        have := slashRes_snd (show slashRes (getQ 39 [92, d, 39]) = some x from h)
        simp only [List.length_cons]
        omega
    · cases h
      simp
  · cases h
theorem two_le {l : List UInt8} {a b : UInt8} (h : l.head? = some a ∧ l.tail.head? = some b) : 2 ≤ l.length := by
  rcases l with _ | ⟨c, _ | ⟨d, r⟩⟩
  · simp at h
  · simp at h
  · simp
theorem numberF_le {l : List UInt8} {x : Int × Nat} (h : numberF l = some x) : x.2 ≤ l.length := by
  unfold numberF at h
  split at h
  · rename_i e; exact digitsF_le (two_le e) h
  split at h
  · rename_i e; exact digitsF_le (two_le e) h
  split at h
  · rename_i e; exact digitsF_le (two_le e) h
  split at h
  · exact charF_le h
  · exact digitsF_le (Nat.zero_le _) h
theorem tokF_le {l : List UInt8} {t : TokIs} (h : tokF l = some t) : t.len ≤ l.length := by
  cases l with
  | nil => cases h
  | cons c r =>
    have hw := spanN_le isWord (c :: r)
    have hs := spanN_le isSign (c :: r)
    unfold tokF at h
    simp only at h
    split at h
    · cases h; simp
    split at h
    · cases h; exact hw
    split at h
    · cases h; exact hs
    split at h
    · cases h; simp
    split at h
    · cases h; exact hw
    split at h
    · obtain ⟨x, hx, rfl⟩ := Option.map_eq_some_iff.1 h
      exact numberF_le hx
    split at h
    · obtain ⟨x, hx, rfl⟩ := Option.map_eq_some_iff.1 h
      have := getQ_le hx
      simp only [List.length_cons]
      omega
    split at h
    · obtain ⟨x, hx, rfl⟩ := Option.map_eq_some_iff.1 h
      have := getQ_le hx
      simp only [List.length_cons]
      omega
    split at h
    · cases h; simp
    · cases h
end Go.Proofs.Ytpiekfkkhgighaa
