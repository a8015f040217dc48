import Derived.Test.YtcallkljcjimiaaGreatDoorJW27
import Derived.Test.YtcallkljcjimiaaGreatDoorJW33
import Derived.Test.YtcallkljcjimiaaGreatDoorJW34
namespace Go.Proofs.YtcallkljcjimiaaGreatDoor
open Go.RowKit Go.Maps
set_option maxRecDepth 100000
structure RdEnv (w : World) : Prop where
 max : ∃ m : Int, w.cell? ⟨3, 0, none⟩ = some (.int .i64 m)
 kinds : KindsAt w
 tab : Lib.TabIs Tryz.prog w "strings.asciiSpace" .u8 Lib.asciiSpaceTab
theorem RdEnv.later {w w' : World} (h : RdEnv w) (hb : Below w.heap.size w w') : RdEnv w' := by
 obtain ⟨m, hm⟩ := h.max
 refine ⟨⟨m, ?_⟩, h.kinds.later hb, tabIs_keep h.tab (hb.block _ (tabIs_lt h.tab))⟩
 have := World.block_lt_of_cell? w _ hm
 exact (hb.cell (p := ⟨3, 0, none⟩) this).trans hm
theorem encTok_at (t : Tok) : (encTok t)[0]? = some (.int .i64 t.kind) ∧ (encTok t)[1]? = some (.int .i64 t.line) ∧ (encTok t)[2]? = some (.int .i64 t.n) ∧ (encTok t)[3]? = some (.string ⟨t.s.toArray⟩) ∧ (encTok t)[4]? = some (.bool t.opn) ∧ (encTok t)[5]? = some (.bool t.tight) := ⟨rfl, rfl, rfl, rfl, rfl, rfl⟩
theorem toks_row {w : World} {B n c : Nat} {A : Option Addr} {ts : List Tok} (h : Row w B 107 6 encTok (.slice A n c) ts) : ToksAt w w.heap.size A n ts := by
 refine ⟨h.len.symm, fun i t ht => ?_⟩
 have hne : ts ≠ [] := by intro e; rw [e] at ht; cases ht
 obtain ⟨g, cap, e1, _, hg, _, hc⟩ := h.cells encTok_len hne
 injection e1 with e1 e2 e3
 obtain ⟨q0, q1, q2, q3, q4, q5⟩ := encTok_at t
 have k0 := (hc i t ht 0 _ q0).1
 have k1 := (hc i t ht 1 _ q1).1
 have k2 := (hc i t ht 2 _ q2).1
 have k3 := (hc i t ht 3 _ q3).1
 have k4 := (hc i t ht 4 _ q4).1
 have k5 := (hc i t ht 5 _ q5).1
 refine ⟨g, 0, e1, hg, ?_, ?_, ?_, ?_, ?_, ?_⟩ <;> simp only [Nat.zero_add]
 ·exact k0
 ·exact k1
 ·exact k2
 ·exact k3
 ·exact k4
 ·exact k5
structure TokOk (ts : List Tok) : Prop where
 few : ts.length ≤ 20000
 short : ∀ t ∈ ts, t.s.length ≤ 1000000
 num : ∀ t ∈ ts, (-9223372036854775808 ≤ t.n ∧ t.n ≤ 9223372036854775807) ∧ okI t.kind
 vol : vol ts ts.length ≤ 10000000
theorem read_any (w : World) (A : Option Addr) (n c : Nat) (ts : List Tok) (hT : ToksAt w w.heap.size A n ts) (hk : TokOk ts) (i : Int) (bt bm : Nat) (es : List (OpK × OpV)) (hTab : TabAt w bt bm es) (hK : KindsAt w) :
    Calls Tryz.prog 22 #[.slice A n c, .int .i64 i, .pointer (some ⟨bt, 0, none⟩)] w fun e w' => ReadOut w w' (readF (opsOf es) ts i) e := by
 by_cases he : i < 0 ∨ (ts.length : Int) ≤ i ∨ (peekF ts i.toNat).kind = 0
 ·exact read_end w A n c ts hT i bt (opsOf es) he
 ·obtain ⟨k, rfl⟩ : ∃ k : Nat, i = (k : Int) := ⟨i.toNat, by omega⟩
  rw [Int.toNat_natCast] at he
  exact read_mid w A n c ts hT hk.few k (by omega) (fun h => he (.inr (.inr h))) bt bm es hTab hK hk.short hk.num hk.vol
def nOk (n : Int) : Prop := -9223372036854775808 ≤ n ∧ n ≤ 9223372036854775807
theorem tops_ok (v : Nat) (h : ¬ 9223372036854775808 < v) : nOk (tops v) := by
 unfold tops nOk
 split <;> omega
theorem parseF_ok (base : Nat) (l : List UInt8) : nOk (parseF base l).1 := by
 unfold parseF
 split
 ·simp [nOk]
 ·split
  ·simp [nOk]
  ·exact tops_ok _ (by assumption)
theorem byte_ok (c : UInt8) : nOk (c.toNat : Int) := by
 have := c.toNat_lt
 unfold nOk
 omega
theorem digitsF_ok {base frm : Nat} {l : List UInt8} {x : Int × Nat} (h : digitsF base l frm = some x) : nOk x.1 := by
 unfold digitsF at h
 simp only at h
 split at h
 ·injection h with h
  subst h
  exact parseF_ok _ _
 ·cases h
theorem slashRes_ok {y : Option (List UInt8 × Nat)} {x : Int × Nat} (h : slashRes y = some x) : nOk x.1 := by
 unfold slashRes at h
 split at h
 ·cases h; exact byte_ok _
 ·cases h
theorem charF_ok {l : List UInt8} {x : Int × Nat} (h : charF l = some x) : nOk x.1 := by
 unfold charF at h
 split at h
 ·unfold charAt2 at h
  split at h
  ·cases h
  split at h
  ·split at h
   ·cases h
    simp [nOk]
   ·cases h
  split at h
  ·unfold charSlash at h
   split at h
   ·cases h
   ·exact slashRes_ok h
  ·cases h
   exact byte_ok _
 ·cases h
theorem numberF_ok {l : List UInt8} {x : Int × Nat} (h : numberF l = some x) : nOk x.1 := by
 unfold numberF at h
 split at h
 ·exact digitsF_ok h
 split at h
 ·exact digitsF_ok h
 split at h
 ·exact digitsF_ok h
 split at h
 ·exact charF_ok h
 ·exact digitsF_ok h
theorem tokF_ok {l : List UInt8} {t : TokIs} (h : tokF l = some t) : nOk t.n ∧ 0 ≤ t.kind ∧ t.kind ≤ 7 := by
 have z : nOk 0 := by simp [nOk]
 cases l with
 | nil => cases h
 | cons c r =>
  unfold tokF at h
  simp only at h
  split at h
  ·cases h; exact ⟨z, by simp, by simp⟩
  ·split at h
   ·cases h; exact ⟨z, by simp, by simp⟩
   ·split at h
    ·cases h; exact ⟨z, by simp, by simp⟩
    ·split at h
     ·cases h; exact ⟨z, by simp, by simp⟩
     ·split at h
      ·cases h; exact ⟨z, by simp, by simp⟩
      ·split at h
       ·cases hn : numberF (c :: r) with
        | none => rw [hn] at h; cases h
        | some x => rw [hn] at h; cases h; exact ⟨numberF_ok hn, by simp, by simp⟩
       ·split at h
        ·cases hn : getQ 39 r with
         | none => rw [hn] at h; cases h
         | some x => rw [hn] at h; cases h; exact ⟨z, by simp, by simp⟩
        ·split at h
         ·cases hn : getQ 34 r with
          | none => rw [hn] at h; cases h
          | some x => rw [hn] at h; cases h; exact ⟨z, by simp, by simp⟩
         ·split at h
          ·cases h; exact ⟨z, by simp, by simp⟩
          ·cases h
structure TkOk (M : Nat) (t : Tok) : Prop where
 short : t.s.length ≤ M
 n : nOk t.n
 k0 : 0 ≤ t.kind
 k7 : t.kind ≤ 7
theorem lexF_ok (M : Nat) : ∀ (f : Nat) (l : List UInt8) (line : Nat) (first : Bool), l.length < f → l.length ≤ M → (∀ t ∈ (lexF f l line first).1, TkOk M t) ∧ (lexF f l line first).1.length ≤ l.length + 1 := by
 intro f
 induction f with
 | zero => intro l line first h; omega
 | succ f ih =>
  intro l line first hf hM
  simp only [lexF]
  split
  ·exact ⟨fun t ht => (by simp at ht), (by simp)⟩
  ·split
   ·refine ⟨fun t ht => ?_, by simp⟩
    rw [List.mem_singleton] at ht
    subst ht
    exact ⟨Nat.zero_le _, by simp [nOk], by simp, by simp⟩
   ·cases ht : tokF (skipB l).1 with
    | none => exact ⟨fun t ht => (by simp at ht), (by simp)⟩
    | some t =>
     simp only
     have h1 := tokF_pos ht
     have h2 := skipB_len l
     have hne : 0 < (skipB l).1.length := List.length_pos_iff.2 (by assumption)
     have h3 := tokF_le ht
     have h4 := tokF_short ht
     obtain ⟨h5, h6, h7⟩ := tokF_ok ht
     have hd : ((skipB l).1.drop t.len).length = (skipB l).1.length - t.len := List.length_drop
     obtain ⟨g1, g2⟩ := ih ((skipB l).1.drop t.len) (line + lines (l.take (l.length - (skipB l).1.length)) + lines ((skipB l).1.take t.len)) false (by omega) (by omega)
     refine ⟨fun u hu => ?_, by simp only [List.length_cons]; omega⟩
     rcases List.mem_cons.1 hu with rfl | hu
     ·exact ⟨by simp only; omega, h5, h6, h7⟩
     ·exact g1 u hu
theorem lexB_ok (l : List UInt8) : (∀ t ∈ (lexB l).1, TkOk l.length t) ∧ (lexB l).1.length ≤ l.length + 1 := lexF_ok l.length _ l 1 true (Nat.lt_succ_self _) (Nat.le_refl _)
theorem volA_le (M : Nat) : ∀ l : List Tok, (∀ t ∈ l, t.s.length ≤ M) → volA l ≤ l.length * (2 + 2 * M)
 | [], _ => by simp [volA]
 | t :: r, h => by
  have h1 := volA_le M r fun t ht => h t (List.mem_cons_of_mem _ ht)
  have h2 := h t List.mem_cons_self
  have e : volA (t :: r) = (2 + 2 * t.s.length) + volA r := by simp [volA]
  rw [e, List.length_cons, Nat.add_mul]
  omega
def pairs07 : List (List UInt8 × List UInt8) := [([97, 58, 45, 98, 44, 99, 46], [97, 32, 58, 45, 32, 98, 44, 99]), ([45, 32, 49, 46], [45, 32, 49]), ([45, 32, 45, 49, 46], [45, 32, 40, 45, 49, 41]), ([45, 32, 97, 46], [45, 32, 97]),
 ([102, 40, 45, 41, 46], [102, 40, 45, 41]), ([45, 32, 40, 45, 41, 46], [45, 32, 40, 45, 41]), ([49, 45, 40, 50, 45, 51, 41, 46], [49, 32, 45, 32, 40, 50, 32, 45, 32, 51, 41])]
def pairAt (k : Nat) : List UInt8 × List UInt8 := pairs07.getD k ([], [])
def pairTs (k : Nat) : List Tok := (lexB (pairAt k).1).1
def pairC (k : Nat) : ClauseF := (readF (opsOf opsInit) (pairTs k) 0).1
theorem pair_cases {p : Nat → Prop} (h0 : p 0) (h1 : p 1) (h2 : p 2) (h3 : p 3) (h4 : p 4) (h5 : p 5) (h6 : p 6) : ∀ k, k < 7 → p k := fun k hk => by
 have : k = 0 ∨ k = 1 ∨ k = 2 ∨ k = 3 ∨ k = 4 ∨ k = 5 ∨ k = 6 := by omega
 rcases this with rfl | rfl | rfl | rfl | rfl | rfl | rfl <;> assumption
theorem pair_lex : ∀ k, k < 7 → (lexB (pairAt k).1).2 = (0, 0) := by decide +kernel
theorem pair_len : ∀ k, k < 7 → (pairAt k).1.length ≤ 100 ∧ (pairAt k).2.length ≤ 100 := by decide +kernel
theorem pair_read : ∀ k, k < 7 → (readF (opsOf opsInit) (pairTs k) 0).2 = 0 := by decide +kernel
theorem pair_small : ∀ k, k < 7 → (pairC k).t.fits = true ∧ (pairC k).t.size ≤ 100 ∧ (pairC k).t.deep ≤ 100 := by decide +kernel
theorem pair_put : ∀ k, k < 7 → putF opsInit 1 (pairC k).t = ((pairAt k).2, 0) := by decide +kernel
end Go.Proofs.YtcallkljcjimiaaGreatDoor
