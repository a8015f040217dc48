import Derived.Test.YtmgidfndifhcoaaDoorJReadBrackets32
import Derived.Test.YtmgidfndifhcoaaDoorJReadBrackets28
import Derived.Test.YtmgidfndifhcoaaDoorJReadBrackets31
/-
  A text's term in brackets, as an argument, in a list, in braces: from the texts to what is read. Plain laws; conditions: the text has at most 600 bytes; 't' is no prefix operator.
-/
namespace Go.Proofs.YtmgidfndifhcoaaDoor

theorem tok_mark {c : UInt8} (r : List UInt8) (h : bsort c = 7) (h1 : c ≠ 46) (h2 : c ≠ 39) (h3 : c ≠ 34) : tokF (c :: r) = some ⟨6, 0, [c], 1⟩ := by
  unfold tokF
  simp only
  rw [if_neg (fun h => h1 h.1), h]
  simp [h2, h3]
/-- The text's tokens among others. -/
theorem inbr_mk {X X' P Zt : List Tok} {st en zt : Tok} {Zr : List Tok} (hs : sameT X X') (hst : st.kind = 7) (hz : Zt = zt :: Zr) (hk : zt.kind = 6) (hc : zt.s = [41] ∨ zt.s = [125]) : InBr (X ++ [st, en]) (P ++ (X' ++ Zt)) P.length X.length := by
  refine ⟨fun i hi => ?_, fun i h0 hi => ?_, ?_, ?_⟩
  · rw [peek_in _ _ _ hi, peek_app, peek_in _ _ _ (by rw [hs.1]; exact hi)]
    exact (hs.2 i hi).1
  · rw [peek_in _ _ _ hi, peek_app, peek_in _ _ _ (by rw [hs.1]; exact hi)]
    exact (hs.2 i hi).2 h0
  · have := peek_app X [st, en] 0
    rw [Nat.add_zero] at this
    rw [this]
    exact hst
  · have := peek_app X' Zt 0
    rw [Nat.add_zero, hs.1] at this
    rw [peek_app, this, hz]
    exact ⟨hk, hc⟩
theorem peek_behind {X X' P Zt : List Tok} (hs : sameT X X') (k : Nat) : peekF (P ++ (X' ++ Zt)) (P.length + X.length + k) = peekF Zt k := by
  rw [Nat.add_assoc, peek_app, ← hs.1, peek_app]

section
variable {o : OpsF} {text : List UInt8} {ts1 : List Tok} {ln : Int} {c : ClauseF}
/-- What is small enough to be read in brackets. -/
theorem brk_small (hlen : text.length ≤ 600) (h : lexB (text ++ [10] ++ [46]) = (ts1, ln, 0)) (hr : readF o ts1 ((0 : Nat) : Int) = (c, 0)) : c.t.deep < 2000 ∧ c.t.size < 19999 := by
  have hu : Ends (text ++ [10]) := Ends.app rfl
  obtain ⟨X, X', e1, hs, e2⟩ := lex_swap hu h []
  obtain ⟨_, _, sf, h3, _, _, _, rfl⟩ := read_ok hr
  have h4 := (read_small h3).1
  have h5 := read_flat h3
  rw [vol_len] at h4
  rw [vod_len] at h5
  obtain ⟨t1, l1, e3⟩ := lexF_dot ((text ++ [10]).length + 1) (text ++ [10]) 1 true hu (by omega) (by
    have := congrArg (fun x => x.2.2) h
    unfold lexB at this
    rw [List.length_append] at this
    exact this) 1
  obtain ⟨Y, hY, e4⟩ := lex_app [46] ((text ++ [10]).length + 1) (text ++ [10]) 1 true t1 l1 hu (by omega) e3
  have e5 : lexB (text ++ [10] ++ [46]) = lexF ((text ++ [10]).length + 1 + 1) (text ++ [10] ++ [46]) 1 true := by
    unfold lexB
    rw [List.length_append (bs := [46])]
    rfl
  have h6 := e4.symm.trans (e5.symm.trans h)
  have h7 : ts1 = Y ++ (lexF 2 [46] (1 + lines (text ++ [10])) true).1 := (congrArg Prod.fst h6).symm
  have e6 : ∀ L : Nat, (lexF 2 [46] L true).1 = [⟨7, (L : Int), 0, [], false, false⟩, endTok L] := fun L => rfl
  rw [e6] at h7
  obtain ⟨v1, v2⟩ := lexF_vol ((text ++ [10]).length + 1) (text ++ [10]) 1 true hu (by omega)
  rw [e3, hY] at v1 v2
  rw [List.length_append] at v1 v2
  simp only [List.length_cons, List.length_nil] at v1 v2
  have a1 : volA ts1 ≤ volA (Y ++ [endTok (1 + lines (text ++ [10]))]) + 2 := by
    rw [h7]
    unfold volA
    simp [endTok]
  have a2 : vodA ts1 ≤ vodA (Y ++ [endTok (1 + lines (text ++ [10]))]) + 2 := by
    rw [h7]
    unfold vodA
    simp [endTok]
  simp only at v1 v2 ⊢
  omega
theorem brk_next {X : List Tok} {a b : Tok} (e1 : ts1 = X ++ [a, b]) (hn : c.next = (ts1.length : Int) - 1) : c.next = (X.length : Int) + 1 := by
  rw [hn, e1, List.length_append]
  simp
  omega
/-- In round brackets. -/
theorem brk_paren (h : lexB (text ++ [10] ++ [46]) = (ts1, ln, 0)) (hr : readF o ts1 ((0 : Nat) : Int) = (c, 0)) (hn : c.next = (ts1.length : Int) - 1) :
    ∃ ts2 ln2 c2, lexB (40 :: (text ++ [10] ++ [41, 46])) = (ts2, ln2, 0) ∧ readF o ts2 ((0 : Nat) : Int) = (c2, 0) ∧ c2.t = c.t ∧ c2.next = (ts2.length : Int) - 1 := by
  have hu : Ends (text ++ [10]) := Ends.app rfl
  obtain ⟨X, X', e1, hs, e2⟩ := lex_swap hu h [41, 46]
  have hz : ∀ L : Nat, lexF 3 [41, 46] L true = ([⟨6, (L : Int), 0, [41], false, false⟩, ⟨7, (L : Int), 0, [], false, true⟩, endTok L], 0, 0) := fun L => rfl
  have e3 := lexB_cons 40 (text ++ [10] ++ [41, 46]) ((40 :: (text ++ [10] ++ [41, 46])).length + 1) 1 true ⟨6, 0, [40], 1⟩ (by rw [List.length_cons]; omega) (by decide +kernel) (by decide) (by decide) (tok_mark _ (by decide +kernel) (by decide) (by decide) (by decide)) rfl (by decide)
  have e4 := e2 ((40 :: (text ++ [10] ++ [41, 46])).length + 1) (by simp only [List.length_cons, List.length_append, List.length_nil]; omega)
  rw [e4] at e3
  simp only [List.length_cons, List.length_nil, Nat.zero_add] at e3
  rw [hz] at e3
  generalize decide ((text ++ [10] ++ [41, 46]).head? = some (40 : UInt8)) = op at e3
  obtain ⟨P, hP⟩ : ∃ P : List Tok, P = [⟨6, ((1 : Nat) : Int), 0, [40], op, !true⟩] := ⟨_, rfl⟩
  obtain ⟨Zt, hZ⟩ : ∃ Zt : List Tok, Zt = [⟨6, ((1 + lines (text ++ [10]) : Nat) : Int), 0, [41], false, false⟩, ⟨7, ((1 + lines (text ++ [10]) : Nat) : Int), 0, [], false, true⟩, endTok (1 + lines (text ++ [10]))] := ⟨_, rfl⟩
  have e5 : lexB (40 :: (text ++ [10] ++ [41, 46])) = (P ++ (X' ++ Zt), 0, 0) := by
    rw [hP, hZ]
    exact e3
  have hp : P.length = 1 := by rw [hP]; rfl
  have hb := inbr_mk (P := P) (en := endTok (1 + lines (text ++ [10]))) (st := ⟨7, ((1 + lines (text ++ [10]) : Nat) : Int), 0, [], false, false⟩) hs rfl hZ rfl (.inl rfl)
  rw [hp, ← e1] at hb
  have hpk : ∀ k, peekF (P ++ (X' ++ Zt)) (1 + X.length + k) = peekF Zt k := fun k => by rw [← hp]; exact peek_behind hs k
  obtain ⟨c2, g1, g2, g3⟩ := br_paren (o := o) hb (by rw [hP]; exact ⟨rfl, rfl⟩) (by have := hpk 0; rw [Nat.add_zero] at this; rw [this, hZ]; rfl) (by rw [hpk 1, hZ]; rfl) hr (brk_next e1 hn)
  refine ⟨_, 0, c2, e5, g1, g2, ?_⟩
  rw [g3, List.length_append, List.length_append, hs.1, hp, hZ]
  simp
  omega
theorem tok_f (r : List UInt8) : tokF (102 :: 40 :: r) = some ⟨1, 0, [102], 1⟩ := by
  have e1 : bsort 102 = 2 := by decide +kernel
  have e2 : spanN isWord (102 :: 40 :: r) = 1 := by
    rw [spanN_cons, spanN_cons, if_pos (by decide +kernel), if_neg (by decide +kernel)]
  unfold tokF
  simp only
  rw [if_neg (fun h => absurd h.1 (by decide)), if_pos e1, e2]
  rfl
/-- As an argument. -/
theorem brk_args (hlen : text.length ≤ 600) (h : lexB (text ++ [10] ++ [46]) = (ts1, ln, 0)) (hr : readF o ts1 ((0 : Nat) : Int) = (c, 0)) (hn : c.next = (ts1.length : Int) - 1) :
    ∃ ts2 ln2 c2, lexB (102 :: 40 :: 40 :: (text ++ [10] ++ [41, 41, 46])) = (ts2, ln2, 0) ∧ readF o ts2 ((0 : Nat) : Int) = (c2, 0) ∧ c2.t = compT [102] [c.t] ∧ c2.next = (ts2.length : Int) - 1 := by
  have hu : Ends (text ++ [10]) := Ends.app rfl
  obtain ⟨d1, d2⟩ := brk_small hlen h hr
  obtain ⟨X, X', e1, hs, e2⟩ := lex_swap hu h [41, 41, 46]
  have hz : ∀ L : Nat, lexF 4 [41, 41, 46] L true = ([⟨6, (L : Int), 0, [41], false, false⟩, ⟨6, (L : Int), 0, [41], false, true⟩, ⟨7, (L : Int), 0, [], false, true⟩, endTok L], 0, 0) := fun L => rfl
  obtain ⟨F, hF⟩ : ∃ F, F = (102 :: 40 :: 40 :: (text ++ [10] ++ [41, 41, 46])).length + 1 := ⟨_, rfl⟩
  have hFl : (text ++ [10] ++ [41, 41, 46]).length + 4 = F := by rw [hF]; simp
  have e3 := lexB_cons 102 (40 :: 40 :: (text ++ [10] ++ [41, 41, 46])) F 1 true ⟨1, 0, [102], 1⟩ (by rw [hF]; simp only [List.length_cons]; omega) (by decide +kernel) (by decide) (by decide) (tok_f _) rfl (by decide)
  have e3b := lexB_cons 40 (40 :: (text ++ [10] ++ [41, 41, 46])) F 1 false ⟨6, 0, [40], 1⟩ (by rw [hF]; simp only [List.length_cons]; omega) (by decide +kernel) (by decide) (by decide) (tok_mark _ (by decide +kernel) (by decide) (by decide) (by decide)) rfl (by decide)
  have e3c := lexB_cons 40 (text ++ [10] ++ [41, 41, 46]) F 1 false ⟨6, 0, [40], 1⟩ (by rw [hF]; simp only [List.length_cons]; omega) (by decide +kernel) (by decide) (by decide) (tok_mark _ (by decide +kernel) (by decide) (by decide) (by decide)) rfl (by decide)
  have e4 := e2 F (by rw [hF]; simp only [List.length_cons, List.length_append, List.length_nil]; omega)
  rw [e4] at e3c
  rw [e3c] at e3b
  rw [e3b] at e3
  simp only [List.length_cons, List.length_nil, Nat.zero_add] at e3
  rw [hz] at e3
  generalize decide ((text ++ [10] ++ [41, 41, 46]).head? = some (40 : UInt8)) = op at e3
  obtain ⟨P, hP⟩ : ∃ P : List Tok, P = [⟨1, ((1 : Nat) : Int), 0, [102], true, !true⟩, ⟨6, ((1 : Nat) : Int), 0, [40], true, !false⟩, ⟨6, ((1 : Nat) : Int), 0, [40], op, !false⟩] := ⟨_, rfl⟩
  obtain ⟨Zt, hZ⟩ : ∃ Zt : List Tok, Zt = [⟨6, ((1 + lines (text ++ [10]) : Nat) : Int), 0, [41], false, false⟩, ⟨6, ((1 + lines (text ++ [10]) : Nat) : Int), 0, [41], false, true⟩, ⟨7, ((1 + lines (text ++ [10]) : Nat) : Int), 0, [], false, true⟩, endTok (1 + lines (text ++ [10]))] := ⟨_, rfl⟩
  have e5 : lexB (102 :: 40 :: 40 :: (text ++ [10] ++ [41, 41, 46])) = (P ++ (X' ++ Zt), 0, 0) := by
    unfold lexB
    rw [← hF, hP, hZ]
    exact e3
  have hp : P.length = 3 := by rw [hP]; rfl
  have hb := inbr_mk (P := P) (en := endTok (1 + lines (text ++ [10]))) (st := ⟨7, ((1 + lines (text ++ [10]) : Nat) : Int), 0, [], false, false⟩) hs rfl hZ rfl (.inl rfl)
  rw [hp, ← e1] at hb
  have hpk : ∀ k, peekF (P ++ (X' ++ Zt)) (3 + X.length + k) = peekF Zt k := fun k => by rw [← hp]; exact peek_behind hs k
  obtain ⟨c2, g1, g2, g3⟩ := br_args (o := o) hb (by rw [hP]; exact ⟨rfl, rfl, rfl⟩) (by rw [hP]; exact ⟨rfl, rfl⟩) (by rw [hP]; exact ⟨rfl, rfl⟩) (by have := hpk 0; rw [Nat.add_zero] at this; rw [this, hZ]; rfl) (by rw [hpk 1, hZ]; exact ⟨rfl, rfl⟩) (by rw [Nat.add_assoc (3 + X.length), hpk 2, hZ]; rfl) hr (brk_next e1 hn) d1 (by omega)
  refine ⟨_, 0, c2, e5, g1, g2, ?_⟩
  rw [g3, List.length_append, List.length_append, hs.1, hp, hZ]
  simp
  omega
/-- In a list. -/
theorem brk_list (ho : (o.pre [116]).1 ≤ 0) (hlen : text.length ≤ 600) (h : lexB (text ++ [10] ++ [46]) = (ts1, ln, 0)) (hr : readF o ts1 ((0 : Nat) : Int) = (c, 0)) (hn : c.next = (ts1.length : Int) - 1) :
    ∃ ts2 ln2 c2, lexB (91 :: 40 :: (text ++ [10] ++ [41, 124, 116, 93, 46])) = (ts2, ln2, 0) ∧ readF o ts2 ((0 : Nat) : Int) = (c2, 0) ∧ c2.t = compT [46] [c.t, atomT [116]] ∧ c2.next = (ts2.length : Int) - 1 := by
  have hu : Ends (text ++ [10]) := Ends.app rfl
  obtain ⟨d1, d2⟩ := brk_small hlen h hr
  obtain ⟨X, X', e1, hs, e2⟩ := lex_swap hu h [41, 124, 116, 93, 46]
  have hz : ∀ L : Nat, lexF 6 [41, 124, 116, 93, 46] L true = ([⟨6, (L : Int), 0, [41], false, false⟩, ⟨6, (L : Int), 0, [124], false, true⟩, ⟨1, (L : Int), 0, [116], false, true⟩, ⟨6, (L : Int), 0, [93], false, true⟩, ⟨7, (L : Int), 0, [], false, true⟩, endTok L], 0, 0) := fun L => rfl
  obtain ⟨F, hF⟩ : ∃ F, F = (91 :: 40 :: (text ++ [10] ++ [41, 124, 116, 93, 46])).length + 1 := ⟨_, rfl⟩
  have e3 := lexB_cons 91 (40 :: (text ++ [10] ++ [41, 124, 116, 93, 46])) F 1 true ⟨6, 0, [91], 1⟩ (by rw [hF]; simp only [List.length_cons]; omega) (by decide +kernel) (by decide) (by decide) (tok_mark _ (by decide +kernel) (by decide) (by decide) (by decide)) rfl (by decide)
  have e3b := lexB_cons 40 (text ++ [10] ++ [41, 124, 116, 93, 46]) F 1 false ⟨6, 0, [40], 1⟩ (by rw [hF]; simp only [List.length_cons]; omega) (by decide +kernel) (by decide) (by decide) (tok_mark _ (by decide +kernel) (by decide) (by decide) (by decide)) rfl (by decide)
  have e4 := e2 F (by rw [hF]; simp only [List.length_cons, List.length_append, List.length_nil]; omega)
  rw [e4] at e3b
  rw [e3b] at e3
  simp only [List.length_cons, List.length_nil, Nat.zero_add] at e3
  rw [hz] at e3
  generalize decide ((text ++ [10] ++ [41, 124, 116, 93, 46]).head? = some (40 : UInt8)) = op at e3
  obtain ⟨P, hP⟩ : ∃ P : List Tok, P = [⟨6, ((1 : Nat) : Int), 0, [91], true, !true⟩, ⟨6, ((1 : Nat) : Int), 0, [40], op, !false⟩] := ⟨_, rfl⟩
  obtain ⟨Zt, hZ⟩ : ∃ Zt : List Tok, Zt = [⟨6, ((1 + lines (text ++ [10]) : Nat) : Int), 0, [41], false, false⟩, ⟨6, ((1 + lines (text ++ [10]) : Nat) : Int), 0, [124], false, true⟩, ⟨1, ((1 + lines (text ++ [10]) : Nat) : Int), 0, [116], false, true⟩, ⟨6, ((1 + lines (text ++ [10]) : Nat) : Int), 0, [93], false, true⟩,
      ⟨7, ((1 + lines (text ++ [10]) : Nat) : Int), 0, [], false, true⟩, endTok (1 + lines (text ++ [10]))] := ⟨_, rfl⟩
  have e5 : lexB (91 :: 40 :: (text ++ [10] ++ [41, 124, 116, 93, 46])) = (P ++ (X' ++ Zt), 0, 0) := by
    unfold lexB
    rw [← hF, hP, hZ]
    exact e3
  have hp : P.length = 2 := by rw [hP]; rfl
  have hb := inbr_mk (P := P) (en := endTok (1 + lines (text ++ [10]))) (st := ⟨7, ((1 + lines (text ++ [10]) : Nat) : Int), 0, [], false, false⟩) hs rfl hZ rfl (.inl rfl)
  rw [hp, ← e1] at hb
  have hpk : ∀ k, peekF (P ++ (X' ++ Zt)) (2 + X.length + k) = peekF Zt k := fun k => by rw [← hp]; exact peek_behind hs k
  obtain ⟨c2, g1, g2, g3⟩ := br_list (o := o) ho hb (by rw [hP]; exact ⟨rfl, rfl⟩) (by rw [hP]; exact ⟨rfl, rfl⟩) (by have := hpk 0; rw [Nat.add_zero] at this; rw [this, hZ]; rfl) (by rw [hpk 1, hZ]; exact ⟨rfl, rfl⟩) (by rw [Nat.add_assoc (2 + X.length), hpk 2, hZ]; exact ⟨rfl, rfl, rfl⟩) (by rw [Nat.add_assoc (2 + X.length), Nat.add_assoc (2 + X.length), hpk 3, hZ]; exact ⟨rfl, rfl⟩)
    (by rw [Nat.add_assoc (2 + X.length), Nat.add_assoc (2 + X.length), Nat.add_assoc (2 + X.length), hpk 4, hZ]; rfl) hr (brk_next e1 hn) d1 d2
  refine ⟨_, 0, c2, e5, g1, g2, ?_⟩
  rw [g3, List.length_append, List.length_append, hs.1, hp, hZ]
  simp
  omega
/-- What is read begins with no brace that closes. -/
theorem first_ok (hr : readF o ts1 ((0 : Nat) : Int) = (c, 0)) : isP ts1 0 125 = false ∧ (peekF ts1 0).kind ≠ 7 := by
  obtain ⟨_, _, sf, h3, _, _, _, rfl⟩ := read_ok hr
  rw [end_step] at h3
  have key : ∀ a, primaryF o ts1 (startF 0) = .error a → False := fun a he => by
    unfold roundF at h3
    rw [if_pos (show (startF 0).hv = false from rfl), he] at h3
    cases h3
  refine ⟨?_, fun hk => ?_⟩
  · cases hp : isP ts1 0 125 with
    | false => rfl
    | true =>
      unfold isP at hp
      simp only [Bool.and_eq_true, decide_eq_true_eq] at hp
      refine (key 0 ?_).elim
      unfold primaryF
      dsimp only
      rw [show (startF 0).at' = 0 from rfl, hp.1, hp.2, if_neg (by decide), if_neg (by decide), if_neg (by decide), if_pos rfl]
      rfl
  · refine key 0 ?_
    unfold primaryF
    dsimp only
    rw [show (startF 0).at' = 0 from rfl, hk]
    rfl
/-- In braces. -/
theorem brk_brace (hlen : text.length ≤ 600) (h : lexB (text ++ [10] ++ [46]) = (ts1, ln, 0)) (hr : readF o ts1 ((0 : Nat) : Int) = (c, 0)) (hn : c.next = (ts1.length : Int) - 1) :
    ∃ ts2 ln2 c2, lexB (123 :: (text ++ [10] ++ [125, 46])) = (ts2, ln2, 0) ∧ readF o ts2 ((0 : Nat) : Int) = (c2, 0) ∧ c2.t = compT [123, 125] [c.t] ∧ c2.next = (ts2.length : Int) - 1 := by
  have hu : Ends (text ++ [10]) := Ends.app rfl
  obtain ⟨d1, d2⟩ := brk_small hlen h hr
  obtain ⟨f1, f2⟩ := first_ok hr
  obtain ⟨X, X', e1, hs, e2⟩ := lex_swap hu h [125, 46]
  have hz : ∀ L : Nat, lexF 3 [125, 46] L true = ([⟨6, (L : Int), 0, [125], false, false⟩, ⟨7, (L : Int), 0, [], false, true⟩, endTok L], 0, 0) := fun L => rfl
  have e3 := lexB_cons 123 (text ++ [10] ++ [125, 46]) ((123 :: (text ++ [10] ++ [125, 46])).length + 1) 1 true ⟨6, 0, [123], 1⟩ (by rw [List.length_cons]; omega) (by decide +kernel) (by decide) (by decide) (tok_mark _ (by decide +kernel) (by decide) (by decide) (by decide)) rfl (by decide)
  have e4 := e2 ((123 :: (text ++ [10] ++ [125, 46])).length + 1) (by simp only [List.length_cons, List.length_append, List.length_nil]; omega)
  rw [e4] at e3
  simp only [List.length_cons, List.length_nil, Nat.zero_add] at e3
  rw [hz] at e3
  generalize decide ((text ++ [10] ++ [125, 46]).head? = some (40 : UInt8)) = op at e3
  obtain ⟨P, hP⟩ : ∃ P : List Tok, P = [⟨6, ((1 : Nat) : Int), 0, [123], op, !true⟩] := ⟨_, rfl⟩
  obtain ⟨Zt, hZ⟩ : ∃ Zt : List Tok, Zt = [⟨6, ((1 + lines (text ++ [10]) : Nat) : Int), 0, [125], false, false⟩, ⟨7, ((1 + lines (text ++ [10]) : Nat) : Int), 0, [], false, true⟩, endTok (1 + lines (text ++ [10]))] := ⟨_, rfl⟩
  have e5 : lexB (123 :: (text ++ [10] ++ [125, 46])) = (P ++ (X' ++ Zt), 0, 0) := by
    rw [hP, hZ]
    exact e3
  have hp : P.length = 1 := by rw [hP]; rfl
  have hb := inbr_mk (P := P) (en := endTok (1 + lines (text ++ [10]))) (st := ⟨7, ((1 + lines (text ++ [10]) : Nat) : Int), 0, [], false, false⟩) hs rfl hZ rfl (.inr rfl)
  rw [hp, ← e1] at hb
  have hpk : ∀ k, peekF (P ++ (X' ++ Zt)) (1 + X.length + k) = peekF Zt k := fun k => by rw [← hp]; exact peek_behind hs k
  have hm : 0 < X.length := by
    rcases Nat.eq_zero_or_pos X.length with h0 | h0
    · exact absurd (by have := hb.stop; rw [h0] at this; exact this) f2
    · exact h0
  obtain ⟨c2, g1, g2, g3⟩ := br_brace (o := o) hb (by rw [hP]; exact ⟨rfl, rfl⟩) (by have := hb.mark hm 125; rw [Nat.add_zero] at this; rw [this]; exact f1) (by have := hpk 0; rw [Nat.add_zero] at this; rw [this, hZ]; rfl) (by rw [hpk 1, hZ]; rfl) hr (brk_next e1 hn) d1 (by omega)
  refine ⟨_, 0, c2, e5, g1, g2, ?_⟩
  rw [g3, List.length_append, List.length_append, hs.1, hp, hZ]
  simp
  omega
end
end Go.Proofs.YtmgidfndifhcoaaDoor
/-
  What the closure answers at the bracketed texts, when it answers a term at the text. Plain law; condition: the text has at most 600 bytes.
-/
namespace Go.Proofs.YtmgidfndifhcoaaDoor
set_option maxRecDepth 100000

theorem oneF_zero {T : List UInt8} (h : (oneF T).2 = 0) : ∃ ts ln, lexB T = (ts, ln, 0) ∧ readF (opsOf opsInit) ts ((0 : Nat) : Int) = ((oneF T).1, 0) ∧ (oneF T).1.next = (ts.length : Int) - 1 := by
  obtain ⟨⟨ts, ln, er⟩, hL⟩ : ∃ L, L = lexB T := ⟨_, rfl⟩
  unfold oneF at h ⊢
  rw [← hL] at h ⊢
  dsimp only at h ⊢
  by_cases he : er ≠ 0
  · rw [if_pos he] at h
    exact absurd h he
  obtain rfl := Classical.not_not.1 he
  rw [if_neg he] at h ⊢
  by_cases h6 : (readF (opsOf opsInit) ts 0).2 = 0 ∧ (readF (opsOf opsInit) ts 0).1.next ≠ (ts.length : Int) - 1
  · rw [if_pos h6] at h
    cases h
  · rw [if_neg h6] at h ⊢
    refine ⟨ts, ln, rfl, ?_, Classical.not_not.1 fun hn => h6 ⟨h, hn⟩⟩
    exact Prod.ext rfl h
theorem oneF_of {T : List UInt8} {ts : List Tok} {ln : Int} {c : ClauseF} (h : lexB T = (ts, ln, 0)) (hr : readF (opsOf opsInit) ts ((0 : Nat) : Int) = (c, 0)) (hn : c.next = (ts.length : Int) - 1) : oneF T = (c, 0) := by
  have hr' : readF (opsOf opsInit) ts 0 = (c, 0) := hr
  unfold oneF
  rw [h]
  dsimp only
  rw [hr', if_neg (by simp), if_neg fun h => h.2 hn]
theorem pre_t : ((opsOf opsInit).pre [116]).1 ≤ 0 := by decide +kernel
theorem brackets {text : List UInt8} (hlen : text.length ≤ 600) (h : (oneF (text ++ [10, 46])).2 = 0) :
    (∃ c, oneF ([40] ++ text ++ [10, 41, 46]) = (c, 0) ∧ c.t = (oneF (text ++ [10, 46])).1.t) ∧
    (∃ c, oneF ([102, 40, 40] ++ text ++ [10, 41, 41, 46]) = (c, 0) ∧ c.t = compT [102] [(oneF (text ++ [10, 46])).1.t]) ∧
    (∃ c, oneF ([91, 40] ++ text ++ [10, 41, 124, 116, 93, 46]) = (c, 0) ∧ c.t = compT [46] [(oneF (text ++ [10, 46])).1.t, atomT [116]]) ∧
    (∃ c, oneF ([123] ++ text ++ [10, 125, 46]) = (c, 0) ∧ c.t = compT [123, 125] [(oneF (text ++ [10, 46])).1.t]) := by
  obtain ⟨ts, ln, h1, h2, h3⟩ := oneF_zero h
  have h1' : lexB (text ++ [10] ++ [46]) = (ts, ln, 0) := by rw [List.append_assoc]; exact h1
  refine ⟨?_, ?_, ?_, ?_⟩
  · obtain ⟨ts2, ln2, c2, g1, g2, g3, g4⟩ := brk_paren h1' h2 h3
    exact ⟨c2, oneF_of (by rw [← g1]; simp) g2 g4, g3⟩
  · obtain ⟨ts2, ln2, c2, g1, g2, g3, g4⟩ := brk_args hlen h1' h2 h3
    exact ⟨c2, oneF_of (by rw [← g1]; simp) g2 g4, g3⟩
  · obtain ⟨ts2, ln2, c2, g1, g2, g3, g4⟩ := brk_list pre_t hlen h1' h2 h3
    exact ⟨c2, oneF_of (by rw [← g1]; simp) g2 g4, g3⟩
  · obtain ⟨ts2, ln2, c2, g1, g2, g3, g4⟩ := brk_brace hlen h1' h2 h3
    exact ⟨c2, oneF_of (by rw [← g1]; simp) g2 g4, g3⟩
end Go.Proofs.YtmgidfndifhcoaaDoor
