import Derived.Test.YtmgidfndifhcoaaDoorJReadBrackets31
import Derived.Test.YtmgidfndifhcoaaDoorJReadBrackets23
/-
  A text's term in brackets, in a list, as an argument, in braces: what the reader comes to. Plain laws; no condition.
-/
namespace Go.Proofs.YtmgidfndifhcoaaDoor

theorem on_end {o : OpsF} {ts : List Tok} {s s1 : RdS} (h : roundF o ts s = .on s1) : endF o ts s = endF o ts s1 := by rw [end_step, h]
theorem fin_end {o : OpsF} {ts : List Tok} {s s1 : RdS} (h : roundF o ts s = .fin s1) : endF o ts s = .fin s1 := by rw [end_step, h]
/-- What reading without an error says of the machine. -/
theorem read_ok {o : OpsF} {ts : List Tok} {i : Nat} {c : ClauseF} (h : readF o ts (i : Int) = (c, 0)) :
    i < ts.length ∧ (peekF ts i).kind ≠ 0 ∧ ∃ sf, endF o ts (startF i) = .fin sf ∧ sf.t.may = true ∧ sf.t.deep ≤ 2000 ∧ sf.t.size ≤ 20000 ∧ c = ⟨sf.t, sf.names, (peekF ts i).line, (sf.at' : Int) + 1⟩ := by
  unfold readF at h
  rw [Int.toNat_natCast] at h
  split at h
  · cases h
  · rename_i hc
    refine ⟨by omega, fun e => hc (.inr (.inr e)), ?_⟩
    change (match endF o ts (startF i) with
      | .on _ => _
      | .bad a => _
      | .fin s => _) = _ at h
    split at h
    · cases h
    · cases h
    · rename_i s hs
      split at h
      · cases h
      · split at h
        · cases h
        · split at h
          · cases h
          · rename_i h1 h2 h3
            injection h with h _
            exact ⟨s, hs, by simpa using h1, by omega, by omega, h.symm⟩
theorem read_mk {o : OpsF} {ts : List Tok} {i : Nat} {sf : RdS} (hi : i < ts.length) (hk : (peekF ts i).kind ≠ 0) (hs : endF o ts (startF i) = .fin sf) (h1 : sf.t.may = true) (h2 : sf.t.deep ≤ 2000) (h3 : sf.t.size ≤ 20000) :
    readF o ts (i : Int) = (⟨sf.t, sf.names, (peekF ts i).line, (sf.at' : Int) + 1⟩, 0) := by
  unfold readF
  rw [Int.toNat_natCast, if_neg (by rintro (h | h | h); omega; omega; exact hk h)]
  change (match endF o ts (startF i) with
      | .on _ => _
      | .bad a => _
      | .fin s => _) = _
  rw [hs]
  simp only
  rw [if_neg (by rw [h1]; decide), if_neg (by omega), if_neg (by omega)]

section
variable {o : OpsF} {ts : List Tok}
/-- At a mark that is no comma no operator goes on. -/
theorem op_punct {s : RdS} (hk : (peekF ts s.at').kind = 6) (hs : (peekF ts s.at').s ≠ [44]) : operatorF o ts s = none := by
  unfold operatorF
  dsimp only
  rw [if_pos]
  refine ⟨by rw [hk]; decide, by rw [hk]; decide, ?_⟩
  unfold isP
  rw [decide_eq_false hs, Bool.and_false]
theorem op_stop {s : RdS} (hk : (peekF ts s.at').kind = 7) : operatorF o ts s = none := by
  unfold operatorF
  dsimp only
  rw [if_pos]
  refine ⟨by rw [hk]; decide, by rw [hk]; decide, ?_⟩
  unfold isP
  rw [hk]
  rfl
theorem isP_of {i : Nat} {c : UInt8} (hk : (peekF ts i).kind = 6) (hs : (peekF ts i).s = [c]) : isP ts i c = true := by
  unfold isP
  rw [hk, hs]
  simp
theorem isP_not {i : Nat} {c d : UInt8} (hs : (peekF ts i).s = [d]) (hd : d ≠ c) : isP ts i c = false := by
  unfold isP
  rw [hs, decide_eq_false (p := ([d] : List UInt8) = [c]) (by simpa using hd), Bool.and_false]
/-- A term that is whole goes to what waits for it. -/
theorem back_round {s s1 : RdS} {f : WaitF} {r : List WaitF} (hv : s.hv = true) (ho : operatorF o ts s = none) (hw : s.wait = f :: r) (hb : backF ts s f r = .ok s1) : roundF o ts s = .on s1 := by
  unfold roundF
  rw [if_neg (by rw [hv]; decide), ho, hw]
  simp only
  rw [hb]
  rfl
theorem stop_round {s : RdS} (hv : s.hv = true) (hw : s.wait = []) (hk : (peekF ts s.at').kind = 7) : roundF o ts s = .fin s := by
  unfold roundF
  rw [if_neg (by rw [hv]; decide), op_stop hk, hw]
  simp only
  rw [if_neg (by rw [hk]; decide)]
theorem open_round {s : RdS} (hv : s.hv = false) (hk : (peekF ts s.at').kind = 6) (hs : (peekF ts s.at').s = [40]) : roundF o ts s = .on ((s.go 1).await ⟨0, 0, [], 0, []⟩ 1200) := by
  unfold roundF
  rw [if_pos hv]
  unfold primaryF
  dsimp only
  rw [hk, hs]
  rfl
def RdS.shut (s : RdS) (mo : Int) (r : List WaitF) (t : Tm) : RdS := ({ s with wait := r, most := mo, at' := s.at' + 1 } : RdS).done t 0
/-- Over a bracket that closes, behind what stood in them. -/
theorem close_end {s : RdS} {mo pr : Int} {nm : List UInt8} {l : List Tm} {r : List WaitF} (hv : s.hv = true) (hw : s.wait = ⟨0, mo, nm, pr, l⟩ :: r) (hk : (peekF ts s.at').kind = 6) (hs : (peekF ts s.at').s = [41]) :
    endF o ts s = endF o ts (s.shut mo r s.t) := by
  refine on_end (back_round hv (op_punct hk (by rw [hs]; decide)) hw ?_)
  unfold backF backG
  rw [if_pos rfl]
  unfold RdS.expect
  rw [if_pos (isP_of hk hs)]
  rfl
end

section
variable {o : OpsF} {ts1 ts2 : List Tok} {m : Nat} {c : ClauseF}
/-- In round brackets. -/
theorem br_paren (h : InBr ts1 ts2 1 m) (h0 : (peekF ts2 0).kind = 6 ∧ (peekF ts2 0).s = [40]) (hc : (peekF ts2 (1 + m)).s = [41]) (hz : (peekF ts2 (1 + m + 1)).kind = 7) (hr : readF o ts1 ((0 : Nat) : Int) = (c, 0)) (hn : c.next = (m : Int) + 1) :
    ∃ c2, readF o ts2 ((0 : Nat) : Int) = (c2, 0) ∧ c2.t = c.t ∧ c2.next = (m : Int) + 3 := by
  obtain ⟨h1, h2, sf, h3, h4, h5, h6, rfl⟩ := read_ok hr
  have hm : sf.at' = m := by simp only at hn; omega
  obtain ⟨h7, h8, h9⟩ := h.run (W := [⟨0, 1200, [], 0, []⟩]) _ (startF 0) sf (Nat.le_refl _) (Nat.zero_le _) h3 hm
  have hlen : 0 < ts2.length := peek_lt (by rw [h0.1]; decide)
  have e1 : endF o ts2 (startF 0) = endF o ts2 ((startF 0).lift 1 [⟨0, 1200, [], 0, []⟩]) := on_end (open_round rfl h0.1 h0.2)
  obtain ⟨x, hx⟩ : ∃ x, x = sf.lift 1 [⟨0, 1200, [], 0, []⟩] := ⟨_, rfl⟩
  have hx1 : x.at' = 1 + m := by rw [hx]; show 1 + sf.at' = _; rw [hm]
  rw [← hx] at h7
  have e2 := close_end (o := o) (ts := ts2) (s := x) (mo := 1200) (nm := []) (pr := 0) (l := []) (r := []) (by rw [hx]; exact h8) (by rw [hx]; show sf.wait ++ _ = _; rw [h9]; rfl) (by rw [hx1]; exact h.close.1) (by rw [hx1]; exact hc)
  have e3 := fin_end (o := o) (stop_round (ts := ts2) (s := x.shut 1200 [] x.t) rfl rfl (by show (peekF ts2 (x.at' + 1)).kind = 7; rw [hx1]; exact hz))
  have ht : x.t = sf.t := by rw [hx]; rfl
  refine ⟨_, read_mk (sf := x.shut 1200 [] x.t) hlen (by show (peekF ts2 0).kind ≠ 0; rw [h0.1]; decide) (by rw [e1, h7, e2, e3]) (by show x.t.may = true; rw [ht]; exact h4) (by show x.t.deep ≤ _; rw [ht]; exact h5) (by show x.t.size ≤ _; rw [ht]; exact h6), ht, ?_⟩
  show ((x.at' + 1 : Nat) : Int) + 1 = _
  rw [hx1]
  omega
/-- In braces. -/
theorem br_brace (h : InBr ts1 ts2 1 m) (h0 : (peekF ts2 0).kind = 6 ∧ (peekF ts2 0).s = [123]) (h01 : isP ts2 1 125 = false) (hc : (peekF ts2 (1 + m)).s = [125]) (hz : (peekF ts2 (1 + m + 1)).kind = 7) (hr : readF o ts1 ((0 : Nat) : Int) = (c, 0)) (hn : c.next = (m : Int) + 1)
    (hd : c.t.deep < 2000) (hs : c.t.size < 20000) :
    ∃ c2, readF o ts2 ((0 : Nat) : Int) = (c2, 0) ∧ c2.t = compT [123, 125] [c.t] ∧ c2.next = (m : Int) + 3 := by
  obtain ⟨h1, h2, sf, h3, h4, h5, h6, rfl⟩ := read_ok hr
  have hm : sf.at' = m := by simp only at hn; omega
  simp only at hd hs
  obtain ⟨h7, h8, h9⟩ := h.run (W := [⟨1, 1200, [], 0, []⟩]) _ (startF 0) sf (Nat.le_refl _) (Nat.zero_le _) h3 hm
  have hlen : 0 < ts2.length := peek_lt (by rw [h0.1]; decide)
  have e1 : endF o ts2 (startF 0) = endF o ts2 ((startF 0).lift 1 [⟨1, 1200, [], 0, []⟩]) := by
    refine on_end ?_
    unfold roundF
    rw [if_pos (show (startF 0).hv = false from rfl)]
    unfold primaryF
    dsimp only
    rw [show (startF 0).at' = 0 from rfl, h0.1, h0.2]
    rw [if_neg (by decide), if_neg (by decide), if_neg (by decide), if_pos rfl]
    unfold punctF
    rw [if_neg (by decide), if_neg (by decide), if_pos rfl, show (startF 0).at' + 1 = 1 from rfl, h01]
    rfl
  obtain ⟨x, hx⟩ : ∃ x, x = sf.lift 1 [⟨1, 1200, [], 0, []⟩] := ⟨_, rfl⟩
  have hx1 : x.at' = 1 + m := by rw [hx]; show 1 + sf.at' = _; rw [hm]
  have ht : x.t = sf.t := by rw [hx]; rfl
  rw [← hx] at h7
  have e2 : endF o ts2 x = endF o ts2 (x.shut 1200 [] (compT [123, 125] [x.t])) := by
    have hk : (peekF ts2 x.at').kind = 6 := by rw [hx1]; exact h.close.1
    have hk2 : (peekF ts2 x.at').s = [125] := by rw [hx1]; exact hc
    refine on_end (back_round (by rw [hx]; exact h8) (op_punct hk (by rw [hk2]; decide)) (f := ⟨1, 1200, [], 0, []⟩) (r := []) (by rw [hx]; show sf.wait ++ _ = _; rw [h9]; rfl) ?_)
    unfold backF backG
    rw [if_neg (by decide), if_pos rfl]
    unfold RdS.expect
    rw [if_pos (isP_of hk hk2)]
    rfl
  have e3 := fin_end (o := o) (stop_round (ts := ts2) (s := x.shut 1200 [] (compT [123, 125] [x.t])) rfl rfl (by show (peekF ts2 (x.at' + 1)).kind = 7; rw [hx1]; exact hz))
  refine ⟨_, read_mk (sf := x.shut 1200 [] (compT [123, 125] [x.t])) hlen (by show (peekF ts2 0).kind ≠ 0; rw [h0.1]; decide) (by rw [e1, h7, e2, e3]) ?_ ?_ ?_, by show compT [123, 125] [x.t] = _; rw [ht], ?_⟩
  · show (compT [123, 125] [x.t]).may = true
    rw [ht]
    simp [compT, Tm.may, Tm.mays, mayP, h4]
  · show (compT [123, 125] [x.t]).deep ≤ 2000
    rw [ht]
    simp [compT, Tm.deep, Tm.deeps]
    omega
  · show (compT [123, 125] [x.t]).size ≤ 20000
    rw [ht]
    simp [compT, Tm.size, Tm.sizes]
    omega
  · show ((x.at' + 1 : Nat) : Int) + 1 = _
    rw [hx1]
    omega
/-- As an argument. -/
theorem br_args (h : InBr ts1 ts2 3 m) (h0 : (peekF ts2 0).kind = 1 ∧ (peekF ts2 0).s = [102] ∧ (peekF ts2 0).opn = true) (h1 : (peekF ts2 1).kind = 6 ∧ (peekF ts2 1).s = [40]) (h2 : (peekF ts2 2).kind = 6 ∧ (peekF ts2 2).s = [40])
    (hc : (peekF ts2 (3 + m)).s = [41]) (hc2 : (peekF ts2 (3 + m + 1)).kind = 6 ∧ (peekF ts2 (3 + m + 1)).s = [41]) (hz : (peekF ts2 (3 + m + 1 + 1)).kind = 7) (hr : readF o ts1 ((0 : Nat) : Int) = (c, 0)) (hn : c.next = (m : Int) + 1)
    (hd : c.t.deep < 2000) (hs : c.t.size < 20000) :
    ∃ c2, readF o ts2 ((0 : Nat) : Int) = (c2, 0) ∧ c2.t = compT [102] [c.t] ∧ c2.next = (m : Int) + 6 := by
  obtain ⟨g1, g2, sf, h3, h4, h5, h6, rfl⟩ := read_ok hr
  have hm : sf.at' = m := by simp only at hn; omega
  simp only at hd hs
  obtain ⟨h7, h8, h9⟩ := h.run (W := [⟨0, 999, [], 0, []⟩, ⟨2, 1200, [102], 0, []⟩]) _ (startF 0) sf (Nat.le_refl _) (Nat.zero_le _) h3 hm
  have hlen : 0 < ts2.length := peek_lt (by rw [h0.1]; decide)
  have e0 : endF o ts2 (startF 0) = endF o ts2 (((startF 0).go 2).await ⟨2, 0, [102], 0, []⟩ 999) := by
    refine on_end ?_
    unfold roundF
    rw [if_pos (show (startF 0).hv = false from rfl)]
    unfold primaryF
    dsimp only
    rw [show (startF 0).at' = 0 from rfl, h0.1]
    rw [if_neg (by decide), if_neg (by decide), if_neg (by decide), if_neg (by decide), if_pos (.inl rfl)]
    unfold atomF
    dsimp only
    rw [h0.2.1, h0.2.2, if_neg (by rintro ⟨_, h, _⟩; exact absurd h (by decide)), if_pos rfl]
    unfold argsF RdS.expect
    rw [show ((startF 0).go 1).at' = 1 from rfl, isP_of h1.1 h1.2, if_pos rfl]
    rfl
  have e1 : endF o ts2 (((startF 0).go 2).await ⟨2, 0, [102], 0, []⟩ 999) = endF o ts2 ((startF 0).lift 3 [⟨0, 999, [], 0, []⟩, ⟨2, 1200, [102], 0, []⟩]) := on_end (open_round rfl h2.1 h2.2)
  obtain ⟨x, hx⟩ : ∃ x, x = sf.lift 3 [⟨0, 999, [], 0, []⟩, ⟨2, 1200, [102], 0, []⟩] := ⟨_, rfl⟩
  have hx1 : x.at' = 3 + m := by rw [hx]; show 3 + sf.at' = _; rw [hm]
  have ht : x.t = sf.t := by rw [hx]; rfl
  rw [← hx] at h7
  have e2 := close_end (o := o) (ts := ts2) (s := x) (mo := 999) (nm := []) (pr := 0) (l := []) (r := [⟨2, 1200, [102], 0, []⟩]) (by rw [hx]; exact h8) (by rw [hx]; show sf.wait ++ _ = _; rw [h9]; rfl) (by rw [hx1]; exact h.close.1) (by rw [hx1]; exact hc)
  obtain ⟨y, hy⟩ : ∃ y, y = x.shut 999 [⟨2, 1200, [102], 0, []⟩] x.t := ⟨_, rfl⟩
  have hy1 : y.at' = 3 + m + 1 := by rw [hy]; show x.at' + 1 = _; rw [hx1]
  have hyt : y.t = x.t := by rw [hy]; rfl
  rw [← hy] at e2
  have e3 : endF o ts2 y = endF o ts2 (y.shut 1200 [] (compT [102] [y.t])) := by
    have hk : (peekF ts2 y.at').kind = 6 := by rw [hy1]; exact hc2.1
    have hk2 : (peekF ts2 y.at').s = [41] := by rw [hy1]; exact hc2.2
    refine on_end (back_round (by rw [hy]; rfl) (op_punct hk (by rw [hk2]; decide)) (f := ⟨2, 1200, [102], 0, []⟩) (r := []) (by rw [hy]; rfl) ?_)
    unfold backF backG
    rw [if_neg (by decide), if_neg (by decide), if_neg (by decide), if_neg (by decide), if_pos rfl]
    dsimp only
    rw [isP_not hk2 (by decide), if_neg (by decide)]
    unfold RdS.expect
    rw [if_pos (isP_of hk hk2)]
    rfl
  have e4 := fin_end (o := o) (stop_round (ts := ts2) (s := y.shut 1200 [] (compT [102] [y.t])) rfl rfl (by show (peekF ts2 (y.at' + 1)).kind = 7; rw [hy1]; exact hz))
  refine ⟨_, read_mk (sf := y.shut 1200 [] (compT [102] [y.t])) hlen (by show (peekF ts2 0).kind ≠ 0; rw [h0.1]; decide) (by rw [e0, e1, h7, e2, e3, e4]) ?_ ?_ ?_, by show compT [102] [y.t] = _; rw [hyt, ht], ?_⟩
  · show (compT [102] [y.t]).may = true
    rw [hyt, ht]
    simp [compT, Tm.may, Tm.mays, mayP, h4]
  · show (compT [102] [y.t]).deep ≤ 2000
    rw [hyt, ht]
    simp [compT, Tm.deep, Tm.deeps]
    omega
  · show (compT [102] [y.t]).size ≤ 20000
    rw [hyt, ht]
    simp [compT, Tm.size, Tm.sizes]
    omega
  · show ((y.at' + 1 : Nat) : Int) + 1 = _
    rw [hy1]
    omega
/-- In a list. -/
theorem br_list (ho : (o.pre [116]).1 ≤ 0) (h : InBr ts1 ts2 2 m) (h0 : (peekF ts2 0).kind = 6 ∧ (peekF ts2 0).s = [91]) (h1 : (peekF ts2 1).kind = 6 ∧ (peekF ts2 1).s = [40])
    (hc : (peekF ts2 (2 + m)).s = [41]) (hb : (peekF ts2 (2 + m + 1)).kind = 6 ∧ (peekF ts2 (2 + m + 1)).s = [124]) (ha : (peekF ts2 (2 + m + 1 + 1)).kind = 1 ∧ (peekF ts2 (2 + m + 1 + 1)).s = [116] ∧ (peekF ts2 (2 + m + 1 + 1)).opn = false)
    (hq : (peekF ts2 (2 + m + 1 + 1 + 1)).kind = 6 ∧ (peekF ts2 (2 + m + 1 + 1 + 1)).s = [93]) (hz : (peekF ts2 (2 + m + 1 + 1 + 1 + 1)).kind = 7) (hr : readF o ts1 ((0 : Nat) : Int) = (c, 0)) (hn : c.next = (m : Int) + 1)
    (hd : c.t.deep < 2000) (hs : c.t.size < 19999) :
    ∃ c2, readF o ts2 ((0 : Nat) : Int) = (c2, 0) ∧ c2.t = compT [46] [c.t, atomT [116]] ∧ c2.next = (m : Int) + 7 := by
  obtain ⟨g1, g2, sf, h3, h4, h5, h6, rfl⟩ := read_ok hr
  have hm : sf.at' = m := by simp only at hn; omega
  simp only at hd hs
  obtain ⟨h7, h8, h9⟩ := h.run (W := [⟨0, 999, [], 0, []⟩, ⟨3, 1200, [], 0, []⟩]) _ (startF 0) sf (Nat.le_refl _) (Nat.zero_le _) h3 hm
  have hlen : 0 < ts2.length := peek_lt (by rw [h0.1]; decide)
  have e0 : endF o ts2 (startF 0) = endF o ts2 (((startF 0).go 1).await ⟨3, 0, [], 0, []⟩ 999) := by
    refine on_end ?_
    unfold roundF
    rw [if_pos (show (startF 0).hv = false from rfl)]
    unfold primaryF
    dsimp only
    rw [show (startF 0).at' = 0 from rfl, h0.1, h0.2]
    rw [if_neg (by decide), if_neg (by decide), if_neg (by decide), if_pos rfl]
    unfold punctF
    rw [if_neg (by decide), if_pos rfl, show (startF 0).at' + 1 = 1 from rfl, isP_not h1.2 (by decide)]
    rfl
  have e1 : endF o ts2 (((startF 0).go 1).await ⟨3, 0, [], 0, []⟩ 999) = endF o ts2 ((startF 0).lift 2 [⟨0, 999, [], 0, []⟩, ⟨3, 1200, [], 0, []⟩]) := on_end (open_round rfl h1.1 h1.2)
  obtain ⟨x, hx⟩ : ∃ x, x = sf.lift 2 [⟨0, 999, [], 0, []⟩, ⟨3, 1200, [], 0, []⟩] := ⟨_, rfl⟩
  have hx1 : x.at' = 2 + m := by rw [hx]; show 2 + sf.at' = _; rw [hm]
  have ht : x.t = sf.t := by rw [hx]; rfl
  rw [← hx] at h7
  have e2 := close_end (o := o) (ts := ts2) (s := x) (mo := 999) (nm := []) (pr := 0) (l := []) (r := [⟨3, 1200, [], 0, []⟩]) (by rw [hx]; exact h8) (by rw [hx]; show sf.wait ++ _ = _; rw [h9]; rfl) (by rw [hx1]; exact h.close.1) (by rw [hx1]; exact hc)
  obtain ⟨y, hy⟩ : ∃ y, y = x.shut 999 [⟨3, 1200, [], 0, []⟩] x.t := ⟨_, rfl⟩
  have hy1 : y.at' = 2 + m + 1 := by rw [hy]; show x.at' + 1 = _; rw [hx1]
  have hyt : y.t = x.t := by rw [hy]; rfl
  rw [← hy] at e2
  obtain ⟨z, hzz⟩ : ∃ z : RdS, z = (({ y with wait := [], most := 1200 } : RdS).go 1).again ⟨4, 1200, [], 0, [y.t]⟩ 999 := ⟨_, rfl⟩
  have hz1 : z.at' = 2 + m + 1 + 1 := by rw [hzz]; show y.at' + 1 = _; rw [hy1]
  have e3 : endF o ts2 y = endF o ts2 z := by
    have hk : (peekF ts2 y.at').kind = 6 := by rw [hy1]; exact hb.1
    have hk2 : (peekF ts2 y.at').s = [124] := by rw [hy1]; exact hb.2
    refine on_end (back_round (by rw [hy]; rfl) (op_punct hk (by rw [hk2]; decide)) (f := ⟨3, 1200, [], 0, []⟩) (r := []) (by rw [hy]; rfl) ?_)
    unfold backF backG
    rw [if_neg (by decide), if_neg (by decide), if_neg (by decide), if_neg (by decide), if_neg (by decide), if_pos rfl]
    dsimp only
    rw [isP_not hk2 (by decide), if_neg (by decide), if_pos (isP_of hk hk2), hzz]
    rfl
  obtain ⟨v, hv⟩ : ∃ v : RdS, v = (z.go 1).done (atomT [116]) 0 := ⟨_, rfl⟩
  have hv1 : v.at' = 2 + m + 1 + 1 + 1 := by rw [hv]; show z.at' + 1 = _; rw [hz1]
  have e4 : endF o ts2 z = endF o ts2 v := by
    refine on_end ?_
    unfold roundF
    rw [if_pos (show z.hv = false by rw [hzz]; rfl)]
    unfold primaryF
    dsimp only
    rw [hz1, ha.1]
    rw [if_neg (by decide), if_neg (by decide), if_neg (by decide), if_neg (by decide), if_pos (.inl rfl)]
    unfold atomF
    dsimp only
    rw [ha.2.1, ha.2.2, if_neg (by rintro ⟨_, h, _⟩; exact absurd h (by decide)), if_neg (by decide), if_neg (by omega), hv]
    rfl
  have e5 : endF o ts2 v = endF o ts2 (v.shut 1200 [] (compT [46] [y.t, atomT [116]])) := by
    have hk : (peekF ts2 v.at').kind = 6 := by rw [hv1]; exact hq.1
    have hk2 : (peekF ts2 v.at').s = [93] := by rw [hv1]; exact hq.2
    refine on_end (back_round (by rw [hv]; rfl) (op_punct hk (by rw [hk2]; decide)) (f := ⟨4, 1200, [], 0, [y.t]⟩) (r := []) (by rw [hv, hzz]; rfl) ?_)
    unfold backF backG
    rw [if_neg (show ¬ (4 : Int) = 0 by decide), if_neg (show ¬ (4 : Int) = 1 by decide), if_neg (show ¬ (4 : Int) = 5 by decide), if_neg (show ¬ (4 : Int) = 6 by decide), if_neg (show ¬ (4 : Int) = 2 by decide), if_neg (show ¬ (4 : Int) = 3 by decide), if_pos rfl]
    unfold RdS.expect
    rw [if_pos (isP_of hk hk2)]
    rw [hv]
    rfl
  have e6 := fin_end (o := o) (stop_round (ts := ts2) (s := v.shut 1200 [] (compT [46] [y.t, atomT [116]])) rfl rfl (by show (peekF ts2 (v.at' + 1)).kind = 7; rw [hv1]; exact hz))
  refine ⟨_, read_mk (sf := v.shut 1200 [] (compT [46] [y.t, atomT [116]])) hlen (by show (peekF ts2 0).kind ≠ 0; rw [h0.1]; decide) (by rw [e0, e1, h7, e2, e3, e4, e5, e6]) ?_ ?_ ?_, by show compT [46] [y.t, atomT [116]] = _; rw [hyt, ht], ?_⟩
  · show (compT [46] [y.t, atomT [116]]).may = true
    rw [hyt, ht]
    simp [compT, atomT, Tm.may, Tm.mays, mayP, h4]
  · show (compT [46] [y.t, atomT [116]]).deep ≤ 2000
    rw [hyt, ht]
    simp [compT, atomT, Tm.deep, Tm.deeps]
    omega
  · show (compT [46] [y.t, atomT [116]]).size ≤ 20000
    rw [hyt, ht]
    simp [compT, atomT, Tm.size, Tm.sizes]
    omega
  · show ((v.at' + 1 : Nat) : Int) + 1 = _
    rw [hv1]
    omega
end
end Go.Proofs.YtmgidfndifhcoaaDoor
/-
  What is lexed with a dot behind its last newline is lexed without it. Plain laws; no condition.
-/
namespace Go.Proofs.YtmgidfndifhcoaaDoor

theorem codedF_dot (base : Nat) (hb : base ≤ 16) : ∀ (l : List UInt8) (n i : Nat), (codedF base (l ++ [46]) n i).2.2 = true → (codedF base l n i).2.2 = true
  | [], n, i, h => by
    rw [List.nil_append] at h
    unfold codedF at h
    rw [if_neg (by decide), if_pos (by have : hexVal 46 = 16 ∨ 16 ≤ hexVal 46 := by decide
                                       omega)] at h
    cases h
  | c :: r, n, i, h => by
    rw [List.cons_append] at h
    unfold codedF at h ⊢
    by_cases h1 : c = 92
    · rw [if_pos h1] at h
      rw [if_pos h1]
      exact h
    · rw [if_neg h1] at h
      rw [if_neg h1]
      by_cases h2 : base ≤ hexVal c
      · rw [if_pos h2] at h; cases h
      · rw [if_neg h2] at h
        rw [if_neg h2]
        by_cases h3 : 255 < n * base + hexVal c
        · rw [if_pos h3] at h; cases h
        · rw [if_neg h3] at h
          rw [if_neg h3]
          exact codedF_dot base hb r _ _ h
theorem escapeF_dot {r : List UInt8} (hr : Ends r) (h : (escapeF (r ++ [46])).2.2 = true) : (escapeF r).2.2 = true := by
  cases r with
  | nil => exact absurd rfl hr.ne
  | cons c r =>
    rw [List.cons_append] at h
    rw [escapeF_cons] at h ⊢
    cases hk : escKnown c with
    | some n => rfl
    | none =>
      rw [hk] at h
      simp only at h ⊢
      by_cases h1 : c = 120
      · rw [if_pos h1] at h
        rw [if_pos h1]
        exact codedF_dot 16 (by omega) r 0 0 h
      · rw [if_neg h1] at h
        rw [if_neg h1]
        by_cases hr0 : r = []
        · subst hr0
          rw [hr.one] at h ⊢
          revert h
          decide +kernel
        · rw [headD_app hr0] at h
          by_cases h2 : c = 48 ∧ (r = [] ∨ (isOct (r.headD 0) = false ∧ r.headD 0 ≠ 92))
          · rw [if_pos h2]
          · rw [if_neg h2]
            rw [if_neg (by
              rintro ⟨a1, a2 | a2⟩
              · simp at a2
              · exact h2 ⟨a1, .inr a2⟩)] at h
            by_cases h3 : isOct c = true
            · rw [if_pos h3] at h
              rw [if_pos h3]
              exact codedF_dot 8 (by omega) (c :: r) 0 0 h
            · rw [if_neg h3] at h
              cases h
theorem getF_dot (q : UInt8) (hq : q ≠ 46) (hq2 : q ≠ 10) : ∀ (f : Nat) (l : List UInt8) (i : Nat) (acc : List UInt8), (l = [] ∨ Ends l) → l.length ≤ f → getF q (f + 1) (l ++ [46]) i acc ≠ none → getF q f l i acc ≠ none := by
  intro f
  induction f with
  | zero =>
    intro l i acc hl hf h
    obtain rfl : l = [] := List.eq_nil_of_length_eq_zero (by omega)
    refine absurd ?_ h
    simp only [List.nil_append, getF]
    rw [if_neg (Ne.symm hq), if_neg (by decide), if_pos (by decide)]
  | succ f ih =>
    intro l i acc hl hf h
    cases l with
    | nil =>
      refine absurd ?_ h
      rw [List.nil_append]
      simp only [getF]
      rw [if_neg (Ne.symm hq), if_neg (by decide), if_pos (by decide)]
    | cons c r =>
      have hl : Ends (c :: r) := hl.resolve_left (by simp)
      rw [List.length_cons] at hf
      have hE : r = [] ∨ Ends r := by
        rcases Classical.em (r = []) with e | e
        · exact .inl e
        · exact .inr (hl.tail e)
      have step : ∀ (k i' : Nat) (acc' : List UInt8), k ≤ r.length → getF q (f + 1) ((r ++ [46]).drop k) i' acc' ≠ none → getF q f (r.drop k) i' acc' ≠ none := fun k i' acc' hk hh => by
        rw [List.drop_append_of_le_length hk] at hh
        refine ih (r.drop k) i' acc' ?_ (by rw [List.length_drop]; omega) hh
        rcases Nat.lt_or_ge k r.length with h1 | h1
        · rcases hE with e | e
          · rw [e] at h1; simp at h1
          · exact .inr (e.drop k h1)
        · exact .inl (List.drop_eq_nil_of_le h1)
      rw [List.cons_append] at h
      simp only [getF] at h ⊢
      by_cases h1 : c = q
      · have hr : r ≠ [] := by rintro rfl; exact hq2 (h1.symm.trans hl.one)
        have hrl : 0 < r.length := List.length_pos_iff.2 hr
        rw [if_pos h1] at h
        rw [if_pos h1]
        rw [head_app hr] at h
        by_cases h2 : r.head? = some q
        · rw [if_pos h2] at h
          rw [if_pos h2]
          rw [← List.drop_one] at h ⊢
          exact step 1 _ _ hrl h
        · rw [if_neg h2]
          exact fun e => by cases e
      · rw [if_neg h1] at h
        rw [if_neg h1]
        by_cases h2 : c = 10
        · rw [if_pos h2] at h
          exact absurd rfl h
        · rw [if_neg h2] at h
          rw [if_neg h2]
          have hr : r ≠ [] := by rintro rfl; exact h2 hl.one
          have hrl : 0 < r.length := List.length_pos_iff.2 hr
          by_cases h3 : c ≠ 92
          · rw [if_pos h3] at h
            rw [if_pos h3]
            have := step 0 (i + 1) (acc ++ [c]) (Nat.zero_le _)
            rw [List.drop_zero, List.drop_zero] at this
            exact this h
          · rw [if_neg h3] at h
            rw [if_neg h3]
            rw [if_neg (by simp), head_app hr] at h
            rw [if_neg hr]
            by_cases h4 : r.head? = some 10
            · rw [if_pos h4] at h
              rw [if_pos h4]
              rw [← List.drop_one] at h ⊢
              exact step 1 _ _ hrl h
            · rw [if_neg h4] at h
              rw [if_neg h4]
              by_cases h5 : (escapeF (r ++ [46])).2.2 = true
              · have hEr := hE.resolve_left hr
                have h6 := escapeF_dot hEr h5
                have h7 := escapeF_app [46] hEr h6
                rw [if_pos h5, h7] at h
                rw [if_pos h6]
                rcases Nat.lt_or_ge r.length (escapeF r).2.1 with h8 | h8
                · refine absurd ?_ h
                  rw [List.drop_eq_nil_of_le (by rw [List.length_append]; simp; omega)]
                  cases f <;> rfl
                · exact step _ _ _ h8 h
              · rw [if_neg h5] at h
                exact absurd rfl h
theorem getQ_dot {q : UInt8} (hq : q ≠ 46) (hq2 : q ≠ 10) {l : List UInt8} (hl : Ends l) : getQ q (l ++ [46]) = getQ q l := by
  cases h : getQ q l with
  | some x => exact (getQ_app hq2 [46] hl (t := x.1) (n := x.2) h).1
  | none =>
    cases h2 : getQ q (l ++ [46]) with
    | none => rfl
    | some y =>
      refine absurd h ?_
      unfold getQ at h2 ⊢
      refine getF_dot q hq hq2 l.length l 0 [] (.inr hl) (Nat.le_refl _) ?_
      rw [List.length_append] at h2
      simp only [List.length_cons, List.length_nil] at h2
      rw [h2]
      exact fun e => by cases e
theorem digitsF_dot (base : Nat) (hb : base ≤ 36) {l : List UInt8} (frm : Nat) (hf : frm < l.length) (hl : Ends l) : digitsF base (l ++ [46]) frm = digitsF base l frm := by
  unfold digitsF
  simp only
  have hd := hl.drop frm hf
  have hlt := spanN_lt (fun c => decide (digVal c < base)) (by have : digVal 10 = 36 := by decide
                                                               simp [this]; omega) _ hd
  rw [List.drop_append_of_le_length (by omega), spanN_app _ [46] _ hlt, List.take_append_of_le_length (by omega)]
theorem charF_dot {l : List UInt8} (hl : Ends l) (h3 : 2 < l.length) : charF (l ++ [46]) = charF l := by
  match l, h3 with
  | c0 :: c1 :: c :: r, _ =>
    simp only [List.cons_append, charF, charAt2]
    by_cases h1 : c = 10
    · rw [if_pos h1, if_pos h1]
    · rw [if_neg h1, if_neg h1]
      have hr : r ≠ [] := by
        rintro rfl
        exact h1 (((hl.tail (by simp)).tail (by simp)).one)
      obtain ⟨d, r, rfl⟩ := List.exists_cons_of_ne_nil hr
      rfl
theorem numberF_dot {l : List UInt8} (hl : Ends l) : numberF (l ++ [46]) = numberF l := by
  match l with
  | [] => exact absurd rfl hl.ne
  | [c] =>
    rw [hl.one]
    decide +kernel
  | c :: d :: r =>
    have h2 : (d = 120 ∨ d = 111 ∨ d = 98 ∨ d = 39) → 2 < (c :: d :: r).length := fun hd => by
      have hr : r ≠ [] := by
        rintro rfl
        have := (hl.tail (by simp)).one
        subst this
        revert hd
        decide
      have := List.length_pos_iff.2 hr
      simp only [List.length_cons]
      omega
    unfold numberF
    rw [head_app (show c :: d :: r ≠ [] by simp), tail_app (show c :: d :: r ≠ [] by simp), head_app (show (c :: d :: r).tail ≠ [] by simp)]
    split
    · rename_i h
      exact digitsF_dot 16 (by omega) 2 (h2 (.inl (Option.some.inj h.2))) hl
    · split
      · rename_i h
        exact digitsF_dot 8 (by omega) 2 (h2 (.inr (.inl (Option.some.inj h.2)))) hl
      · split
        · rename_i h
          exact digitsF_dot 2 (by omega) 2 (h2 (.inr (.inr (.inl (Option.some.inj h.2))))) hl
        · split
          · rename_i h
            exact charF_dot hl (h2 (.inr (.inr (.inr (Option.some.inj h.2)))))
          · exact digitsF_dot 10 (by omega) 0 (by simp) hl
theorem tokF_dot {u : List UInt8} (hu : Ends u) : tokF (u ++ [46]) = tokF u := by
  cases u with
  | nil => exact absurd rfl hu.ne
  | cons c r =>
    by_cases hr : r = []
    · subst hr
      rw [hu.one, show tokF ([10] ++ [46]) = none from Option.isNone_iff_eq_none.1 (by decide +kernel), show tokF [10] = none from Option.isNone_iff_eq_none.1 (by decide +kernel)]
    · have hE := hu.tail hr
      have hw := spanN_app isWord [46] _ (spanN_lt isWord (by decide +kernel) _ hu)
      have hs := spanN_app isSign [46] _ (spanN_lt isSign (by decide +kernel) _ hu)
      have hwl := spanN_le isWord (c :: r)
      have hsl := spanN_le isSign (c :: r)
      have hn := numberF_dot hu
      rw [List.cons_append] at hw hs hn ⊢
      unfold tokF
      simp only
      rw [hw, hs, hn, headD_app hr, getQ_dot (by decide) (by decide) hE, getQ_dot (by decide) (by decide) hE, ← List.cons_append, List.take_append_of_le_length hwl, List.take_append_of_le_length hsl]
      have e : (r ++ [46] = []) ↔ (r = []) := by simp [hr]
      simp only [e]
theorem endOf_dot : ∀ l : List UInt8, endOf l = none → endOf (l ++ [46]) = none
  | [], _ => by decide +kernel
  | c :: r, h => by
    rw [List.cons_append]
    unfold endOf at h ⊢
    by_cases h1 : c = 42 ∧ r.head? = some 47
    · rw [if_pos h1] at h; cases h
    · rw [if_neg h1] at h
      rw [if_neg (by
        rintro ⟨a1, a2⟩
        by_cases hr : r = []
        · subst hr
          revert a2
          decide
        · rw [head_app hr] at a2
          exact h1 ⟨a1, a2⟩)]
      have : endOf r = none := by simpa using h
      rw [endOf_dot r this]
      rfl
theorem skipF_dot : ∀ (f : Nat) (u : List UInt8), (u = [] ∨ Ends u) → u.length ≤ f → (skipF (f + 1) (u ++ [46])).2 = true → (skipF f u).2 = true := by
  intro f
  induction f with
  | zero =>
    intro u hu hf h
    rfl
  | succ f ih =>
    intro u hu hf h
    cases u with
    | nil => rfl
    | cons c r =>
      have hu : Ends (c :: r) := hu.resolve_left (by simp)
      rw [List.length_cons] at hf
      have hE : r = [] ∨ Ends r := by
        rcases Classical.em (r = []) with e | e
        · exact .inl e
        · exact .inr (hu.tail e)
      rw [List.cons_append, skipF_cons] at h
      rw [skipF_cons]
      by_cases h1 : bsort c = 1
      · rw [if_pos h1] at h
        rw [if_pos h1]
        exact ih r hE (by omega) h
      · rw [if_neg h1] at h
        rw [if_neg h1]
        have hne : r ≠ [] := by
          rintro rfl
          rw [hu.one] at h1
          exact h1 (by decide +kernel)
        have hr := hu.tail hne
        by_cases h2 : c = 37
        · rw [if_pos h2] at h
          rw [if_pos h2]
          have hlt := spanN_lt (fun c => decide (c ≠ 10)) (by decide) r hr
          rw [spanN_app _ [46] r hlt, List.drop_append_of_le_length (by omega)] at h
          exact ih _ (.inr (hr.drop _ hlt)) (by rw [List.length_drop]; omega) h
        · rw [if_neg h2] at h
          rw [if_neg h2]
          rw [head_app hne] at h
          by_cases h3 : c = 47 ∧ r.head? = some 42
          · rw [if_pos h3] at h
            rw [if_pos h3]
            rw [tail_app hne] at h
            cases he : endOf r.tail with
            | none =>
              rw [endOf_dot _ he] at h
              cases h
            | some n =>
              rw [endOf_app [46] _ _ he] at h
              simp only at h ⊢
              have hle := endOf_le _ _ he
              rw [List.drop_append_of_le_length (by omega)] at h
              refine ih _ ?_ (by rw [List.length_drop, List.length_tail]; omega) h
              rcases Nat.lt_or_ge (n + 2) r.tail.length with hl | hl
              · rw [← List.drop_one] at hl ⊢
                right
                rw [List.drop_drop]
                exact hr.drop _ (by rw [List.length_drop] at hl; omega)
              · exact .inl (List.drop_eq_nil_of_le hl)
          · rw [if_neg h3]
/-- What is lexed with a dot behind it is lexed without it. -/
theorem lexF_dot : ∀ (f : Nat) (u : List UInt8) (line : Nat) (first : Bool), Ends u → u.length < f → (lexF (f + 1) (u ++ [46]) line first).2.2 = 0 → ∀ line2, ∃ ts ln, lexF f u line2 first = (ts, ln, 0) := by
  intro f
  induction f with
  | zero => intro u line first _ hf; omega
  | succ f ih =>
    intro u line first hu hf h line2
    rw [lexF_step _ (u ++ [46]) _ _ (by rw [List.length_append]; simp; omega)] at h
    rw [lexF_step _ u _ _ hf]
    by_cases h1 : (skipB (u ++ [46])).2 = false
    · rw [if_pos h1] at h
      cases h
    rw [if_neg h1] at h
    have h1' : (skipB u).2 = true := by
      unfold skipB at h1 ⊢
      rw [List.length_append] at h1
      exact skipF_dot u.length u (.inr hu) (Nat.le_refl _) (by simpa using h1)
    rw [if_neg (by rw [h1']; decide)]
    by_cases h2 : (skipB u).1 = []
    · rw [if_pos h2]
      exact ⟨_, _, rfl⟩
    · rw [if_neg h2]
      obtain ⟨k, hk, hkl⟩ := skipB_drop u
      have hkk : k < u.length := by
        rcases Nat.lt_or_ge k u.length with hl | hl
        · exact hl
        · exact absurd (by rw [hk, List.drop_eq_nil_of_le hl]) h2
      have hE : Ends (skipB u).1 := by rw [hk]; exact hu.drop k hkk
      have happ : skipB (u ++ [46]) = ((skipB u).1 ++ [46], true) := by rw [skipB_app [46] hu h1']; unfold behind; rw [if_neg h2]
      rw [happ] at h
      simp only at h
      rw [if_neg (by simp), tokF_dot hE] at h
      cases ht : tokF (skipB u).1 with
      | none => rw [ht] at h; cases h
      | some t =>
        rw [ht] at h
        simp only at h ⊢
        obtain ⟨_, hlt⟩ := tokF_app [46] hE ht
        have hpos := tokF_pos ht
        have hsl := skipB_len u
        rw [List.drop_append_of_le_length (by omega)] at h
        have hE2 := hE.drop _ hlt
        rw [lexF_fuel (f + 1 + 1) (f + 1) _ _ _ (by rw [List.length_append, List.length_drop]; simp; omega) (by rw [List.length_append, List.length_drop]; simp; omega)] at h
        obtain ⟨ts, ln, he⟩ := ih _ _ _ hE2 (by rw [List.length_drop]; omega) h (line2 + lines (u.take (u.length - (skipB u).1.length)) + lines ((skipB u).1.take t.len))
        rw [lexF_fuel (f + 1) f _ _ _ (by rw [List.length_drop]; omega) (by rw [List.length_drop]; omega), he]
        exact ⟨_, _, rfl⟩
end Go.Proofs.YtmgidfndifhcoaaDoor
/-
  The tokens of a text in brackets, told by the text's own. Plain laws; no condition.
-/
namespace Go.Proofs.YtmgidfndifhcoaaDoor

/-- The same tokens, but for what stands right ahead of the first, and lines. -/
def sameT (l r : List Tok) : Prop := r.length = l.length ∧ ∀ i, i < l.length → (peekF l i).alike (peekF r i) ∧ (0 < i → (peekF r i).tight = (peekF l i).tight)
theorem alike_refl (t : Tok) : t.alike t := ⟨rfl, rfl, rfl, rfl⟩
theorem peek_zero (t : Tok) (r : List Tok) : peekF (t :: r) 0 = t := rfl
theorem peek_succ (t : Tok) (r : List Tok) (i : Nat) : peekF (t :: r) (i + 1) = peekF r i := rfl
theorem peek_app (l r : List Tok) (i : Nat) : peekF (l ++ r) (l.length + i) = peekF r i := by
  unfold peekF
  rw [List.getD_eq_getElem?_getD, List.getD_eq_getElem?_getD, List.getElem?_append_right (by omega), Nat.add_sub_cancel_left]
theorem peek_in (l r : List Tok) (i : Nat) (h : i < l.length) : peekF (l ++ r) i = peekF l i := by
  unfold peekF
  rw [List.getD_eq_getElem?_getD, List.getD_eq_getElem?_getD, List.getElem?_append_left h]
/-- What stands ahead of the text turns the first token alone. -/
theorem lexF_first (f : Nat) (u : List UInt8) (line : Nat) : sameT (lexF f u line true).1 (lexF f u line false).1 ∧ (lexF f u line true).2 = (lexF f u line false).2 := by
  cases f with
  | zero => exact ⟨⟨rfl, fun i h => by simp [lexF] at h⟩, rfl⟩
  | succ f =>
    simp only [lexF]
    split
    · exact ⟨⟨rfl, fun i h => by simp at h⟩, rfl⟩
    · split
      · exact ⟨⟨rfl, fun i _ => ⟨alike_refl _, fun _ => rfl⟩⟩, rfl⟩
      · cases tokF (skipB u).1 with
        | none => exact ⟨⟨rfl, fun i h => by simp at h⟩, rfl⟩
        | some t =>
          simp only
          refine ⟨⟨rfl, fun i _ => ?_⟩, by first | trivial | rfl | (split <;> rfl)⟩
          cases i with
          | zero => exact ⟨⟨rfl, rfl, rfl, rfl⟩, fun h => absurd h (Nat.lt_irrefl _)⟩
          | succ i => exact ⟨alike_refl _, fun _ => rfl⟩
/-- A text's tokens, a dot behind its last newline, and any other ending in the dot's place, with something ahead. -/
theorem lex_swap {u : List UInt8} (hu : Ends u) {ts1 : List Tok} {ln : Int} (h : lexB (u ++ [46]) = (ts1, ln, 0)) (Z : List UInt8) :
    ∃ X X' : List Tok, ts1 = X ++ [⟨7, ((1 + lines u : Nat) : Int), 0, [], false, false⟩, endTok (1 + lines u)] ∧ sameT X X' ∧
      ∀ f, u.length + Z.length < f → lexF f (u ++ Z) 1 false = (X' ++ (lexF (Z.length + 1) Z (1 + lines u) true).1, (lexF (Z.length + 1) Z (1 + lines u) true).2) := by
  have h0 : (lexF (u.length + 1 + 1) (u ++ [46]) 1 true).2.2 = 0 := by
    have := congrArg (fun x => x.2.2) h
    unfold lexB at this
    rw [List.length_append] at this
    exact this
  obtain ⟨t1, l1, e1⟩ := lexF_dot (u.length + 1) u 1 true hu (by omega) h0 1
  obtain ⟨X, hX, e2⟩ := lex_app [46] (u.length + 1) u 1 true t1 l1 hu (by omega) e1
  obtain ⟨hs, hs2⟩ := lexF_first (u.length + 1) u 1
  have e3 : lexF (u.length + 1) u 1 false = ((lexF (u.length + 1) u 1 false).1, l1, 0) := by
    rw [e1] at hs2
    exact Prod.ext rfl hs2.symm
  obtain ⟨X', hX', e4⟩ := lex_app Z (u.length + 1) u 1 false _ l1 hu (by omega) e3
  rw [e1, hX, hX'] at hs
  refine ⟨X, X', ?_, ?_, fun f hf => ?_⟩
  · have e5 : lexB (u ++ [46]) = lexF (u.length + 1 + 1) (u ++ [46]) 1 true := by
      unfold lexB
      rw [List.length_append]
      rfl
    have h := e2.symm.trans (e5.symm.trans h)
    have e6 : ∀ L : Nat, (lexF 2 [46] L true).1 = [⟨7, (L : Int), 0, [], false, false⟩, endTok L] := fun L => rfl
    have h2 : ts1 = X ++ (lexF 2 [46] (1 + lines u) true).1 := (congrArg Prod.fst h).symm
    rw [h2, e6]
  · have hlen : X'.length = X.length := by
      have := hs.1
      simp only [List.length_append, List.length_cons, List.length_nil] at this
      omega
    refine ⟨hlen, fun i hi => ?_⟩
    have := hs.2 i (by rw [List.length_append]; omega)
    rw [peek_in _ _ _ hi, peek_in _ _ _ (by omega)] at this
    exact this
  · rw [lexF_fuel f (u.length + 1 + Z.length) _ _ _ (by rw [List.length_append]; exact hf) (by rw [List.length_append]; omega)]
    exact e4
/-- One mark, and what is behind it. -/
theorem lexB_cons (c : UInt8) (r : List UInt8) (f line : Nat) (first : Bool) (t : TokIs) (hf : r.length + 1 < f) (hb : bsort c ≠ 1) (h1 : c ≠ 37) (h2 : c ≠ 47) (ht : tokF (c :: r) = some t) (hl : t.len = 1) (hc : c ≠ 10) :
    lexF f (c :: r) line first = (⟨t.kind, (line : Int), t.n, t.s, decide (r.head? = some 40), !first⟩ :: (lexF f r line false).1, (lexF f r line false).2) := by
  have hs : skipB (c :: r) = (c :: r, true) := by
    unfold skipB
    rw [List.length_cons, skipF_cons, if_neg hb, if_neg h1, if_neg (fun h => h2 h.1)]
  rw [lexF_step f (c :: r) line first (by rw [List.length_cons]; omega), hs]
  simp only
  rw [if_neg (by decide), if_neg (by simp), ht]
  simp only
  rw [hl]
  simp only [Nat.sub_self, List.take_zero, List.drop_succ_cons, List.drop_zero, List.take_succ_cons]
  have e1 : lines ([] : List UInt8) = 0 := rfl
  have e2 : lines [c] = 0 := by unfold lines; rw [List.count_cons]; simp [hc]
  rw [e1, e2]
  simp
end Go.Proofs.YtmgidfndifhcoaaDoor
