import Derived.Test.YtmgidfndifhcoaaDoorJReadBrackets18
import Derived.Test.YtmgidfndifhcoaaDoorJReadBrackets23
import Derived.Test.YtmgidfndifhcoaaDoorJReadBrackets01
/-
  How deep a term may be that is read: no deeper than its tokens say. Plain laws; no condition.
-/
namespace Go.Proofs.YtmgidfndifhcoaaDoor

theorem deeps_append : ∀ l r : List Tm, Tm.deeps (l ++ r) = max (Tm.deeps l) (Tm.deeps r)
  | [], r => by simp [Tm.deeps]
  | t :: l, r => by rw [List.cons_append, Tm.deeps, Tm.deeps, deeps_append l r]; omega
theorem deeps_one (t : Tm) : Tm.deeps [t] = t.deep := by simp [Tm.deeps]
theorem deep_comp (s : List UInt8) (l : List Tm) : (compT s l).deep = 1 + Tm.deeps l := rfl
theorem deep_list : ∀ (l : List Tm) (t : Tm), (listT l t).deep ≤ l.length + max (Tm.deeps l) t.deep
  | [], t => by simp [listT, Tm.deeps]
  | x :: l, t => by
    have := deep_list l t
    rw [show listT (x :: l) t = compT [46] [x, listT l t] from rfl, deep_comp, Tm.deeps, deeps_one, Tm.deeps, List.length_cons]
    omega
theorem deeps_ints : ∀ s : List UInt8, Tm.deeps (s.map fun c => intT c.toNat) ≤ 1
  | [] => by simp [Tm.deeps]
  | c :: s => by
    have := deeps_ints s
    rw [List.map_cons, Tm.deeps, show (intT (c.toNat : Int)).deep = 1 from rfl]
    omega
def dpW : List WaitF → Nat
  | [] => 0
  | f :: r => 1 + (Tm.deeps f.l + f.l.length) + dpW r
def RdS.dp (s : RdS) : Nat := (if s.hv = true then s.t.deep else 0) + dpW s.wait
/-- What tokens bear. -/
def vod (ts : List Tok) (n : Nat) : Nat := ((ts.take n).map fun t => 2 + t.s.length).sum
theorem vod_one {ts : List Tok} {n : Nat} (h : n < ts.length) : vod ts (n + 1) = vod ts n + (2 + (peekF ts n).s.length) := by
  unfold vod peekF
  rw [List.take_succ_eq_append_getElem h, List.map_append, List.sum_append, List.getD_eq_getElem?_getD, List.getElem?_eq_getElem h]
  simp
theorem vod_two {ts : List Tok} {n : Nat} (h : n + 1 < ts.length) : vod ts n + 4 ≤ vod ts (n + 2) := by
  rw [vod_one h, vod_one (show n < ts.length by omega)]
  omega
theorem vod_le1 {ts : List Tok} {n : Nat} (h : n < ts.length) : vod ts n + 2 ≤ vod ts (n + 1) := by
  rw [vod_one h]
  omega
/-- A round takes no more than the tokens that it goes over. -/
def PaysD (ts : List Tok) (p a : Nat) (s' : RdS) : Prop := s'.dp + vod ts a ≤ p + vod ts s'.at'
section
variable {o : OpsF} {ts : List Tok} {s s' : RdS}
theorem dp_done (s : RdS) (t : Tm) (p : Int) : (s.done t p).dp = t.deep + dpW s.wait := rfl
theorem dp_await (s : RdS) (f : WaitF) (m : Int) : (s.await f m).dp = 0 + (1 + (Tm.deeps f.l + f.l.length) + dpW s.wait) := rfl
theorem dp_again (s : RdS) (f : WaitF) (m : Int) : (s.again f m).dp = 0 + (1 + (Tm.deeps f.l + f.l.length) + dpW s.wait) := rfl
theorem args_paysD {n : List UInt8} (h : argsF ts s n = .ok s') : PaysD ts (dpW s.wait) s.at' s' := by
  obtain ⟨rfl, h2⟩ := args_ok h
  unfold PaysD
  rw [dp_await]
  have := vod_le1 h2
  simp only [Tm.deeps, List.length_nil]
  show _ ≤ _ + vod ts (s.at' + 1)
  rw [go_wait]
  omega
theorem pair_paysD {c : UInt8} (hl : s.at' + 1 < ts.length) (h : pairF ts s c = .ok s') : PaysD ts (dpW s.wait) s.at' s' := by
  unfold pairF at h
  dsimp only at h
  have h2 := vod_two hl
  split at h
  · have := args_paysD h
    unfold PaysD at this ⊢
    rw [go_wait, go_at] at this
    omega
  · injection h with h
    subst h
    unfold PaysD
    rw [dp_done, go_wait]
    show _ ≤ _ + vod ts (s.at' + 2)
    have e : (atomT ((peekF ts s.at').s ++ [c])).deep = 1 := rfl
    rw [e]
    omega
theorem punct_paysD {x : List UInt8} (hl : s.at' < ts.length) (h : punctF ts s x = .ok s') : PaysD ts (dpW s.wait) s.at' s' := by
  have h1 := vod_le1 hl
  have aw : ∀ (f : WaitF) (m : Int), f.l = [] → PaysD ts (dpW s.wait) s.at' ((s.go 1).await f m) := fun f m hf => by
    unfold PaysD
    rw [dp_await, hf, go_wait]
    show _ ≤ _ + vod ts (s.at' + 1)
    simp only [Tm.deeps, List.length_nil]
    omega
  unfold punctF at h
  split at h
  · injection h with h
    subst h
    exact aw _ _ rfl
  · split at h
    · split at h
      · rename_i hp
        exact pair_paysD (isP_lt hp) h
      · injection h with h
        subst h
        exact aw _ _ rfl
    · split at h
      · split at h
        · rename_i hp
          exact pair_paysD (isP_lt hp) h
        · injection h with h
          subst h
          exact aw _ _ rfl
      · cases h
theorem atom_paysD {t : Tok} (hl : s.at' < ts.length) (h : atomF o ts s t = .ok s') : PaysD ts (dpW s.wait) s.at' s' := by
  have h1 := vod_le1 hl
  unfold atomF at h
  dsimp only at h
  split at h
  · rename_i hc
    have h2 := vod_two (show s.at' + 1 < ts.length from peek_lt (by rw [hc.2.2.1]; decide))
    injection h with h
    subst h
    unfold PaysD
    rw [dp_done, go_wait]
    show _ ≤ _ + vod ts (s.at' + 2)
    have e : (intT (negI (peekF ts (s.at' + 1)).n)).deep = 1 := rfl
    rw [e]
    omega
  · split at h
    · have := args_paysD h
      unfold PaysD at this ⊢
      rw [go_wait, go_at] at this
      omega
    · split at h
      · injection h with h
        subst h
        unfold PaysD
        rw [dp_await, go_wait]
        show _ ≤ _ + vod ts (s.at' + 1)
        simp only [Tm.deeps, List.length_nil]
        omega
      · injection h with h
        subst h
        unfold PaysD
        rw [dp_done, go_wait]
        show _ ≤ _ + vod ts (s.at' + 1)
        have e : (atomT t.s).deep = 1 := rfl
        rw [e]
        omega
theorem primary_paysD (h : primaryF o ts s = .ok s') : PaysD ts (dpW s.wait) s.at' s' := by
  unfold primaryF at h
  dsimp only at h
  split at h
  · rename_i hk
    have h1 := vod_le1 (show s.at' < ts.length from peek_lt (by rw [hk]; decide))
    split at h
    · cases h
    · injection h with h
      subst h
      unfold PaysD
      rw [dp_done, go_wait]
      show _ ≤ _ + vod ts (s.at' + 1)
      have e : (intT (peekF ts s.at').n).deep = 1 := rfl
      rw [e]
      omega
  · split at h
    · rename_i hk
      have h1 := vod_le1 (show s.at' < ts.length from peek_lt (by rw [hk]; decide))
      injection h with h
      subst h
      obtain ⟨g1, g2, g3⟩ := var_at (s.go 1) (peekF ts s.at').s
      have e : (varF (s.go 1) (peekF ts s.at').s).t.deep = 1 := by
        unfold varF
        split
        · rfl
        · dsimp only
          split <;> rfl
      unfold PaysD RdS.dp
      rw [g1, g2, g3, if_pos rfl, e, go_wait, go_at]
      omega
    · split at h
      · rename_i hk
        have h1 := vod_one (show s.at' < ts.length from peek_lt (by rw [hk]; decide))
        injection h with h
        subst h
        unfold PaysD
        rw [dp_done, go_wait]
        show _ ≤ _ + vod ts (s.at' + 1)
        have e1 := deep_list ((peekF ts s.at').s.map fun c => intT c.toNat) nilT
        have e2 := deeps_ints (peekF ts s.at').s
        rw [List.length_map] at e1
        have e : nilT.deep = 1 := rfl
        omega
      · split at h
        · rename_i hk
          exact punct_paysD (peek_lt (by rw [hk]; decide)) h
        · split at h
          · rename_i hk
            exact atom_paysD (peek_lt (by rcases hk with hk | hk <;> rw [hk] <;> decide)) h
          · cases h
theorem operator_paysD (h : operatorF o ts s = some s') : PaysD ts (s.t.deep + dpW s.wait) s.at' s' := by
  unfold operatorF at h
  dsimp only at h
  split at h
  · cases h
  · rename_i hk
    have hl : s.at' < ts.length := by
      by_cases h1 : (peekF ts s.at').kind = 1
      · exact peek_lt (by rw [h1]; decide)
      · by_cases h2 : (peekF ts s.at').kind = 2
        · exact peek_lt (by rw [h2]; decide)
        · cases h3 : isP ts s.at' 44 with
          | true => exact isP_lt h3
          | false => exact absurd ⟨h1, h2, h3⟩ hk
    have h1 := vod_le1 hl
    split at h
    · injection h with h
      subst h
      unfold PaysD
      rw [dp_await, go_wait]
      show _ ≤ _ + vod ts (s.at' + 1)
      simp only [deeps_one, List.length_cons, List.length_nil]
      omega
    · split at h
      · injection h with h
        subst h
        unfold PaysD
        rw [dp_done, go_wait, deep_comp, deeps_one]
        show _ ≤ _ + vod ts (s.at' + 1)
        omega
      · cases h
theorem backG_paysD {f : WaitF} (h : backG ts s f = .ok s') : PaysD ts (s.t.deep + (1 + (Tm.deeps f.l + f.l.length) + dpW s.wait)) s.at' s' := by
  have ex : ∀ (c : UInt8) (g : RdS → RdS) (k : Nat), (s.expect ts c).map g = .ok s' → (∀ x, (g x).at' = x.at') → (g (s.go 1)).dp ≤ k → k ≤ s.t.deep + (1 + (Tm.deeps f.l + f.l.length) + dpW s.wait) + 2 → PaysD ts (s.t.deep + (1 + (Tm.deeps f.l + f.l.length) + dpW s.wait)) s.at' s' := fun c g k h1 h2 h3 h4 => by
    obtain ⟨rfl, h5⟩ := expect_map h1
    have := vod_le1 h5
    unfold PaysD
    rw [h2]
    show _ ≤ _ + vod ts (s.at' + 1)
    omega
  have ag : ∀ (g : WaitF), s.at' < ts.length → g.l = f.l ++ [s.t] → s' = (s.go 1).again g 999 → PaysD ts (s.t.deep + (1 + (Tm.deeps f.l + f.l.length) + dpW s.wait)) s.at' s' := fun g h1 h2 h3 => by
    subst h3
    have := vod_le1 h1
    unfold PaysD
    rw [dp_again, h2, deeps_append, deeps_one, List.length_append, List.length_cons, List.length_nil, go_wait]
    show _ ≤ _ + vod ts (s.at' + 1)
    omega
  unfold backG at h
  split at h
  · exact ex 41 _ (s.t.deep + dpW s.wait) h (fun _ => rfl) (Nat.le_refl _) (by omega)
  · split at h
    · exact ex 125 _ (1 + s.t.deep + dpW s.wait) h (fun _ => rfl) (by rw [dp_done, deep_comp, deeps_one]; exact Nat.le_refl _) (by omega)
    · split at h
      · injection h with h
        subst h
        unfold PaysD
        rw [dp_done, deep_comp, deeps_one]
        show _ ≤ _ + vod ts s.at'
        omega
      · split at h
        · injection h with h
          subst h
          unfold PaysD
          rw [dp_done, deep_comp, deeps_append, deeps_one]
          show _ ≤ _ + vod ts s.at'
          omega
        · split at h
          · dsimp only at h
            split at h
            · rename_i hp
              injection h with h
              exact ag _ (isP_lt hp) rfl h.symm
            · exact ex 41 _ (1 + (Tm.deeps f.l + s.t.deep) + dpW s.wait) h (fun _ => rfl) (by rw [dp_done, deep_comp, deeps_append, deeps_one, go_wait]; omega) (by omega)
          · split at h
            · dsimp only at h
              split at h
              · rename_i hp
                injection h with h
                exact ag _ (isP_lt hp) rfl h.symm
              · split at h
                · rename_i hp
                  injection h with h
                  exact ag _ (isP_lt hp) rfl h.symm
                · exact ex 93 _ (Tm.deeps f.l + s.t.deep + (f.l.length + 1) + 1 + dpW s.wait) h (fun _ => rfl) (by
                    have e1 := deep_list (f.l ++ [s.t]) nilT
                    have e : nilT.deep = 1 := rfl
                    rw [deeps_append, deeps_one, List.length_append, e] at e1
                    simp only [List.length_cons, List.length_nil] at e1
                    rw [dp_done, go_wait]
                    omega) (by omega)
            · split at h
              · exact ex 93 _ (Tm.deeps f.l + f.l.length + s.t.deep + dpW s.wait) h (fun _ => rfl) (by
                  have e1 := deep_list f.l s.t
                  rw [dp_done, go_wait]
                  show (listT f.l s.t).deep + _ ≤ _
                  omega) (by omega)
              · injection h with h
                subst h
                unfold PaysD RdS.dp
                split <;> omega
theorem round_paysD (h : roundF o ts s = .on s') : s'.dp + vod ts s.at' ≤ s.dp + vod ts s'.at' := by
  unfold roundF at h
  split at h
  · rename_i hv
    cases hp : primaryF o ts s with
    | error a => rw [hp] at h; cases h
    | ok x =>
      rw [hp] at h
      injection h with h
      subst h
      have := primary_paysD hp
      unfold PaysD at this
      have hs : s.dp = 0 + dpW s.wait := by unfold RdS.dp; rw [if_neg (by rw [hv]; decide)]
      omega
  · rename_i hv
    have hs : s.dp = s.t.deep + dpW s.wait := by unfold RdS.dp; rw [if_pos (by simpa using hv)]
    split at h
    · rename_i x hx
      injection h with h
      subst h
      have := operator_paysD hx
      unfold PaysD at this
      omega
    · split at h
      · rename_i f r hw
        cases hb : backF ts s f r with
        | error a => rw [hb] at h; cases h
        | ok x =>
          rw [hb] at h
          injection h with h
          subst h
          have := backG_paysD (s := { s with wait := r, most := f.most }) hb
          unfold PaysD at this
          rw [hw] at hs
          simp only [dpW] at hs
          simp only at this
          omega
      · split at h
        · cases h
        · cases h
end
theorem end_paysD (o : OpsF) (ts : List Tok) : ∀ (n : Nat) (s sf : RdS), leftF ts s ≤ n → endF o ts s = .fin sf → sf.dp + vod ts s.at' ≤ s.dp + vod ts sf.at' ∧ sf.hv = true := by
  intro n
  induction n with
  | zero =>
    intro s sf hn he
    rw [end_step] at he
    cases hr : roundF o ts s with
    | on s1 => have := round_less hr; omega
    | bad a => rw [hr] at he; cases he
    | fin s1 =>
      rw [hr] at he
      have hx : s1 = sf := by injection he
      subst hx
      obtain ⟨rfl, h2⟩ := fin_of hr
      exact ⟨Nat.le_refl _, h2⟩
  | succ n ih =>
    intro s sf hn he
    rw [end_step] at he
    cases hr : roundF o ts s with
    | on s1 =>
      rw [hr] at he
      simp only at he
      have h1 := round_less hr
      have h2 := round_paysD hr
      obtain ⟨h3, h4⟩ := ih s1 sf (by omega) he
      exact ⟨by omega, h4⟩
    | bad a => rw [hr] at he; cases he
    | fin s1 =>
      rw [hr] at he
      have hx : s1 = sf := by injection he
      subst hx
      obtain ⟨rfl, h2⟩ := fin_of hr
      exact ⟨Nat.le_refl _, h2⟩
theorem vod_all (ts : List Tok) (n : Nat) : vod ts n ≤ vod ts ts.length := by
  unfold vod
  rw [List.take_length, List.map_take]
  exact sum_le _ _
/-- A term is no deeper than its tokens say. -/
theorem read_flat {o : OpsF} {ts : List Tok} {i : Nat} {sf : RdS} (h : endF o ts (startF i) = .fin sf) : sf.t.deep ≤ vod ts ts.length := by
  obtain ⟨h1, h2⟩ := end_paysD o ts _ (startF i) sf (Nat.le_refl _) h
  have h3 := vod_all ts sf.at'
  have h4 : (startF i).dp = 0 := rfl
  have h5 : sf.dp = sf.t.deep + dpW sf.wait := by unfold RdS.dp; rw [if_pos h2]
  omega
end Go.Proofs.YtmgidfndifhcoaaDoor
/-
  A text's tokens bear no more than its bytes. Plain laws; no condition.
-/
namespace Go.Proofs.YtmgidfndifhcoaaDoor

theorem getF_short (q : UInt8) : ∀ (f : Nat) (l : List UInt8) (i : Nat) (b t : List UInt8) (n : Nat), getF q f l i b = some (t, n) → t.length + i ≤ n + b.length := by
  intro f
  induction f with
  | zero => intro l i b t n h; cases l <;> cases h
  | succ f ih =>
    intro l i b t n h
    cases l with
    | nil => cases h
    | cons c r =>
      simp only [getF] at h
      split at h
      · split at h
        · have := ih _ _ _ _ _ h
          simp only [List.length_append, List.length_cons, List.length_nil] at this
          omega
        · simp only [Option.some.injEq, Prod.mk.injEq] at h
          obtain ⟨rfl, rfl⟩ := h
          omega
      · split at h
        · cases h
        · split at h
          · have := ih _ _ _ _ _ h
            simp only [List.length_append, List.length_cons, List.length_nil] at this
            omega
          · split at h
            · cases h
            · split at h
              · have := ih _ _ _ _ _ h
                omega
              · split at h
                · have := ih _ _ _ _ _ h
                  simp only [List.length_append, List.length_cons, List.length_nil] at this
                  omega
                · cases h
theorem getQ_short {q : UInt8} {l t : List UInt8} {n : Nat} (h : getQ q l = some (t, n)) : t.length ≤ n := by
  have := getF_short q _ _ _ _ _ _ h
  simpa using this
theorem tokF_short {l : List UInt8} {t : TokIs} (h : tokF l = some t) : t.s.length ≤ t.len := by
  cases l with
  | nil => cases h
  | cons c r =>
    unfold tokF at h
    simp only at h
    have tk : ∀ (n : Nat), ((c :: r).take n).length ≤ n := fun n => List.length_take_le _ _
    split at h
    · cases h; simp
    · split at h
      · cases h; exact tk _
      · split at h
        · cases h; exact tk _
        · split at h
          · cases h; simp
          · split at h
            · cases h; exact tk _
            · split at h
              · cases hn : numberF (c :: r) with
                | none => rw [hn] at h; cases h
                | some x => rw [hn] at h; cases h; simp
              · split at h
                · cases hn : getQ 39 r with
                  | none => rw [hn] at h; cases h
                  | some x =>
                    rw [hn] at h
                    cases h
                    have := getQ_short (t := x.1) (n := x.2) hn
                    simp only
                    omega
                · split at h
                  · cases hn : getQ 34 r with
                    | none => rw [hn] at h; cases h
                    | some x =>
                      rw [hn] at h
                      cases h
                      have := getQ_short (t := x.1) (n := x.2) hn
                      simp only
                      omega
                  · split at h
                    · cases h; simp
                    · cases h
def volA (ts : List Tok) : Nat := (ts.map fun t => 2 + 2 * t.s.length).sum
def vodA (ts : List Tok) : Nat := (ts.map fun t => 2 + t.s.length).sum
theorem vol_len (ts : List Tok) : vol ts ts.length = volA ts := by unfold vol volA; rw [List.take_length]
theorem vod_len (ts : List Tok) : vod ts ts.length = vodA ts := by unfold vod vodA; rw [List.take_length]
/-- Where the text ends in a newline each token lies in it. -/
theorem lexF_vol : ∀ (f : Nat) (u : List UInt8) (line : Nat) (first : Bool), Ends u → u.length < f → volA (lexF f u line first).1 ≤ 4 * u.length + 2 ∧ vodA (lexF f u line first).1 ≤ 3 * u.length + 2 := by
  intro f
  induction f with
  | zero => intro u line first _ hf; omega
  | succ f ih =>
    intro u line first hu hf
    rw [lexF_step _ u _ _ hf]
    split
    · simp [volA, vodA]
    · split
      · simp [volA, vodA]
      · rename_i h1 h2
        obtain ⟨k, hk, hkl⟩ := skipB_drop u
        have hkk : k < u.length := by
          rcases Nat.lt_or_ge k u.length with hl | hl
          · exact hl
          · exact absurd (by rw [hk, List.drop_eq_nil_of_le hl]) h2
        have hE : Ends (skipB u).1 := by rw [hk]; exact hu.drop k hkk
        cases ht : tokF (skipB u).1 with
        | none => simp [volA, vodA]
        | some t =>
          simp only
          obtain ⟨_, hlt⟩ := tokF_app [46] hE ht
          have hpos := tokF_pos ht
          have hsl := skipB_len u
          have hsh := tokF_short ht
          have hE2 := hE.drop _ hlt
          rw [lexF_fuel (f + 1) f _ _ _ (by rw [List.length_drop]; omega) (by rw [List.length_drop]; omega)]
          obtain ⟨a1, a2⟩ := ih _ (line + lines (u.take (u.length - (skipB u).1.length)) + lines ((skipB u).1.take t.len)) false hE2 (by rw [List.length_drop]; omega)
          rw [List.length_drop] at a1 a2
          unfold volA at a1 ⊢
          unfold vodA at a2 ⊢
          simp only [List.map_cons, List.sum_cons]
          omega
end Go.Proofs.YtmgidfndifhcoaaDoor
/-
  What Op answers and what the table is behind it, all ways joined. Conditions: the table's block holds a map of well-formed operators; the types' table reads as the program lays it.
-/
namespace Go.Proofs.YtmgidfndifhcoaaDoor
open Go.RowKit Go.Maps
set_option maxRecDepth 100000

set_option maxHeartbeats 400000 in
theorem op_nil (w : World) (p t : Int) (s : ByteArray) :
    Calls Tryd.prog 13 #[.pointer none, .int .i64 p, .int .i64 t, .string s] w fun e w' => e = .returned (.int .i64 1) ∧ w = w' := by
  go_enter Tryd.func13, Tryd.ntmps13
  go_wp2
  go_ret
  exact ⟨rfl, rfl⟩

set_option maxHeartbeats 400000 in
theorem op_arg (w : World) (bt : Nat) (p t : Int) (n : List UInt8) (hn : n.length ≤ 9223372036854775807) (h : p < 0 ∨ 1200 < p ∨ t < 1 ∨ 7 < t ∨ 1000 < n.length) :
    Calls Tryd.prog 13 #[.pointer (some ⟨bt, 0, none⟩), .int .i64 p, .int .i64 t, .string ⟨n.toArray⟩] w fun e w' => e = .returned (.int .i64 2) ∧ w = w' := by
  have H := Lib.hid h
  clear h
  by_cases h1 : p < 0
  · go_enter Tryd.func13, Tryd.ntmps13
    go_wp2
    go_ret
    exact ⟨rfl, rfl⟩
  by_cases h2 : 1200 < p
  · have h1' : 0 ≤ p := by omega
    clear h1
    go_enter Tryd.func13, Tryd.ntmps13
    go_wp2
    go_ret
    exact ⟨rfl, rfl⟩
  have h1' : 0 ≤ p := by omega
  have h2' : p ≤ 1200 := by omega
  clear h1 h2
  by_cases h3 : t < 1
  · go_enter Tryd.func13, Tryd.ntmps13
    go_wp2
    go_ret
    exact ⟨rfl, rfl⟩
  by_cases h4 : 7 < t
  · have h3' : 1 ≤ t := by omega
    clear h3
    go_enter Tryd.func13, Tryd.ntmps13
    go_wp2
    go_ret
    exact ⟨rfl, rfl⟩
  have h3' : 1 ≤ t := by omega
  have h4' : t ≤ 7 := by omega
  clear h3 h4
  have h5 : 1000 < n.length := by have := H.out; omega
  clear H
  go_enter Tryd.func13, Tryd.ntmps13
  go_wp2
  go_ret
  exact ⟨rfl, rfl⟩

set_option maxHeartbeats 400000 in
theorem op_perm (w : World) (bt : Nat) (p t : Int) (n : List UInt8) (hn : n.length ≤ 1000) (h1 : 0 ≤ p) (h2 : p ≤ 1200) (h3 : 1 ≤ t) (h4 : t ≤ 7) (h : n = [44] ∨ n = [124] ∨ n = [91, 93] ∨ n = [123, 125]) :
    Calls Tryd.prog 13 #[.pointer (some ⟨bt, 0, none⟩), .int .i64 p, .int .i64 t, .string ⟨n.toArray⟩] w fun e w' => e = .returned (.int .i64 15) ∧ w = w' := by
  rcases h with rfl | rfl | rfl | rfl
  all_goals
    go_enter Tryd.func13, Tryd.ntmps13
    go_wp2
    go_ret
    exact ⟨rfl, rfl⟩

theorem op_any (w : World) (bt bm : Nat) (es : List (OpK × OpV)) (hT : TabAt w bt bm es) (hK : KindsAt w) (hbb : bt ≠ bm) (p t : Int) (n : List UInt8) (hn : n.length ≤ 9223372036854775807) :
    Calls Tryd.prog 13 #[.pointer (some ⟨bt, 0, none⟩), .int .i64 p, .int .i64 t, .string ⟨n.toArray⟩] w fun e w' =>
      e = .returned (.int .i64 (opErr es p t n)) ∧ TabAt w' bt bm (opTab es p t n) ∧ Fr (· = bm) w w' := by
  unfold opTab
  by_cases c1 : p < 0 ∨ 1200 < p ∨ t < 1 ∨ 7 < t ∨ 1000 < n.length
  · have e1 : opErr es p t n = 2 := by unfold opErr; rw [if_pos c1]
    rw [e1]
    refine (op_arg w bt p t n hn c1).mono ?_
    rintro e w' ⟨rfl, rfl⟩
    exact ⟨rfl, by simpa using hT, Fr.refl _ _⟩
  by_cases c2 : n = [44] ∨ n = [124] ∨ n = [91, 93] ∨ n = [123, 125]
  · have e1 : opErr es p t n = 15 := by unfold opErr; rw [if_neg c1, if_pos c2]
    rw [e1]
    refine (op_perm w bt p t n (by omega) (by omega) (by omega) (by omega) (by omega) c2).mono ?_
    rintro e w' ⟨rfl, rfl⟩
    exact ⟨rfl, by simpa using hT, Fr.refl _ _⟩
  obtain ⟨t, rfl⟩ := Int.eq_ofNat_of_zero_le (show 0 ≤ t by omega)
  simp only [not_or] at c2
  obtain ⟨d1, d2, d3, d4⟩ := c2
  have hs3 : kSort t = 1 ∨ kSort t = 2 ∨ kSort t = 3 := by unfold kSort; repeat' split <;> omega
  have hnl : n.length ≤ 1000 := by omega
  have c2' : ¬ (n = [44] ∨ n = [124] ∨ n = [91, 93] ∨ n = [123, 125]) := by simp only [not_or]; exact ⟨d1, d2, d3, d4⟩
  by_cases c3 : p = 0
  · subst c3
    have e1 : opErr es 0 t n = 0 := by unfold opErr; rw [if_neg c1, if_neg c2', if_pos rfl]
    rw [e1, if_neg (by simp), if_pos rfl]
    rcases hs3 with hs | hs | hs <;> rw [hs]
    · exact op_del1 w bt bm es hT hK hbb 0 t n hnl ⟨rfl, trivial⟩ (by omega) d1 d2 d3 d4 hs
    · exact op_del2 w bt bm es hT hK hbb 0 t n hnl ⟨rfl, trivial⟩ (by omega) d1 d2 d3 d4 hs
    · exact op_del3 w bt bm es hT hK hbb 0 t n hnl ⟨rfl, trivial⟩ (by omega) d1 d2 d3 d4 hs
  have e0 : opErr es p t n = if (kSort t = 2 ∧ (mget es (3, n)).isSome = true) ∨ (kSort t = 3 ∧ (mget es (2, n)).isSome = true) then 15
      else if 256 ≤ es.length ∧ (mget es (kSort t, n)).isSome = false then 9 else 0 := by unfold opErr; rw [if_neg c1, if_neg c2', if_neg c3]
  rcases hs3 with hs | hs | hs
  · rw [hs] at e0 ⊢
    by_cases hr : 256 ≤ es.length
    · cases hh : (mget es (1, n)).isSome
      · have e1 : opErr es p t n = 9 := by rw [e0]; simp [hr, hh]
        rw [e1, if_pos (by simp)]
        exact op_full1 w bt bm es hT hK p t n hnl (by omega) (by omega) d1 d2 d3 d4 hs hr hh
      · have e1 : opErr es p t n = 0 := by rw [e0]; simp [hh]
        rw [e1, if_neg (by simp), if_neg c3]
        exact op_ok11 w bt bm es hT hK hbb p t n hnl (by omega) (by omega) d1 d2 d3 d4 hs hr hh
    · have e1 : opErr es p t n = 0 := by rw [e0]; simp [hr]
      rw [e1, if_neg (by simp), if_neg c3]
      exact op_ok10 w bt bm es hT hK hbb p t n hnl (by omega) (by omega) d1 d2 d3 d4 hs (by omega)
  · rw [hs] at e0 ⊢
    cases hq : (mget es (3, n)).isSome
    · by_cases hr : 256 ≤ es.length
      · cases hh : (mget es (2, n)).isSome
        · have e1 : opErr es p t n = 9 := by rw [e0]; simp [hr, hh, hq]
          rw [e1, if_pos (by simp)]
          exact op_full2 w bt bm es hT hK p t n hnl (by omega) (by omega) d1 d2 d3 d4 hs hr hh hq
        · have e1 : opErr es p t n = 0 := by rw [e0]; simp [hh, hq]
          rw [e1, if_neg (by simp), if_neg c3]
          exact op_ok21 w bt bm es hT hK hbb p t n hnl (by omega) (by omega) d1 d2 d3 d4 hs hr hh hq
      · have e1 : opErr es p t n = 0 := by rw [e0]; simp [hr, hq]
        rw [e1, if_neg (by simp), if_neg c3]
        exact op_ok20 w bt bm es hT hK hbb p t n hnl (by omega) (by omega) d1 d2 d3 d4 hs (by omega) hq
    · have e1 : opErr es p t n = 15 := by rw [e0]; simp [hq]
      rw [e1, if_pos (by simp)]
      exact op_conf2 w bt bm es hT hK p t n hnl (by omega) (by omega) d1 d2 d3 d4 hs hq
  · rw [hs] at e0 ⊢
    cases hq : (mget es (2, n)).isSome
    · by_cases hr : 256 ≤ es.length
      · cases hh : (mget es (3, n)).isSome
        · have e1 : opErr es p t n = 9 := by rw [e0]; simp [hr, hh, hq]
          rw [e1, if_pos (by simp)]
          exact op_full3 w bt bm es hT hK p t n hnl (by omega) (by omega) d1 d2 d3 d4 hs hr hh hq
        · have e1 : opErr es p t n = 0 := by rw [e0]; simp [hh, hq]
          rw [e1, if_neg (by simp), if_neg c3]
          exact op_ok31 w bt bm es hT hK hbb p t n hnl (by omega) (by omega) d1 d2 d3 d4 hs hr hh hq
      · have e1 : opErr es p t n = 0 := by rw [e0]; simp [hr, hq]
        rw [e1, if_neg (by simp), if_neg c3]
        exact op_ok30 w bt bm es hT hK hbb p t n hnl (by omega) (by omega) d1 d2 d3 d4 hs (by omega) hq
    · have e1 : opErr es p t n = 15 := by rw [e0]; simp [hq]
      rw [e1, if_pos (by simp)]
      exact op_conf3 w bt bm es hT hK p t n hnl (by omega) (by omega) d1 d2 d3 d4 hs hq
end Go.Proofs.YtmgidfndifhcoaaDoor
