import Derived.Test.YtmgidfndifhcoaaDoorJReadBrackets04
import Derived.Test.YtmgidfndifhcoaaDoorJReadBrackets10
/-
  How great a term may be that is read: no greater than its tokens say. Plain laws; no condition.
-/
namespace Go.Proofs.YtmgidfndifhcoaaDoor

theorem sizes_append : ∀ l r : List Tm, Tm.sizes (l ++ r) = Tm.sizes l + Tm.sizes r
  | [], r => by simp [Tm.sizes]
  | t :: l, r => by rw [List.cons_append, Tm.sizes, Tm.sizes, sizes_append l r]; omega
theorem sizes_one (t : Tm) : Tm.sizes [t] = t.size := by simp [Tm.sizes]
theorem size_comp (s : List UInt8) (l : List Tm) : (compT s l).size = 1 + Tm.sizes l := rfl
theorem size_list : ∀ (l : List Tm) (t : Tm), (listT l t).size = Tm.sizes l + l.length + t.size
  | [], t => by simp [listT, Tm.sizes]
  | x :: l, t => by
    rw [show listT (x :: l) t = compT [46] [x, listT l t] from rfl, size_comp, Tm.sizes, sizes_one, size_list l t, Tm.sizes, List.length_cons]
    omega
theorem sizes_ints : ∀ s : List UInt8, Tm.sizes (s.map fun c => intT c.toNat) = s.length
  | [] => rfl
  | c :: s => by rw [List.map_cons, Tm.sizes, sizes_ints s, List.length_cons]; simp [intT, Tm.size, Tm.sizes]; omega
def potW : List WaitF → Nat
  | [] => 0
  | f :: r => 1 + (Tm.sizes f.l + f.l.length) + potW r
def RdS.pot (s : RdS) : Nat := (if s.hv = true then s.t.size else 0) + potW s.wait
/-- What tokens bear. -/
def vol (ts : List Tok) (n : Nat) : Nat := ((ts.take n).map fun t => 2 + 2 * t.s.length).sum
theorem vol_one {ts : List Tok} {n : Nat} (h : n < ts.length) : vol ts (n + 1) = vol ts n + (2 + 2 * (peekF ts n).s.length) := by
  unfold vol peekF
  rw [List.take_succ_eq_append_getElem h, List.map_append, List.sum_append, List.getD_eq_getElem?_getD, List.getElem?_eq_getElem h]
  simp
theorem vol_two {ts : List Tok} {n : Nat} (h : n + 1 < ts.length) : vol ts n + 4 ≤ vol ts (n + 2) := by
  rw [vol_one h, vol_one (show n < ts.length by omega)]
  omega
theorem vol_le1 {ts : List Tok} {n : Nat} (h : n < ts.length) : vol ts n + 2 ≤ vol ts (n + 1) := by
  rw [vol_one h]
  omega
/-- A round takes no more than the tokens that it goes over. -/
def Pays (ts : List Tok) (p a : Nat) (s' : RdS) : Prop := s'.pot + vol ts a ≤ p + vol ts s'.at'
section
variable {o : OpsF} {ts : List Tok} {s s' : RdS}
theorem pot_done (s : RdS) (t : Tm) (p : Int) : (s.done t p).pot = t.size + potW s.wait := rfl
theorem pot_await (s : RdS) (f : WaitF) (m : Int) : (s.await f m).pot = 0 + (1 + (Tm.sizes f.l + f.l.length) + potW s.wait) := rfl
theorem pot_again (s : RdS) (f : WaitF) (m : Int) : (s.again f m).pot = 0 + (1 + (Tm.sizes f.l + f.l.length) + potW s.wait) := rfl
theorem args_pays {n : List UInt8} (h : argsF ts s n = .ok s') : Pays ts (potW s.wait) s.at' s' := by
  obtain ⟨rfl, h2⟩ := args_ok h
  unfold Pays
  rw [pot_await]
  have := vol_le1 h2
  simp only [Tm.sizes, List.length_nil]
  show _ ≤ _ + vol ts (s.at' + 1)
  rw [go_wait]
  omega
theorem pair_pays {c : UInt8} (hl : s.at' + 1 < ts.length) (h : pairF ts s c = .ok s') : Pays ts (potW s.wait) s.at' s' := by
  unfold pairF at h
  dsimp only at h
  have h2 := vol_two hl
  split at h
  · have := args_pays h
    unfold Pays at this ⊢
    rw [go_wait, go_at] at this
    omega
  · injection h with h
    subst h
    unfold Pays
    rw [pot_done, go_wait]
    show _ ≤ _ + vol ts (s.at' + 2)
    have e : (atomT ((peekF ts s.at').s ++ [c])).size = 1 := rfl
    rw [e]
    omega
theorem punct_pays {x : List UInt8} (hl : s.at' < ts.length) (h : punctF ts s x = .ok s') : Pays ts (potW s.wait) s.at' s' := by
  have h1 := vol_le1 hl
  have aw : ∀ (f : WaitF) (m : Int), f.l = [] → Pays ts (potW s.wait) s.at' ((s.go 1).await f m) := fun f m hf => by
    unfold Pays
    rw [pot_await, hf, go_wait]
    show _ ≤ _ + vol ts (s.at' + 1)
    simp only [Tm.sizes, List.length_nil]
    omega
  unfold punctF at h
  split at h
  · injection h with h
    subst h
    exact aw _ _ rfl
  · split at h
    · split at h
      · rename_i hp
        exact pair_pays (isP_lt hp) h
      · injection h with h
        subst h
        exact aw _ _ rfl
    · split at h
      · split at h
        · rename_i hp
          exact pair_pays (isP_lt hp) h
        · injection h with h
          subst h
          exact aw _ _ rfl
      · cases h
theorem atom_pays {t : Tok} (hl : s.at' < ts.length) (h : atomF o ts s t = .ok s') : Pays ts (potW s.wait) s.at' s' := by
  have h1 := vol_le1 hl
  unfold atomF at h
  dsimp only at h
  split at h
  · rename_i hc
    have h2 := vol_two (show s.at' + 1 < ts.length from peek_lt (by rw [hc.2.2.1]; decide))
    injection h with h
    subst h
    unfold Pays
    rw [pot_done, go_wait]
    show _ ≤ _ + vol ts (s.at' + 2)
    have e : (intT (negI (peekF ts (s.at' + 1)).n)).size = 1 := rfl
    rw [e]
    omega
  · split at h
    · have := args_pays h
      unfold Pays at this ⊢
      rw [go_wait, go_at] at this
      omega
    · split at h
      · injection h with h
        subst h
        unfold Pays
        rw [pot_await, go_wait]
        show _ ≤ _ + vol ts (s.at' + 1)
        simp only [Tm.sizes, List.length_nil]
        omega
      · injection h with h
        subst h
        unfold Pays
        rw [pot_done, go_wait]
        show _ ≤ _ + vol ts (s.at' + 1)
        have e : (atomT t.s).size = 1 := rfl
        rw [e]
        omega
theorem primary_pays (h : primaryF o ts s = .ok s') : Pays ts (potW s.wait) s.at' s' := by
  unfold primaryF at h
  dsimp only at h
  split at h
  · rename_i hk
    have h1 := vol_le1 (show s.at' < ts.length from peek_lt (by rw [hk]; decide))
    split at h
    · cases h
    · injection h with h
      subst h
      unfold Pays
      rw [pot_done, go_wait]
      show _ ≤ _ + vol ts (s.at' + 1)
      have e : (intT (peekF ts s.at').n).size = 1 := rfl
      rw [e]
      omega
  · split at h
    · rename_i hk
      have h1 := vol_le1 (show s.at' < ts.length from peek_lt (by rw [hk]; decide))
      injection h with h
      subst h
      obtain ⟨g1, g2, g3⟩ := var_at (s.go 1) (peekF ts s.at').s
      have e : (varF (s.go 1) (peekF ts s.at').s).t.size = 1 := by
        unfold varF
        split
        · rfl
        · dsimp only
          split <;> rfl
      unfold Pays RdS.pot
      rw [g1, g2, g3, if_pos rfl, e, go_wait, go_at]
      omega
    · split at h
      · rename_i hk
        have h1 := vol_one (show s.at' < ts.length from peek_lt (by rw [hk]; decide))
        injection h with h
        subst h
        unfold Pays
        rw [pot_done, go_wait, size_list, sizes_ints, List.length_map]
        show _ ≤ _ + vol ts (s.at' + 1)
        have e : nilT.size = 1 := rfl
        rw [e]
        omega
      · split at h
        · rename_i hk
          exact punct_pays (peek_lt (by rw [hk]; decide)) h
        · split at h
          · rename_i hk
            exact atom_pays (peek_lt (by rcases hk with hk | hk <;> rw [hk] <;> decide)) h
          · cases h
theorem operator_pays (h : operatorF o ts s = some s') : Pays ts (s.t.size + potW s.wait) s.at' s' := by
  unfold operatorF at h
  dsimp only at h
  split at h
  · cases h
  · rename_i hk
    have hl : s.at' < ts.length := by
      by_cases h1 : (peekF ts s.at').kind = 1
      · exact peek_lt (by rw [h1]; decide)
      · by_cases h2 : (peekF ts s.at').kind = 2
        · exact peek_lt (by rw [h2]; decide)
        · cases h3 : isP ts s.at' 44 with
          | true => exact isP_lt h3
          | false => exact absurd ⟨h1, h2, h3⟩ hk
    have h1 := vol_le1 hl
    split at h
    · injection h with h
      subst h
      unfold Pays
      rw [pot_await, go_wait]
      show _ ≤ _ + vol ts (s.at' + 1)
      simp only [sizes_one, List.length_cons, List.length_nil]
      omega
    · split at h
      · injection h with h
        subst h
        unfold Pays
        rw [pot_done, go_wait, size_comp, sizes_one]
        show _ ≤ _ + vol ts (s.at' + 1)
        omega
      · cases h
theorem backG_pays {f : WaitF} (h : backG ts s f = .ok s') : Pays ts (s.t.size + (1 + (Tm.sizes f.l + f.l.length) + potW s.wait)) s.at' s' := by
  have ex : ∀ (c : UInt8) (g : RdS → RdS) (k : Nat), (s.expect ts c).map g = .ok s' → (∀ x, (g x).at' = x.at') → (g (s.go 1)).pot ≤ k → k ≤ s.t.size + (1 + (Tm.sizes f.l + f.l.length) + potW s.wait) + 2 → Pays ts (s.t.size + (1 + (Tm.sizes f.l + f.l.length) + potW s.wait)) s.at' s' := fun c g k h1 h2 h3 h4 => by
    obtain ⟨rfl, h5⟩ := expect_map h1
    have := vol_le1 h5
    unfold Pays
    rw [h2]
    show _ ≤ _ + vol ts (s.at' + 1)
    omega
  have ag : ∀ (g : WaitF), s.at' < ts.length → g.l = f.l ++ [s.t] → s' = (s.go 1).again g 999 → Pays ts (s.t.size + (1 + (Tm.sizes f.l + f.l.length) + potW s.wait)) s.at' s' := fun g h1 h2 h3 => by
    subst h3
    have := vol_le1 h1
    unfold Pays
    rw [pot_again, h2, sizes_append, sizes_one, List.length_append, List.length_cons, List.length_nil, go_wait]
    show _ ≤ _ + vol ts (s.at' + 1)
    omega
  unfold backG at h
  split at h
  · exact ex 41 _ (s.t.size + potW s.wait) h (fun _ => rfl) (Nat.le_refl _) (by omega)
  · split at h
    · exact ex 125 _ (1 + s.t.size + potW s.wait) h (fun _ => rfl) (by rw [pot_done, size_comp, sizes_one]; exact Nat.le_refl _) (by omega)
    · split at h
      · injection h with h
        subst h
        unfold Pays
        rw [pot_done, size_comp, sizes_one]
        show _ ≤ _ + vol ts s.at'
        omega
      · split at h
        · injection h with h
          subst h
          unfold Pays
          rw [pot_done, size_comp, sizes_append, sizes_one]
          show _ ≤ _ + vol ts s.at'
          omega
        · split at h
          · dsimp only at h
            split at h
            · rename_i hp
              injection h with h
              exact ag _ (isP_lt hp) rfl h.symm
            · exact ex 41 _ (1 + (Tm.sizes f.l + s.t.size) + potW s.wait) h (fun _ => rfl) (by rw [pot_done, size_comp, sizes_append, sizes_one]; exact Nat.le_refl _) (by omega)
          · split at h
            · dsimp only at h
              split at h
              · rename_i hp
                injection h with h
                exact ag _ (isP_lt hp) rfl h.symm
              · split at h
                · rename_i hp
                  injection h with h
                  exact ag _ (isP_lt hp) rfl h.symm
                · exact ex 93 _ (Tm.sizes f.l + s.t.size + (f.l.length + 1) + 1 + potW s.wait) h (fun _ => rfl) (by rw [pot_done, size_list, sizes_append, sizes_one, List.length_append]; exact Nat.le_refl _) (by omega)
            · split at h
              · exact ex 93 _ (Tm.sizes f.l + f.l.length + s.t.size + potW s.wait) h (fun _ => rfl) (by rw [pot_done, size_list]; exact Nat.le_refl _) (by omega)
              · injection h with h
                subst h
                unfold Pays RdS.pot
                split <;> omega
theorem round_pays (h : roundF o ts s = .on s') : s'.pot + vol ts s.at' ≤ s.pot + vol ts s'.at' := by
  unfold roundF at h
  split at h
  · rename_i hv
    cases hp : primaryF o ts s with
    | error a => rw [hp] at h; cases h
    | ok x =>
      rw [hp] at h
      injection h with h
      subst h
      have := primary_pays hp
      unfold Pays at this
      have hs : s.pot = 0 + potW s.wait := by unfold RdS.pot; rw [if_neg (by rw [hv]; decide)]
      omega
  · rename_i hv
    have hs : s.pot = s.t.size + potW s.wait := by unfold RdS.pot; rw [if_pos (by simpa using hv)]
    split at h
    · rename_i x hx
      injection h with h
      subst h
      have := operator_pays hx
      unfold Pays at this
      omega
    · split at h
      · rename_i f r hw
        cases hb : backF ts s f r with
        | error a => rw [hb] at h; cases h
        | ok x =>
          rw [hb] at h
          injection h with h
          subst h
          have := backG_pays (s := { s with wait := r, most := f.most }) hb
          unfold Pays at this
          rw [hw] at hs
          simp only [potW] at hs
          simp only at this
          omega
      · split at h
        · cases h
        · cases h
end
theorem fin_of {o : OpsF} {ts : List Tok} {s s1 : RdS} (h : roundF o ts s = .fin s1) : s1 = s ∧ s.hv = true := by
  unfold roundF at h
  split at h
  · cases hp : primaryF o ts s <;> rw [hp] at h <;> cases h
  · rename_i hv
    split at h
    · cases h
    · split at h
      · rename_i f r hw
        cases hb : backF ts s f r <;> rw [hb] at h <;> cases h
      · split at h
        · cases h
        · injection h with h
          exact ⟨h.symm, by simpa using hv⟩
theorem end_pays (o : OpsF) (ts : List Tok) : ∀ (n : Nat) (s sf : RdS), leftF ts s ≤ n → endF o ts s = .fin sf → sf.pot + vol ts s.at' ≤ s.pot + vol ts sf.at' ∧ sf.hv = true := by
  intro n
  induction n with
  | zero =>
    intro s sf hn he
    rw [end_step] at he
    cases hr : roundF o ts s with
    | on s1 => have := round_less hr; omega
    | bad a => rw [hr] at he; cases he
    | fin s1 =>
      rw [hr] at he
      have hx : s1 = sf := by injection he
      subst hx
      obtain ⟨rfl, h2⟩ := fin_of hr
      exact ⟨Nat.le_refl _, h2⟩
  | succ n ih =>
    intro s sf hn he
    rw [end_step] at he
    cases hr : roundF o ts s with
    | on s1 =>
      rw [hr] at he
      simp only at he
      have h1 := round_less hr
      have h2 := round_pays hr
      obtain ⟨h3, h4⟩ := ih s1 sf (by omega) he
      exact ⟨by omega, h4⟩
    | bad a => rw [hr] at he; cases he
    | fin s1 =>
      rw [hr] at he
      have hx : s1 = sf := by injection he
      subst hx
      obtain ⟨rfl, h2⟩ := fin_of hr
      exact ⟨Nat.le_refl _, h2⟩
theorem sum_le : ∀ (l : List Nat) (k : Nat), (l.take k).sum ≤ l.sum
  | [], k => by simp
  | x :: l, 0 => by simp
  | x :: l, k + 1 => by
    have := sum_le l k
    simp only [List.take_succ_cons, List.sum_cons]
    omega
theorem vol_all (ts : List Tok) (n : Nat) : vol ts n ≤ vol ts ts.length := by
  unfold vol
  rw [List.take_length, List.map_take]
  exact sum_le _ _
theorem deep_le_size : ∀ t : Tm, t.deep ≤ t.size
  | .mk k n s l => by
    rw [Tm.deep, Tm.size]
    have : ∀ l : List Tm, (∀ t ∈ l, t.deep ≤ t.size) → Tm.deeps l ≤ Tm.sizes l := by
      intro l
      induction l with
      | nil => intro _; simp [Tm.deeps, Tm.sizes]
      | cons x r ih =>
        intro h
        have h1 := h x (List.mem_cons_self ..)
        have h2 := ih fun t ht => h t (List.mem_cons_of_mem _ ht)
        rw [Tm.deeps, Tm.sizes]
        omega
    have := this l (fun t _ => deep_le_size t)
    omega
/-- A term is no greater than its tokens say. -/
theorem read_small {o : OpsF} {ts : List Tok} {i : Nat} {sf : RdS} (h : endF o ts (startF i) = .fin sf) : sf.t.size ≤ vol ts ts.length ∧ sf.t.deep ≤ vol ts ts.length := by
  obtain ⟨h1, h2⟩ := end_pays o ts _ (startF i) sf (Nat.le_refl _) h
  have h3 := vol_all ts sf.at'
  have h4 : (startF i).pot = 0 := rfl
  have h5 : sf.pot = sf.t.size + potW sf.wait := by unfold RdS.pot; rw [if_pos h2]
  have h6 := deep_le_size sf.t
  omega
end Go.Proofs.YtmgidfndifhcoaaDoor
/-
  The reader's state where a clause begins. Plain laws; conditions: the blocks hold what Read lays there.
-/
namespace Go.Proofs.YtmgidfndifhcoaaDoor
open Go.RowKit Go.Maps
set_option maxRecDepth 100000

theorem ToksAt.up {w : World} {B B' n : Nat} {A : Option Addr} {l : List Tok} (h : ToksAt w B A n l) (hB : B ≤ B') : ToksAt w B' A n l :=
  ⟨h.len, fun i t ht => by
    obtain ⟨b, off, e1, e2, r⟩ := h.at' i t ht
    exact ⟨b, off, e1, Nat.lt_of_lt_of_le e2 hB, r⟩⟩
def rdE (rb B : Nat) (ts : List Tok) (bt bm : Nat) (es : List (OpK × OpV)) (bb mb pb : Nat) : RdE := ⟨rb, B, ts, bt, bm, es, bb, mb, [(pb, #[.pointer (some ⟨rb, 0, none⟩)], 74)]⟩
def rdV (A : Option Addr) (n c bt bb mb : Nat) : RdV := ⟨A, n, c, .pointer (some ⟨bt, 0, none⟩), .map (some bb), .slice none 0 0, ⟨0, 0, [], none, 0, 0⟩, .map (some mb), .slice none 0 0⟩
def rdS0 (k : Nat) : RdS := ⟨k, [], 0, false, .mk 0 0 [] [], 0, [], [], 0⟩
theorem rdS0_want (k : Nat) : (rdS0 k).want 1200 = startF k := rfl
theorem rd_start {w W : World} {A : Option Addr} {n c : Nat} {ts : List Tok} {k bt bm : Nat} {es : List (OpK × OpV)} {rb B bb mb pb : Nat} (hT : ToksAt w w.heap.size A n ts) (hf : ts.length ≤ 20000) (hkl : k < ts.length) (hTab : TabAt w bt bm es) (hK : KindsAt w)
    (hsh : ∀ t ∈ ts, t.s.length ≤ 1000000) (hnm : ∀ t ∈ ts, (-9223372036854775808 ≤ t.n ∧ t.n ≤ 9223372036854775807) ∧ okI t.kind) (hb : Below w.heap.size w W) (hB : w.heap.size ≤ B) (hrb : B ≤ rb) (hmb : B ≤ mb) (n1 : mb ≠ rb) (n2 : rb < bb) (n3 : mb ≠ bb)
    (u3 : W.heap[mb]? = some (.map #[] 0)) (u4 : W.heap[rb]? = some (.cells #[.slice A n c, .int .i64 (k : Nat), .pointer (some ⟨bt, 0, none⟩), .map (some bb), .slice none 0 0, .int .i64 0, .bool false, .int .i64 0, .int .i64 0, .string ⟨#[]⟩, .slice none 0 0, .int .i64 0, .map (some mb), .slice none 0 0, .int .i64 0] 79 (0, 0)))
    (u5 : W.heap[pb]? = some (.cells #[.pointer (some ⟨rb, 0, none⟩)] 74 (0, 0))) (hM : MapAt W bb evI (evF rb) begL) : RdInv (rdE rb B ts bt bm es bb mb pb) W (rdV A n c bt bb mb) (rdS0 k) [] := by
  have hleft : leftF ts (rdS0 k) = 3 * (ts.length - k) + 0 + 1 := rfl
  have hbt := hTab.lt
  have hbm := hTab.map.lt
  have hkd := hK.lt
  exact {
    r := ⟨u4, (hT.keep hb.block).up hB, hrb, hf, Nat.le_of_lt hkl⟩
    row := Row.nil _ _ _ _ _
    vb := rfl
    ob := rfl
    bv := rfl
    mbr := n1
    Bmb := hmb
    rbb := n2
    mbb := n3
    vars := ⟨⟨⟨#[], 0, u3, rfl, MapKept.stamped_empty 0⟩, by simp [rdS0]⟩, fun x hx => by cases hx⟩
    beg := hM
    nm := Row.nil _ _ _ _ _
    tab := hTab.later hb
    kinds := hK.later hb
    btr := Nat.lt_of_lt_of_le hbt hB
    bmr := Nat.lt_of_lt_of_le hbm hB
    kr := Nat.lt_of_lt_of_le hkd hB
    tie := .nil
    x := .leaf _ _ _ _ _ _ _ (Nat.zero_le _)
    fix := fun p hp => by
      rcases List.mem_singleton.1 hp with rfl
      exact ⟨u5, (fun e => by cases e), (show (74 : TypeId) ≠ 79 by decide), (show (74 : TypeId) ≠ 124 by decide), (show (74 : TypeId) ≠ 57 by decide)⟩
    nd := List.nodup_nil
    short := hsh
    num := hnm
    left := by show leftF ts (rdS0 k) ≤ _; omega
    ll := fun w hw => by cases hw
    c0 := Int.le_refl _
    cn := by show (0 : Int) + (leftF ts (rdS0 k) : Int) ≤ _; omega
    nn := by show 0 + leftF ts (rdS0 k) ≤ _; omega }
end Go.Proofs.YtmgidfndifhcoaaDoor
