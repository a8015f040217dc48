/-
  Plain laws behind OpsPlay: the document's list of operators, told in plain Lean, answers what the program's table answers. No condition.
-/
import Derived.Test.YtiaajpfebcccfaaDoorRefSort
import Derived.Test.YtiaajpfebcccfaaDoorOpsBackP
namespace Go.Proofs.YtiaajpfebcccfaaDoor

def rHit (n : List UInt8) (s : Int) (d : DefT) : Bool := decide (d.2.2 = n ∧ refSort d.2.1 = s)
def rfind (L : List DefT) (n : List UInt8) (s : Int) : DefT := (L.find? (rHit n s)).getD (0, 0, [])
def rerr (L : List DefT) (p t : Int) (n : List UInt8) : Int :=
  if p < 0 ∨ 1200 < p ∨ t < 1 ∨ 7 < t ∨ 1000 < n.length then 2
  else if n = [44] ∨ n = [124] ∨ n = [91, 93] ∨ n = [123, 125] then 15
  else if 0 < p ∧ ((refSort t = 2 ∧ 0 < (rfind L n 3).1) ∨ (refSort t = 3 ∧ 0 < (rfind L n 2).1)) then 15
  else if 0 < p ∧ 256 ≤ L.length ∧ (rfind L n (refSort t)).1 = 0 then 9 else 0
def rout (L : List DefT) (t : Int) (n : List UInt8) : List DefT := L.filter fun d => !rHit n (refSort t) d
def rop (L : List DefT) (p t : Int) (n : List UInt8) : List DefT :=
  if rerr L p t n ≠ 0 then L else if 0 < p then rout L t n ++ [(p, t, n)] else rout L t n

/-- The list tells what the table's entries tell. -/
structure Agree (es : List (OpK × OpV)) (L : List DefT) : Prop where
  perm : L.Perm (es.map defOf)
  good : ∀ x ∈ es, goodOp x
  nodup : (es.map (·.1)).Nodup

theorem rHit_of {x : OpK × OpV} (hx : goodOp x) (n : List UInt8) (s : Int) : rHit n s (defOf x) = decide (x.1 = (s, n)) := by
  obtain ⟨g1, _, _, _, g5, _⟩ := hx
  unfold rHit defOf
  simp only
  rw [refSort_kSort _ g5, ← g1]
  rcases x with ⟨⟨a, b⟩, c, d⟩
  simp only [Prod.mk.injEq]
  congr 1
  exact propext ⟨fun h => ⟨h.2, h.1⟩, fun h => ⟨h.2, h.1⟩⟩

theorem Agree.find {es : List (OpK × OpV)} {L : List DefT} (h : Agree es L) (n : List UInt8) (s : Int) :
    rfind L n s = match mget es (s, n) with | some (p, t) => (p, t, n) | none => (0, 0, []) := by
  unfold rfind
  cases hf : L.find? (rHit n s) with
  | none =>
    rw [List.find?_eq_none] at hf
    have : mget es (s, n) = none := mget_none fun x hx e => by
      have h1 := hf (defOf x) (h.perm.mem_iff.2 (List.mem_map.2 ⟨x, hx, rfl⟩))
      rw [rHit_of (h.good x hx)] at h1
      exact h1 (by simpa using e)
    rw [this]
    rfl
  | some d =>
    have h1 := List.find?_some hf
    obtain ⟨x, hx, rfl⟩ := List.mem_map.1 (h.perm.mem_iff.1 (List.mem_of_find?_eq_some hf))
    rw [rHit_of (h.good x hx)] at h1
    have e : x.1 = (s, n) := by simpa using h1
    have : mget es (s, n) = some x.2 := mget_some_of h.nodup (by rw [← e]; exact hx)
    rw [this]
    simp [defOf, e]

theorem Agree.pos {es : List (OpK × OpV)} {L : List DefT} (h : Agree es L) (n : List UInt8) (s : Int) : (0 < (rfind L n s).1 ↔ (mget es (s, n)).isSome = true) ∧ ((rfind L n s).1 = 0 ↔ (mget es (s, n)).isSome = false) := by
  rw [h.find]
  cases hg : mget es (s, n) with
  | none => simp
  | some v =>
    obtain ⟨p, t⟩ := v
    obtain ⟨_, _, g3, _⟩ := h.good _ (mget_mem hg)
    simp only at g3
    simp only [Option.isSome_some, Bool.true_eq_false, iff_false, iff_true]
    omega

theorem Agree.len {es : List (OpK × OpV)} {L : List DefT} (h : Agree es L) : L.length = es.length := by simpa using h.perm.length_eq

theorem Agree.err {es : List (OpK × OpV)} {L : List DefT} (h : Agree es L) (p t : Int) (n : List UInt8) : rerr L p t n = opErr es p t n := by
  unfold rerr opErr
  split
  · rfl
  · rename_i h1
    simp only [not_or] at h1
    split
    · rfl
    · rw [refSort_kSort t (by omega), h.len]
      simp only [(h.pos n 3).1, (h.pos n 2).1, (h.pos n (kSort t)).2]
      by_cases hp : p = 0
      · subst hp
        simp
      · have hp' : 0 < p := by omega
        simp only [hp', hp, true_and, if_false]

theorem mput_perm {κ ν : Type} [DecidableEq κ] (l : List (κ × ν)) (k : κ) (v : ν) (hd : (l.map (·.1)).Nodup) : (mput l k v).Perm (mdel l k ++ [(k, v)]) := by
  cases hg : mget l k with
  | none =>
    have h1 := mget_eq_none hg
    have h2 : mdel l k = l := List.filter_eq_self.2 (by intro z hz; simpa using h1 z hz)
    unfold mput
    rw [hg, h2]
    simp
  | some v0 =>
    unfold mput
    rw [hg, Option.isSome_some, if_pos rfl]
    have hm := mget_mem hg
    clear hg
    induction l with
    | nil => cases hm
    | cons y r ih =>
      simp only [List.map_cons, List.nodup_cons] at hd
      by_cases e : y.1 = k
      · have h1 : ∀ z ∈ r, z.1 ≠ k := fun z hz e2 => hd.1 (by rw [e, ← e2]; exact List.mem_map.2 ⟨z, hz, rfl⟩)
        have h2 : r.map (fun x => if x.1 = k then (k, v) else x) = r := by
          conv => rhs; rw [← List.map_id r]
          refine List.map_congr_left fun z hz => ?_
          rw [if_neg (h1 z hz)]
          rfl
        have h3 : mdel (y :: r) k = r := by
          unfold mdel
          rw [List.filter_cons_of_neg (by simpa using e), List.filter_eq_self.2 (by intro z hz; simpa using h1 z hz)]
        rw [List.map_cons, if_pos e, h2, h3]
        exact (List.perm_append_singleton (k, v) r).symm
      · have h3 : mdel (y :: r) k = y :: mdel r k := by
          unfold mdel
          rw [List.filter_cons_of_pos (by simpa using e)]
        rw [List.map_cons, if_neg e, h3, List.cons_append]
        refine List.Perm.cons y (ih hd.2 ?_)
        rcases List.mem_cons.1 hm with h | h
        · exact absurd (by rw [← h]) e
        · exact h

theorem Agree.out {es : List (OpK × OpV)} {L : List DefT} (h : Agree es L) (t : Int) (n : List UInt8) (ht : 1 ≤ t) : (rout L t n).Perm ((mdel es (kSort t, n)).map defOf) := by
  unfold rout
  refine (h.perm.filter _).trans (List.Perm.of_eq ?_)
  rw [List.filter_map]
  unfold mdel
  congr 1
  refine List.filter_congr fun x hx => ?_
  simp only [Function.comp_apply]
  rw [rHit_of (h.good x hx), refSort_kSort t ht]
  simp

theorem Agree.op {es : List (OpK × OpV)} {L : List DefT} (h : Agree es L) (p t : Int) (n : List UInt8) : Agree (opTab es p t n) (rop L p t n) := by
  unfold rop opTab
  rw [h.err]
  by_cases h0 : opErr es p t n = 0
  · have hb : (0 ≤ p ∧ p ≤ 1200) ∧ (1 ≤ t ∧ t ≤ 7) ∧ n.length ≤ 1000 := by
      unfold opErr at h0
      split at h0
      · cases h0
      · omega
    have h0' : ¬ opErr es p t n ≠ 0 := by simp [h0]
    rw [if_neg h0', if_neg h0']
    by_cases hp : p = 0
    · have hp' : ¬ 0 < p := by omega
      rw [if_pos hp, if_neg hp']
      exact ⟨h.out t n hb.2.1.1, fun x hx => h.good x (mem_mdel hx), mdel_nodup h.nodup _⟩
    · have hp' : 0 < p := by omega
      rw [if_neg hp, if_pos hp']
      refine ⟨?_, ?_, mput_nodup h.nodup _ _⟩
      · refine ((h.out t n hb.2.1.1).append_right _).trans ?_
        refine List.Perm.trans ?_ ((mput_perm es (kSort t, n) (p, t) h.nodup).map defOf).symm
        rw [List.map_append]
        exact List.Perm.refl _
      · intro x hx
        rcases mem_mput hx with hx | rfl
        · exact h.good x hx
        · exact ⟨rfl, hb.2.2, by simp only; omega, by simp only; omega, hb.2.1.1, hb.2.1.2⟩
  · rw [if_pos h0, if_pos h0]
    exact h

/-- What the document tells of a prefix, infix, postfix operator. -/
def rPre (L : List DefT) (n : List UInt8) : Int × Int := ((rfind L n 1).1, if (rfind L n 1).2.1 = 4 then (rfind L n 1).1 - 1 else (rfind L n 1).1)
def rIn (L : List DefT) (n : List UInt8) : Int × Int × Int :=
  ((rfind L n 2).1, if (rfind L n 2).2.1 = 1 ∨ (rfind L n 2).2.1 = 2 then (rfind L n 2).1 - 1 else (rfind L n 2).1, if (rfind L n 2).2.1 = 1 ∨ (rfind L n 2).2.1 = 3 then (rfind L n 2).1 - 1 else (rfind L n 2).1)
def rPost (L : List DefT) (n : List UInt8) : Int × Int := ((rfind L n 3).1, if (rfind L n 3).2.1 = 6 then (rfind L n 3).1 - 1 else (rfind L n 3).1)
def rIs (L : List DefT) (n : List UInt8) : Bool := decide (0 < (rfind L n 1).1) || (decide (0 < (rfind L n 2).1) || decide (0 < (rfind L n 3).1))

theorem Agree.is {es : List (OpK × OpV)} {L : List DefT} (h : Agree es L) (n : List UInt8) : rIs L n = isOp es n := by
  unfold rIs isOp
  have h1 : ∀ s, decide (0 < (rfind L n s).1) = (mget es (s, n)).isSome := fun s => by
    rw [Bool.eq_iff_iff, decide_eq_true_iff]
    exact (h.pos n s).1
  rw [h1, h1, h1]
theorem Agree.get {es : List (OpK × OpV)} {L : List DefT} (h : Agree es L) (n : List UInt8) (s : Int) :
    (tsides es s n = (0, 0, 0) ∧ rfind L n s = (0, 0, [])) ∨ ∃ p t, tsides es s n = (p, p - kLeft t, p - kRight t) ∧ rfind L n s = (p, t, n) ∧ kSort t = s ∧ 1 ≤ t ∧ t ≤ 7 ∧ 1 ≤ p ∧ p ≤ 1200 := by
  rw [h.find]
  unfold tsides
  cases hg : mget es (s, n) with
  | none => exact .inl ⟨rfl, rfl⟩
  | some v =>
    obtain ⟨p, t⟩ := v
    obtain ⟨g1, _, g3, g4, g5, g6⟩ := h.good _ (mget_mem hg)
    exact .inr ⟨p, t, rfl, rfl, g1.symm, g5, g6, g3, g4⟩
theorem Agree.pre {es : List (OpK × OpV)} {L : List DefT} (h : Agree es L) (n : List UInt8) : rPre L n = ((tsides es 1 n).1, (tsides es 1 n).2.2) := by
  unfold rPre
  rcases h.get n 1 with ⟨e1, e2⟩ | ⟨p, t, e1, e2, e3, h1, h2, _⟩
  · rw [e1, e2]; rfl
  · rw [e1, e2]
    have : t = 1 ∨ t = 2 ∨ t = 3 ∨ t = 4 ∨ t = 5 ∨ t = 6 ∨ t = 7 := by omega
    rcases this with rfl | rfl | rfl | rfl | rfl | rfl | rfl <;> simp [kSort] at e3 <;> simp [kRight]
theorem Agree.inf {es : List (OpK × OpV)} {L : List DefT} (h : Agree es L) (n : List UInt8) : rIn L n = tsides es 2 n := by
  unfold rIn
  rcases h.get n 2 with ⟨e1, e2⟩ | ⟨p, t, e1, e2, e3, h1, h2, _⟩
  · rw [e1, e2]; rfl
  · rw [e1, e2]
    have : t = 1 ∨ t = 2 ∨ t = 3 ∨ t = 4 ∨ t = 5 ∨ t = 6 ∨ t = 7 := by omega
    rcases this with rfl | rfl | rfl | rfl | rfl | rfl | rfl <;> simp [kSort] at e3 <;> simp [kRight, kLeft]
theorem Agree.post {es : List (OpK × OpV)} {L : List DefT} (h : Agree es L) (n : List UInt8) : rPost L n = ((tsides es 3 n).1, (tsides es 3 n).2.1) := by
  unfold rPost
  rcases h.get n 3 with ⟨e1, e2⟩ | ⟨p, t, e1, e2, e3, h1, h2, _⟩
  · rw [e1, e2]; rfl
  · rw [e1, e2]
    have : t = 1 ∨ t = 2 ∨ t = 3 ∨ t = 4 ∨ t = 5 ∨ t = 6 ∨ t = 7 := by omega
    rcases this with rfl | rfl | rfl | rfl | rfl | rfl | rfl <;> simp [kSort] at e3 <;> simp [kLeft]

/-- Where the document's sort puts a definition: at most k. -/
def rat (out : List DefT) (d : DefT) : Nat → Nat
  | 0 => 0
  | k + 1 => if defLt d (out.getD k (0, 0, [])) then rat out d k else k + 1
theorem rat_le (out : List DefT) (d : DefT) : ∀ k, rat out d k ≤ k
  | 0 => Nat.le_refl _
  | k + 1 => by
    unfold rat
    split
    · exact Nat.le_succ_of_le (rat_le out d k)
    · exact Nat.le_refl _
theorem rat_above (out : List DefT) (d : DefT) : ∀ k i, rat out d k ≤ i → i < k → defLt d (out.getD i (0, 0, []))
  | 0, i, _, h => by omega
  | k + 1, i, h1, h2 => by
    unfold rat at h1
    split at h1
    · rename_i hl
      by_cases e : i = k
      · rw [e]; exact hl
      · exact rat_above out d k i h1 (by omega)
    · omega
theorem rat_below (out : List DefT) (d : DefT) : ∀ k, 0 < rat out d k → ¬ defLt d (out.getD (rat out d k - 1) (0, 0, []))
  | 0, h => by simp [rat] at h
  | k + 1, h => by
    unfold rat at h ⊢
    split
    · rename_i hl
      rw [if_pos hl] at h
      exact rat_below out d k h
    · rename_i hl
      exact hl
def rins (out : List DefT) (d : DefT) : List DefT := out.take (rat out d out.length) ++ d :: out.drop (rat out d out.length)
def rlist (L : List DefT) : List DefT := L.foldl rins []

theorem rins_perm (out : List DefT) (d : DefT) : (rins out d).Perm (out ++ [d]) := by
  unfold rins
  refine List.perm_middle.trans ?_
  rw [List.take_append_drop]
  exact (List.perm_append_singleton d out).symm
theorem defLe_trans {a b c : DefT} (h1 : defLe a b) (h2 : defLe b c) : defLe a c := defLt_ntrans h2 h1
theorem defLe_of_lt {a b : DefT} (h : defLt a b) : defLe a b := fun h2 => defLt_irrefl _ (defLt_trans h h2)
theorem getD_at (l : List DefT) {i : Nat} (h : i < l.length) : l.getD i (0, 0, []) = l[i] := by rw [List.getD_eq_getElem?_getD, List.getElem?_eq_getElem h]; rfl
theorem rins_sorted {out : List DefT} (d : DefT) (h : Sorted out) : Sorted (rins out d) := by
  have hle := rat_le out d out.length
  have hab := rat_above out d out.length
  have hbe := rat_below out d out.length
  unfold rins
  generalize rat out d out.length = r at *
  unfold Sorted at h ⊢
  have h0 := h
  rw [← List.take_append_drop r out, List.pairwise_append] at h
  obtain ⟨h1, h2, h3⟩ := h
  have hd : ∀ b ∈ out.drop r, defLe d b := by
    intro b hb
    obtain ⟨i, hi, rfl⟩ := List.getElem_of_mem hb
    rw [List.length_drop] at hi
    have := hab (r + i) (by omega) (by omega)
    rw [getD_at _ (by omega)] at this
    rw [List.getElem_drop]
    exact defLe_of_lt this
  have hu : ∀ a ∈ out.take r, defLe a d := by
    intro a ha
    obtain ⟨i, hi, rfl⟩ := List.getElem_of_mem ha
    rw [List.length_take] at hi
    have := hbe (by omega)
    rw [getD_at _ (by omega)] at this
    rw [List.getElem_take]
    by_cases e : i = r - 1
    · subst e
      exact this
    · rw [List.pairwise_iff_getElem] at h0
      exact defLe_trans (h0 i (r - 1) (by omega) (by omega) (by omega)) this
  rw [List.pairwise_append]
  refine ⟨h1, List.pairwise_cons.2 ⟨hd, h2⟩, ?_⟩
  intro a ha b hb
  rcases List.mem_cons.1 hb with rfl | hb
  · exact hu a ha
  · exact h3 a ha b hb
theorem rlist_go : ∀ (L out : List DefT), Sorted out → Sorted (L.foldl rins out) ∧ (L.foldl rins out).Perm (out ++ L)
  | [], out, h => by simpa using h
  | d :: r, out, h => by
    obtain ⟨h1, h2⟩ := rlist_go r (rins out d) (rins_sorted d h)
    refine ⟨h1, ?_⟩
    rw [List.foldl_cons]
    refine h2.trans ?_
    refine ((rins_perm out d).append_right r).trans ?_
    rw [List.append_assoc]
    exact List.Perm.refl _
theorem rlist_sorted (L : List DefT) : Sorted (rlist L) := (rlist_go L [] List.Pairwise.nil).1
theorem rlist_perm (L : List DefT) : (rlist L).Perm L := by
  have h := (rlist_go L [] List.Pairwise.nil).2
  rw [List.nil_append] at h
  exact h
theorem rlist_snoc (L : List DefT) (i : Nat) (h : i < L.length) : rlist (L.take (i + 1)) = rins (rlist (L.take i)) L[i] := by
  unfold rlist
  rw [List.take_succ_eq_append_getElem h, List.foldl_append]
  rfl
theorem Agree.list {es : List (OpK × OpV)} {L l : List DefT} (h : Agree es L) (hp : l.Perm (es.map defOf)) (hs : Sorted l) : l = rlist L :=
  (sorted_one ((rlist_perm L).trans (h.perm.trans hp.symm)) (rlist_sorted L) hs (fun a ha b hb => apart_defs h.nodup h.good a (hp.mem_iff.1 ha) b (hp.mem_iff.1 hb))).symm
end Go.Proofs.YtiaajpfebcccfaaDoor
