/-
  What slices.Insert makes of a row of integers, one element put in front of it. Conditions: the row is the call's own; the element lies in a block of its own.
-/
import Derived.Test.YtiaajpfebcccfaaInsLay
import Derived.Test.YtiaajpfebcccfaaDbA
import Derived.Test.YtiaajpfebcccfaaRowRun
import Derived.Test.YtiaajpfebcccfaaFr
namespace Go.Proofs.Ytiaajpfebcccfaa
open Go.RowKit
set_option maxRecDepth 100000

def encI (x : Int) : List Value := [.int .i64 x]
theorem encI_len (x : Int) : (encI x).length = 1 := rfl
theorem encI_one (x : Int) : ∀ u ∈ encI x, u.oneCell' = true := by
  intro u hu
  simp [encI] at hu
  subst hu
  rfl
theorem int_info : ∃ i z, Try.prog.info? 3 = some i ∧ i.zero = some z ∧ i.size = 1 ∧ i.bytes = 8 ∧ z.cells.size = 1 := by
  refine ⟨_, _, rfl, rfl, ?_, ?_, ?_⟩ <;> kernel_rfl

/-- A block's cells behind several stores one behind the other. -/
def putAll : Array Value → Nat → List Value → Array Value
  | cs, _, [] => cs
  | cs, o, v :: r => putAll (cs.setIfInBounds o v) (o + 1) r
theorem blk_setCells {b : Nat} {t : TypeId} : ∀ (vs : List Value) (w : World) (o : Nat) (cs : Array Value), w.heap[b]? = some (.cells cs t (0, 0)) → (w.setCells b o vs).heap[b]? = some (.cells (putAll cs o vs) t (0, 0))
  | [], _, _, _, h => h
  | v :: r, w, o, cs, h => blk_setCells r _ (o + 1) _ (by simp [World.setCell, Array.getElem?_modify, h])
theorem fr_setCells {b : Nat} {S : Nat → Prop} {w : World} (hb : S b ∨ w.heap.size ≤ b) : ∀ (vs : List Value) (u : World) (o : Nat), Fr S w u → Fr S w (u.setCells b o vs)
  | [], _, _, h => h
  | v :: r, _, o, h => fr_setCells hb r _ (o + 1) (h.setCell (p := ⟨b, o, none⟩) hb v)
theorem putAll_size : ∀ (vs : List Value) (cs : Array Value) (o : Nat), (putAll cs o vs).size = cs.size
  | [], _, _ => rfl
  | v :: r, cs, o => by rw [putAll, putAll_size r, Array.size_setIfInBounds]
theorem putAll_get : ∀ (vs : List Value) (cs : Array Value) (o j : Nat), o + vs.length ≤ cs.size → (putAll cs o vs)[j]? = if o ≤ j ∧ j < o + vs.length then vs[j - o]? else cs[j]?
  | [], cs, o, j, _ => by
    rw [putAll, if_neg (by simp only [List.length_nil]; omega)]
  | v :: r, cs, o, j, h => by
    simp only [List.length_cons] at h ⊢
    rw [putAll, putAll_get r _ (o + 1) j (by rw [Array.size_setIfInBounds]; omega)]
    by_cases h1 : o + 1 ≤ j ∧ j < o + 1 + r.length
    · rw [if_pos h1, if_pos (by omega), show j - o = (j - (o + 1)) + 1 by omega, List.getElem?_cons_succ]
    · rw [if_neg h1]
      by_cases h2 : j = o
      · subst h2
        rw [if_pos (by omega), Nat.sub_self, List.getElem?_cons_zero, Array.getElem?_setIfInBounds_self_of_lt (by omega)]
      · rw [if_neg (by omega), Array.getElem?_setIfInBounds_ne (by omega)]

theorem flat_ints (l : List Int) : l.flatMap encI = l.map (Value.int .i64) := by
  induction l with
  | nil => rfl
  | cons x r ih => rw [List.flatMap_cons, ih]; rfl
theorem row_of {w : World} {B g cap : Nat} {cur : Array Value} {l : List Int} (hB : B ≤ g) (hg : w.heap[g]? = some (.cells cur 3 (0, 0))) (h1 : l.length ≤ cap) (h2 : cap ≤ maxLen) (h3 : cur.size = cap) (h4 : ∀ j, j < l.length → cur[j]? = (l.map (Value.int .i64))[j]?) :
    Row w B 3 1 encI (.slice (some ⟨g, 0, none⟩) l.length cap) l := by
  refine ⟨by rw [length_flatMap_enc encI_len], .inr ⟨g, cap, cur, rfl, hB, hg, h1, h2, by omega, ?_⟩⟩
  rw [flat_ints, Nat.mul_one]
  apply List.ext_getElem?
  intro j
  rw [List.getElem?_take]
  by_cases hj : j < l.length
  · rw [if_pos hj, ← h4 j hj]
    simp
  · rw [if_neg hj, List.getElem?_eq_none (by rw [List.length_map]; omega)]

theorem zeros_size (n : Nat) : (Builtin.zeroCells (Value.int .i64 0).cells n).size = n := by simp [Builtin.zeroCells, Value.cells]
theorem front_new (w : World) (B : Nat) (x : Int) (c : Nat) (hB : B ≤ w.heap.size) :
    Row (w.drew.alloc (.cells ((([] ++ [Value.int .i64 x] : List Value)).toArray ++ Builtin.zeroCells (Value.int .i64 0).cells (grownCap w (0 + 1) c 3 - (0 + 1))) 3)) B 3 1 encI (.slice (some ⟨w.heap.size, 0, none⟩) (0 + 1) (grownCap w (0 + 1) c 3)) [x] := by
  have h1 := grownCap_ge w (0 + 1) c 3
  have h2 := grownCap_le_maxLen w (0 + 1) c 3 (by unfold maxLen; omega)
  generalize grownCap w (0 + 1) c 3 = gc at *
  refine row_of (l := [x]) hB (heap_alloc_new w.drew _) h1 h2 (by rw [Array.size_append, zeros_size]; simp; omega) (fun j hj => ?_)
  have hj0 : j = 0 := by simpa using hj
  subst hj0
  rw [List.nil_append, Array.getElem?_append_left (by simp)]
  rfl

set_option maxHeartbeats 2000000 in
theorem insert_front (w : World) (B : Nat) (ov : Value) (l : List Int) (h : Row w B 3 1 encI ov l) (vb : Nat) (x : Int) (hv : w.heap[vb]? = some (.cells #[.int .i64 x] 3 (0, 0))) (hvb : ov.ownBlock ≠ some vb) (hl : l.length ≤ 100000) (hB : B ≤ w.heap.size) :
    Calls Try.prog 16 #[ov, .int .i64 0, .slice (some ⟨vb, 0, none⟩) 1 1] w fun e w' => ∃ v', e = .returned v' ∧ Row w' B 3 1 encI v' (x :: l) ∧ Fr (fun k => ov.ownBlock = some k) w w' ∧ (v'.ownBlock = ov.ownBlock ∨ v'.ownBlock = some w.heap.size) := by
  have hvc : ∀ (j : Nat) v, [Value.int .i64 x][j]? = some v → w.cell? ⟨vb, 0 + j, none⟩ = some v := fun j v hj => by
    rw [Nat.zero_add, cell_of_row w vb j _ _ (0, 0) hv]
    simpa using hj
  have hv1 : ∀ v ∈ [Value.int .i64 x], v.oneCell' = true := encI_one x
  rcases h.own.2 with ⟨rfl, h0⟩ | ⟨g, cap, cur, rfl, hg, hgg, hn, hcap, hcur, htk⟩
  · obtain rfl : l = [] := List.eq_nil_of_length_eq_zero h0
    refine (Any2.slices_Insert_int_end_grow Try.insInt none 0 0 vb 0 1 1 [] [.int .i64 x] w (by omega) (Nat.le_refl _) (by omega) (by omega) rfl rfl (fun _ => rfl) (fun a ha => by cases ha) hvc hv1).mono ?_
    rintro e w' ⟨rfl, rfl⟩
    exact ⟨_, rfl, front_new w B x 0 hB, ((Fr.refl _ w).drew).alloc _, .inr rfl⟩
  · rw [Nat.mul_one] at hcur
    have hsome : ∀ j, j < cap → (w.cell? ⟨g, 0 + j, none⟩).isSome = true := fun j hj => by
      rw [Nat.zero_add, cell_of_row w g j _ _ (0, 0) hgg, Array.getElem?_eq_getElem (by omega)]
      rfl
    have hfz : ∀ j, w.frozen? ⟨g, j, none⟩ = false := fun j => by simp [World.frozen?, hgg]
    by_cases hne : l = []
    · subst hne
      by_cases hc0 : cap = 0
      · subst hc0
        refine (Any2.slices_Insert_int_end_grow Try.insInt (some ⟨g, 0, none⟩) 0 0 vb 0 1 1 [] [.int .i64 x] w (by omega) (Nat.le_refl _) (by omega) (by omega) rfl rfl (fun h => by cases h) (fun a ha j v hj => by simp at hj) hvc hv1).mono ?_
        rintro e w' ⟨rfl, rfl⟩
        exact ⟨_, rfl, front_new w B x 0 hB, ((Fr.refl _ w).drew).alloc _, .inr rfl⟩
      · refine (Any2.slices_Insert_int_end_room Try.insInt g 0 0 cap vb 0 1 1 [.int .i64 x] w (by omega) (by omega) (by unfold maxLen at hcap; omega) rfl (fun j hj => by simpa using hsome j (by omega)) (fun j hj => hfz _) hvc hv1).mono ?_
        rintro e w' ⟨rfl, rfl⟩
        refine ⟨_, rfl, ?_, (fr_setCells (b := g) (S := (· = g)) (.inl rfl) _ _ _ (Fr.refl _ w)).weak (fun k hk => by rw [hk]; rfl), .inl rfl⟩
        refine row_of (l := [x]) hg (blk_setCells _ _ _ _ hgg) (by simp; omega) hcap (by rw [putAll_size]; exact hcur) (fun j hj => ?_)
        have hj0 : j = 0 := by simpa using hj
        subst hj0
        rw [putAll_get _ _ _ _ (by simp; omega)]
        simp
    · have hpos : 0 < l.length := List.length_pos_iff.2 hne
      have hcl : ∀ (j : Nat) v, (l.map (Value.int .i64))[j]? = some v → w.cell? ⟨g, 0 + j, none⟩ = some v := fun j v hj => by
        have hjl : j < l.length := by simpa using (List.getElem?_eq_some_iff.1 hj).1
        rw [flat_ints, Nat.mul_one] at htk
        rw [Nat.zero_add, cell_of_row w g j _ _ (0, 0) hgg]
        have e1 := congrArg (fun z => z[j]?) htk
        simp only [List.getElem?_take, if_pos hjl] at e1
        rw [← hj, ← e1]
        simp
      have h1c : ∀ v ∈ l.map (Value.int .i64), v.oneCell' = true := fun v hv => by
        obtain ⟨y, _, rfl⟩ := List.mem_map.1 hv
        rfl
      by_cases hroom : l.length + 1 ≤ cap
      · refine (Any2.slices_Insert_int_shift Try.insInt g 0 l.length cap 0 vb 0 1 1 (l.map (Value.int .i64)) [.int .i64 x] w hpos (by omega) hroom (by unfold maxLen at hcap; omega) (fun e => hvb (by rw [e]; rfl)) (by rw [List.length_map]) rfl hcl (fun j hj => hsome j (by omega)) (fun j _ => hfz _) hvc h1c hv1
          3 3 1 cap (by simp [World.shape?, hv]) (by simp [World.shape?, hgg, hcur]) (by omega) (by simp [World.frozen?, hv]) (by simp [World.frozen?, hv])).mono ?_
        rintro e w' ⟨rfl, rfl⟩
        refine ⟨_, rfl, ?_, (fr_setCells (b := g) (S := (· = g)) (.inl rfl) _ _ _ (fr_setCells (b := g) (S := (· = g)) (.inl rfl) _ _ _ ((Fr.refl _ w).drew))).weak (fun k hk => by rw [hk]; rfl), .inl rfl⟩
        refine row_of (l := x :: l) hg (blk_setCells _ _ _ _ (blk_setCells _ _ _ _ (show w.drew.heap[g]? = _ from hgg))) (by simpa using hroom) hcap (by rw [putAll_size, putAll_size]; exact hcur) (fun j hj => ?_)
        rw [putAll_get _ _ _ _ (by rw [putAll_size]; simp; omega), putAll_get _ _ _ _ (by simp; omega)]
        simp only [List.length_cons] at hj
        rcases Nat.eq_zero_or_pos j with rfl | hj0
        · simp
        · rw [if_neg (by simp; omega), if_pos (by simp; omega)]
          obtain ⟨j, rfl⟩ : ∃ i, j = i + 1 := ⟨j - 1, by omega⟩
          simp
      · refine (Any2.slices_Insert_int_grow Try.insInt g 0 l.length cap 0 vb 0 1 1 (l.map (Value.int .i64)) [.int .i64 x] w hpos (by omega) hn (by omega) (by omega) (by rw [List.length_map]) rfl hcl hvc h1c hv1).mono ?_
        rintro e w' ⟨rfl, rfl⟩
        have h1 := grownCap_ge w (l.length + 1) cap 3
        have h2 := grownCap_le_maxLen w (l.length + 1) cap 3 (by unfold maxLen; omega)
        refine ⟨_, rfl, ?_, fr_setCells (.inr (Nat.le_refl _)) _ _ _ ((fr_setCells (.inr (Nat.le_refl _)) _ _ _ ((((Fr.refl _ w).alloc _).drew))).drew), .inr rfl⟩
        rw [show Try.insInt_ren.t 3 = 3 from rfl]
        generalize grownCap w (l.length + 1) cap 3 = gc at *
        refine row_of (l := x :: l) hB (blk_setCells _ _ _ _ (show (World.drew _).heap[w.heap.size]? = _ from blk_setCells _ _ _ _ (show (World.drew _).heap[w.heap.size]? = _ from heap_alloc_new w _))) (by simpa using h1) h2 (by rw [putAll_size, putAll_size, Array.size_append, Array.size_append, zeros_size, zeros_size]; simp; omega) (fun j hj => ?_)
        rw [putAll_get _ _ _ _ (by rw [putAll_size, Array.size_append, Array.size_append, zeros_size, zeros_size]; simp; omega), putAll_get _ _ _ _ (by rw [Array.size_append, Array.size_append, zeros_size, zeros_size]; simp; omega)]
        simp only [List.length_cons] at hj
        rcases Nat.eq_zero_or_pos j with rfl | hj0
        · simp
        · rw [if_pos (by simp; omega)]
          obtain ⟨j, rfl⟩ : ∃ i, j = i + 1 := ⟨j - 1, by omega⟩
          simp
end Go.Proofs.Ytiaajpfebcccfaa
