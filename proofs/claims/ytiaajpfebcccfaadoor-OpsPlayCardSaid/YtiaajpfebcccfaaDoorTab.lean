/-
  What the small methods of the operators' table answer: has, sides, Prefix, Infix, Postfix, Is. Conditions: the table's block holds a map of well-formed operators; the types' table reads as the program lays it.
-/
import Derived.Test.YtiaajpfebcccfaaDoorTabK
import Derived.WalkSpells
import Derived.WalkSmall
import Derived.Deep.QuietTactic
import Derived.BigQuiet
import Derived.Handy
namespace Go.Proofs.YtiaajpfebcccfaaDoor
open Go.RowKit Go.Maps
set_option maxRecDepth 100000

/-- The table of the types' sorts and sides. -/
def kSort (t : Int) : Int := if t ≤ 0 then 0 else if t ≤ 3 then 2 else if t ≤ 5 then 1 else 3
def kLeft (t : Int) : Int := if t = 1 ∨ t = 2 ∨ t = 6 then 1 else 0
def kRight (t : Int) : Int := if t = 1 ∨ t = 3 ∨ t = 4 then 1 else 0
theorem kLeft_bd (t : Int) : 0 ≤ kLeft t ∧ kLeft t ≤ 1 := by unfold kLeft; split <;> omega
theorem kRight_bd (t : Int) : 0 ≤ kRight t ∧ kRight t ≤ 1 := by unfold kRight; split <;> omega
theorem kSort_bd (t : Int) : 0 ≤ kSort t ∧ kSort t ≤ 3 := by unfold kSort; repeat' split <;> omega
def KindsAt (w : World) : Prop := ∀ t : Nat, t ≤ 7 → w.cell? ⟨0, t * 3, none⟩ = some (.int .i64 (kSort t)) ∧ w.cell? ⟨0, t * 3 + 1, none⟩ = some (.int .i64 (kLeft t)) ∧ w.cell? ⟨0, t * 3 + 2, none⟩ = some (.int .i64 (kRight t))
theorem KindsAt.lt {w : World} (h : KindsAt w) : 0 < w.heap.size := World.block_lt_of_cell? w _ (h 0 (by omega)).1
theorem KindsAt.keep {w w' : World} (h : KindsAt w) (hb : w'.heap[0]? = w.heap[0]?) : KindsAt w' := fun t ht => by
  obtain ⟨a, b, c⟩ := h t ht
  exact ⟨(World.cell?_of_block (a := ⟨0, t * 3, none⟩) hb).trans a, (World.cell?_of_block (a := ⟨0, t * 3 + 1, none⟩) hb).trans b, (World.cell?_of_block (a := ⟨0, t * 3 + 2, none⟩) hb).trans c⟩
theorem KindsAt.below {w w' : World} {B : Nat} (h : KindsAt w) (hb : Below B w w') (hB : 0 < B) : KindsAt w' := h.keep (hb.block _ hB)

/-- A well-formed operator. -/
def goodOp (x : OpK × OpV) : Prop := x.1.1 = kSort x.2.2 ∧ x.1.2.length ≤ 1000 ∧ 1 ≤ x.2.1 ∧ x.2.1 ≤ 1200 ∧ 1 ≤ x.2.2 ∧ x.2.2 ≤ 7
theorem goodOp.ok {x : OpK × OpV} (h : goodOp x) : okOpK x.1 := by
  obtain ⟨h1, h2, _⟩ := h
  have := kSort_bd x.2.2
  unfold okOpK maxLen
  omega

structure TabAt (w : World) (bt bm : Nat) (es : List (OpK × OpV)) : Prop where
  cell : w.cell? ⟨bt, 0, none⟩ = some (.map (some bm))
  map : MapAt w bm opk opv es
  good : ∀ x ∈ es, goodOp x

theorem TabAt.ok {w : World} {bt bm : Nat} {es : List (OpK × OpV)} (h : TabAt w bt bm es) : ∀ x ∈ es, okOpK x.1 := fun x hx => (h.good x hx).ok
theorem TabAt.lt {w : World} {bt bm : Nat} {es : List (OpK × OpV)} (h : TabAt w bt bm es) : bt < w.heap.size := World.block_lt_of_cell? w _ h.cell
theorem TabAt.keep {w w' : World} {bt bm : Nat} {es : List (OpK × OpV)} (h : TabAt w bt bm es) (h1 : w'.heap[bt]? = w.heap[bt]?) (h2 : w'.heap[bm]? = w.heap[bm]?) : TabAt w' bt bm es :=
  ⟨(World.cell?_of_block (a := ⟨bt, 0, none⟩) h1).trans h.cell, h.map.keep h2, h.good⟩
theorem TabAt.below {w w' : World} {bt bm B : Nat} {es : List (OpK × OpV)} (h : TabAt w bt bm es) (hb : Below B w w') (h1 : bt < B) (h2 : bm < B) : TabAt w' bt bm es := h.keep (hb.block _ h1) (hb.block _ h2)
theorem TabAt.later {w w' : World} {bt bm : Nat} {es : List (OpK × OpV)} (h : TabAt w bt bm es) (hb : Below w.heap.size w w') : TabAt w' bt bm es := h.below hb h.lt h.map.lt
theorem TabAt.drewN {w : World} {bt bm : Nat} {es : List (OpK × OpV)} (h : TabAt w bt bm es) (n : Nat) : TabAt (w.drewN n) bt bm es := h.keep rfl rfl
theorem KindsAt.later {w w' : World} (h : KindsAt w) (hb : Below w.heap.size w w') : KindsAt w' := h.below hb h.lt

/-- What a look-up tells: the value's two numbers, 0 if there is none. -/
def opGet (es : List (OpK × OpV)) (k : OpK) : OpV := (mget es k).getD (0, 0)

theorem tab_lookup {u : World} {bm : Nat} {es : List (OpK × OpV)} (h : MapAt u bm opk opv es) (hok : ∀ x ∈ es, okOpK x.1) (s : Int) (n : List UInt8) (hk : okOpK (s, n)) :
    (Instr.lookup 42 (.map (some bm)) (.agg #[.int .i64 s, .string ⟨n.toArray⟩]) true).run Tryd.prog u =
      .ok (.tuple #[.agg #[.int .i64 (opGet es (s, n)).1, .int .i64 (opGet es (s, n)).2], .bool (mget es (s, n)).isSome]) u := by
  have := h.lookup (t := 42) opKE Tryd.underlying42 (z := .agg #[.int .i64 0, .int .i64 0]) (fun u => by kernel_rfl) hok hk true
  rw [show opk (s, n) = .agg #[.int .i64 s, .string ⟨n.toArray⟩] from rfl] at this
  rw [this]
  cases hg : mget es (s, n) <;> simp [opGet, hg, opv]

set_option maxHeartbeats 400000 in
theorem has_any (w : World) (bt bm : Nat) (es : List (OpK × OpV)) (hT : TabAt w bt bm es) (s : Int) (n : List UInt8) (hk : okOpK (s, n)) :
    Calls Tryd.prog 22 #[.pointer (some ⟨bt, 0, none⟩), .int .i64 s, .string ⟨n.toArray⟩] w fun e w' => e = .returned (.bool (mget es (s, n)).isSome) ∧ Below w.heap.size w w' := by
  have hl := tab_lookup hT.map hT.ok s n hk
  have hc := hT.cell
  clear hT hk
  go_enter Tryd.func22, Tryd.ntmps22
  go_wp2
  go_ret
  exact ⟨rfl, (Below.refl _ _).alloc (Nat.le_refl _) _⟩

def tsides (es : List (OpK × OpV)) (s : Int) (n : List UInt8) : Int × Int × Int :=
  match mget es (s, n) with
  | some (p, t) => (p, p - kLeft t, p - kRight t)
  | none => (0, 0, 0)

set_option maxHeartbeats 400000 in
theorem sides_some (w : World) (bt bm : Nat) (es : List (OpK × OpV)) (hT : TabAt w bt bm es) (hK : KindsAt w) (s : Int) (n : List UInt8) (hk : okOpK (s, n))
    (p : Int) (t : Nat) (hg : mget es (s, n) = some (p, (t : Int))) (hp : 0 ≤ p ∧ p ≤ 1200) (ht : 1 ≤ t ∧ t ≤ 7) :
    Calls Tryd.prog 25 #[.pointer (some ⟨bt, 0, none⟩), .int .i64 s, .string ⟨n.toArray⟩] w fun e w' => e = .returned (.tuple #[.int .i64 p, .int .i64 (p - kLeft t), .int .i64 (p - kRight t)]) ∧ Below w.heap.size w w' := by
  have hl := tab_lookup hT.map hT.ok s n hk
  simp only [opGet, hg, Option.getD_some, Option.isSome_some] at hl
  obtain ⟨k0, k1, k2⟩ := hK t ht.2
  obtain ⟨ht1, ht2⟩ := ht
  obtain ⟨hp1, hp2⟩ := hp
  obtain ⟨l1, l2⟩ := kLeft_bd t
  obtain ⟨r1, r2⟩ := kRight_bd t
  have h8 : (t : Int) < 8 := by omega
  have h0 : 0 < w.heap.size := hK.lt
  have hc := hT.cell
  clear hT hk hK hg
  go_enter Tryd.func25, Tryd.ntmps25
  go_wp2
  go_quiet (fail)
  go_wp2
  go_ret3
  exact ⟨rfl, below_drewN ((Below.refl _ _).alloc (Nat.le_refl _) _) _⟩

set_option maxHeartbeats 400000 in
theorem sides_none (w : World) (bt bm : Nat) (es : List (OpK × OpV)) (hT : TabAt w bt bm es) (s : Int) (n : List UInt8) (hk : okOpK (s, n)) (hg : mget es (s, n) = none) :
    Calls Tryd.prog 25 #[.pointer (some ⟨bt, 0, none⟩), .int .i64 s, .string ⟨n.toArray⟩] w fun e w' => e = .returned (.tuple #[.int .i64 0, .int .i64 0, .int .i64 0]) ∧ Below w.heap.size w w' := by
  have hl := tab_lookup hT.map hT.ok s n hk
  simp only [opGet, hg, Option.getD_none, Option.isSome_none] at hl
  have hc := hT.cell
  clear hT hk hg
  go_enter Tryd.func25, Tryd.ntmps25
  go_wp2
  go_ret3
  exact ⟨rfl, (Below.refl _ _).alloc (Nat.le_refl _) _⟩

theorem sides_any (w : World) (bt bm : Nat) (es : List (OpK × OpV)) (hT : TabAt w bt bm es) (hK : KindsAt w) (s : Int) (n : List UInt8) (hk : okOpK (s, n)) :
    Calls Tryd.prog 25 #[.pointer (some ⟨bt, 0, none⟩), .int .i64 s, .string ⟨n.toArray⟩] w fun e w' =>
      e = .returned (.tuple #[.int .i64 (tsides es s n).1, .int .i64 (tsides es s n).2.1, .int .i64 (tsides es s n).2.2]) ∧ Below w.heap.size w w' := by
  unfold tsides
  cases hg : mget es (s, n) with
  | none => exact sides_none w bt bm es hT s n hk hg
  | some v =>
    obtain ⟨p, t⟩ := v
    obtain ⟨_, _, g3, g4, g5, g6⟩ := hT.good _ (mget_mem hg)
    simp only at g3 g4 g5 g6
    obtain ⟨t, rfl⟩ := Int.eq_ofNat_of_zero_le (show 0 ≤ t by omega)
    exact sides_some w bt bm es hT hK s n hk p t hg (by omega) (by omega)

def OkName (n : List UInt8) : Prop := n.length ≤ maxLen
theorem OkName.k {n : List UInt8} (h : OkName n) (s : Int) (h1 : 0 ≤ s ∧ s ≤ 3) : okOpK (s, n) := ⟨by simp only; omega, h⟩

set_option maxHeartbeats 400000 in
theorem infix_any (w : World) (bt bm : Nat) (es : List (OpK × OpV)) (hT : TabAt w bt bm es) (hK : KindsAt w) (n : List UInt8) (hn : OkName n) :
    Calls Tryd.prog 13 #[.pointer (some ⟨bt, 0, none⟩), .string ⟨n.toArray⟩] w fun e w' =>
      e = .returned (.tuple #[.int .i64 (tsides es 2 n).1, .int .i64 (tsides es 2 n).2.1, .int .i64 (tsides es 2 n).2.2]) ∧ Below w.heap.size w w' := by
  go_enter Tryd.func13, Tryd.ntmps13
  go_wp2_with (go_at_call 25; refine (sides_any _ bt bm es hT hK 2 n (hn.k 2 (by omega))).mono ?_; rintro e w1 ⟨rfl, hb⟩)
  go_ret3
  exact ⟨rfl, hb⟩

set_option maxHeartbeats 400000 in
theorem prefix_any (w : World) (bt bm : Nat) (es : List (OpK × OpV)) (hT : TabAt w bt bm es) (hK : KindsAt w) (n : List UInt8) (hn : OkName n) :
    Calls Tryd.prog 11 #[.pointer (some ⟨bt, 0, none⟩), .string ⟨n.toArray⟩] w fun e w' =>
      e = .returned (.tuple #[.int .i64 (tsides es 1 n).1, .int .i64 (tsides es 1 n).2.2]) ∧ Below w.heap.size w w' := by
  go_enter Tryd.func11, Tryd.ntmps11
  go_wp2_with (go_at_call 25; refine (sides_any _ bt bm es hT hK 1 n (hn.k 1 (by omega))).mono ?_; rintro e w1 ⟨rfl, hb⟩)
  go_ret2
  exact ⟨rfl, hb⟩

set_option maxHeartbeats 400000 in
theorem postfix_any (w : World) (bt bm : Nat) (es : List (OpK × OpV)) (hT : TabAt w bt bm es) (hK : KindsAt w) (n : List UInt8) (hn : OkName n) :
    Calls Tryd.prog 15 #[.pointer (some ⟨bt, 0, none⟩), .string ⟨n.toArray⟩] w fun e w' =>
      e = .returned (.tuple #[.int .i64 (tsides es 3 n).1, .int .i64 (tsides es 3 n).2.1]) ∧ Below w.heap.size w w' := by
  go_enter Tryd.func15, Tryd.ntmps15
  go_wp2_with (go_at_call 25; refine (sides_any _ bt bm es hT hK 3 n (hn.k 3 (by omega))).mono ?_; rintro e w1 ⟨rfl, hb⟩)
  go_ret2
  exact ⟨rfl, hb⟩
end Go.Proofs.YtiaajpfebcccfaaDoor
