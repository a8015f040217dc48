import Derived.Test.YtiffopheamnngaaGreatDoorJT04
import Derived.Handy
namespace Go.Proofs.YtiffopheamnngaaGreatDoor
open Go.RowKit Go.Maps
set_option maxRecDepth 100000
def kSort (t : Int) : Int := if t ≤ 0 then 0 else if t ≤ 3 then 2 else if t ≤ 5 then 1 else 3
def kLeft (t : Int) : Int := if t = 1 ∨ t = 2 ∨ t = 6 then 1 else 0
def kRight (t : Int) : Int := if t = 1 ∨ t = 3 ∨ t = 4 then 1 else 0
theorem kLeft_bd (t : Int) : 0 ≤ kLeft t ∧ kLeft t ≤ 1 := by unfold kLeft; split <;> omega
theorem kRight_bd (t : Int) : 0 ≤ kRight t ∧ kRight t ≤ 1 := by unfold kRight; split <;> omega
theorem kSort_bd (t : Int) : 0 ≤ kSort t ∧ kSort t ≤ 3 := by unfold kSort; repeat' split <;> omega
def KindsAt (w : World) : Prop := ∀ t : Nat, t ≤ 7 → w.cell? ⟨0, t * 3, none⟩ = some (.int .i64 (kSort t)) ∧ w.cell? ⟨0, t * 3 + 1, none⟩ = some (.int .i64 (kLeft t)) ∧ w.cell? ⟨0, t * 3 + 2, none⟩ = some (.int .i64 (kRight t))
theorem KindsAt.lt {w : World} (h : KindsAt w) : 0 < w.heap.size := World.block_lt_of_cell? w _ (h 0 (by omega)).1
theorem KindsAt.keep {w w' : World} (h : KindsAt w) (hb : w'.heap[0]? = w.heap[0]?) : KindsAt w' := fun t ht => by
 obtain ⟨a, b, c⟩ := h t ht
 exact ⟨(World.cell?_of_block (a := ⟨0, t * 3, none⟩) hb).trans a, (World.cell?_of_block (a := ⟨0, t * 3 + 1, none⟩) hb).trans b, (World.cell?_of_block (a := ⟨0, t * 3 + 2, none⟩) hb).trans c⟩
theorem KindsAt.below {w w' : World} {B : Nat} (h : KindsAt w) (hb : Below B w w') (hB : 0 < B) : KindsAt w' := h.keep (hb.block _ hB)
def goodOp (x : OpK × OpV) : Prop := x.1.1 = kSort x.2.2 ∧ x.1.2.length ≤ 1000 ∧ 1 ≤ x.2.1 ∧ x.2.1 ≤ 1200 ∧ 1 ≤ x.2.2 ∧ x.2.2 ≤ 7
theorem goodOp.ok {x : OpK × OpV} (h : goodOp x) : okOpK x.1 := by
 obtain ⟨h1, h2, _⟩ := h
 have := kSort_bd x.2.2
 unfold okOpK maxLen
 omega
structure TabAt (w : World) (bt bm : Nat) (es : List (OpK × OpV)) : Prop where
 cell : w.cell? ⟨bt, 0, none⟩ = some (.map (some bm))
 map : MapAt w bm opk opv es
 good : ∀ x ∈ es, goodOp x
theorem TabAt.ok {w : World} {bt bm : Nat} {es : List (OpK × OpV)} (h : TabAt w bt bm es) : ∀ x ∈ es, okOpK x.1 := fun x hx => (h.good x hx).ok
theorem TabAt.lt {w : World} {bt bm : Nat} {es : List (OpK × OpV)} (h : TabAt w bt bm es) : bt < w.heap.size := World.block_lt_of_cell? w _ h.cell
theorem TabAt.keep {w w' : World} {bt bm : Nat} {es : List (OpK × OpV)} (h : TabAt w bt bm es) (h1 : w'.heap[bt]? = w.heap[bt]?) (h2 : w'.heap[bm]? = w.heap[bm]?) : TabAt w' bt bm es :=
 ⟨(World.cell?_of_block (a := ⟨bt, 0, none⟩) h1).trans h.cell, h.map.keep h2, h.good⟩
theorem TabAt.below {w w' : World} {bt bm B : Nat} {es : List (OpK × OpV)} (h : TabAt w bt bm es) (hb : Below B w w') (h1 : bt < B) (h2 : bm < B) : TabAt w' bt bm es := h.keep (hb.block _ h1) (hb.block _ h2)
theorem TabAt.later {w w' : World} {bt bm : Nat} {es : List (OpK × OpV)} (h : TabAt w bt bm es) (hb : Below w.heap.size w w') : TabAt w' bt bm es := h.below hb h.lt h.map.lt
theorem KindsAt.later {w w' : World} (h : KindsAt w) (hb : Below w.heap.size w w') : KindsAt w' := h.below hb h.lt
def opGet (es : List (OpK × OpV)) (k : OpK) : OpV := (mget es k).getD (0, 0)
theorem tab_lookup {u : World} {bm : Nat} {es : List (OpK × OpV)} (h : MapAt u bm opk opv es) (hok : ∀ x ∈ es, okOpK x.1) (s : Int) (n : List UInt8) (hk : okOpK (s, n)) :
    (Instr.lookup 84 (.map (some bm)) (.agg #[.int .i64 s, .string ⟨n.toArray⟩]) true).run Tryz.prog u =
      .ok (.tuple #[.agg #[.int .i64 (opGet es (s, n)).1, .int .i64 (opGet es (s, n)).2], .bool (mget es (s, n)).isSome]) u := by
 have := h.lookup (t := 84) opKE Tryz.underlying84 (z := .agg #[.int .i64 0, .int .i64 0]) (fun u => by kernel_rfl) hok hk true
 rw [show opk (s, n) = .agg #[.int .i64 s, .string ⟨n.toArray⟩] from rfl] at this
 rw [this]
 cases hg : mget es (s, n) <;> simp [opGet, hg, opv]
set_option maxHeartbeats 400000 in
theorem has_any (w : World) (bt bm : Nat) (es : List (OpK × OpV)) (hT : TabAt w bt bm es) (s : Int) (n : List UInt8) (hk : okOpK (s, n)) :
    Calls Tryz.prog 40 #[.pointer (some ⟨bt, 0, none⟩), .int .i64 s, .string ⟨n.toArray⟩] w fun e w' => e = .returned (.bool (mget es (s, n)).isSome) ∧ Below w.heap.size w w' := by
 have hl := tab_lookup hT.map hT.ok s n hk
 have hc := hT.cell
 clear hT hk
 go_enter Tryz.func40, Tryz.ntmps40
 go_wp2
 go_ret
 exact ⟨rfl, (Below.refl _ _).alloc (Nat.le_refl _) _⟩
def tsides (es : List (OpK × OpV)) (s : Int) (n : List UInt8) : Int × Int × Int :=
 match mget es (s, n) with
 | some (p, t) => (p, p - kLeft t, p - kRight t)
 | none => (0, 0, 0)
set_option maxHeartbeats 400000 in
theorem sides_some (w : World) (bt bm : Nat) (es : List (OpK × OpV)) (hT : TabAt w bt bm es) (hK : KindsAt w) (s : Int) (n : List UInt8) (hk : okOpK (s, n))
    (p : Int) (t : Nat) (hg : mget es (s, n) = some (p, (t : Int))) (hp : 0 ≤ p ∧ p ≤ 1200) (ht : 1 ≤ t ∧ t ≤ 7) :
    Calls Tryz.prog 83 #[.pointer (some ⟨bt, 0, none⟩), .int .i64 s, .string ⟨n.toArray⟩] w fun e w' => e = .returned (.tuple #[.int .i64 p, .int .i64 (p - kLeft t), .int .i64 (p - kRight t)]) ∧ Below w.heap.size w w' := by
 have hl := tab_lookup hT.map hT.ok s n hk
 simp only [opGet, hg, Option.getD_some, Option.isSome_some] at hl
 obtain ⟨k0, k1, k2⟩ := hK t ht.2
 obtain ⟨ht1, ht2⟩ := ht
 obtain ⟨hp1, hp2⟩ := hp
 obtain ⟨l1, l2⟩ := kLeft_bd t
 obtain ⟨r1, r2⟩ := kRight_bd t
 have h8 : (t : Int) < 8 := by omega
 have h0 : 0 < w.heap.size := hK.lt
 have hc := hT.cell
 clear hT hk hK hg
 go_enter Tryz.func83, Tryz.ntmps83
 go_wp2
 go_quiet (fail)
 go_wp2
 go_ret3
 exact ⟨rfl, below_drewN ((Below.refl _ _).alloc (Nat.le_refl _) _) _⟩
set_option maxHeartbeats 400000 in
theorem sides_none (w : World) (bt bm : Nat) (es : List (OpK × OpV)) (hT : TabAt w bt bm es) (s : Int) (n : List UInt8) (hk : okOpK (s, n)) (hg : mget es (s, n) = none) :
    Calls Tryz.prog 83 #[.pointer (some ⟨bt, 0, none⟩), .int .i64 s, .string ⟨n.toArray⟩] w fun e w' => e = .returned (.tuple #[.int .i64 0, .int .i64 0, .int .i64 0]) ∧ Below w.heap.size w w' := by
 have hl := tab_lookup hT.map hT.ok s n hk
 simp only [opGet, hg, Option.getD_none, Option.isSome_none] at hl
 have hc := hT.cell
 clear hT hk hg
 go_enter Tryz.func83, Tryz.ntmps83
 go_wp2
 go_ret3
 exact ⟨rfl, (Below.refl _ _).alloc (Nat.le_refl _) _⟩
theorem sides_any (w : World) (bt bm : Nat) (es : List (OpK × OpV)) (hT : TabAt w bt bm es) (hK : KindsAt w) (s : Int) (n : List UInt8) (hk : okOpK (s, n)) :
    Calls Tryz.prog 83 #[.pointer (some ⟨bt, 0, none⟩), .int .i64 s, .string ⟨n.toArray⟩] w fun e w' =>
     e = .returned (.tuple #[.int .i64 (tsides es s n).1, .int .i64 (tsides es s n).2.1, .int .i64 (tsides es s n).2.2]) ∧ Below w.heap.size w w' := by
 unfold tsides
 cases hg : mget es (s, n) with
 | none => exact sides_none w bt bm es hT s n hk hg
 | some v =>
  obtain ⟨p, t⟩ := v
  obtain ⟨_, _, g3, g4, g5, g6⟩ := hT.good _ (mget_mem hg)
  simp only at g3 g4 g5 g6
  obtain ⟨t, rfl⟩ := Int.eq_ofNat_of_zero_le (show 0 ≤ t by omega)
  exact sides_some w bt bm es hT hK s n hk p t hg (by omega) (by omega)
def OkName (n : List UInt8) : Prop := n.length ≤ maxLen
theorem OkName.k {n : List UInt8} (h : OkName n) (s : Int) (h1 : 0 ≤ s ∧ s ≤ 3) : okOpK (s, n) := ⟨by simp only; omega, h⟩
set_option maxHeartbeats 400000 in
theorem infix_any (w : World) (bt bm : Nat) (es : List (OpK × OpV)) (hT : TabAt w bt bm es) (hK : KindsAt w) (n : List UInt8) (hn : OkName n) :
    Calls Tryz.prog 84 #[.pointer (some ⟨bt, 0, none⟩), .string ⟨n.toArray⟩] w fun e w' =>
     e = .returned (.tuple #[.int .i64 (tsides es 2 n).1, .int .i64 (tsides es 2 n).2.1, .int .i64 (tsides es 2 n).2.2]) ∧ Below w.heap.size w w' := by
 go_enter Tryz.func84, Tryz.ntmps84
 go_wp2_with (go_at_call 83; refine (sides_any _ bt bm es hT hK 2 n (hn.k 2 (by omega))).mono ?_; rintro e w1 ⟨rfl, hb⟩)
 go_ret3
 exact ⟨rfl, hb⟩
set_option maxHeartbeats 400000 in
theorem prefix_any (w : World) (bt bm : Nat) (es : List (OpK × OpV)) (hT : TabAt w bt bm es) (hK : KindsAt w) (n : List UInt8) (hn : OkName n) :
    Calls Tryz.prog 59 #[.pointer (some ⟨bt, 0, none⟩), .string ⟨n.toArray⟩] w fun e w' =>
     e = .returned (.tuple #[.int .i64 (tsides es 1 n).1, .int .i64 (tsides es 1 n).2.2]) ∧ Below w.heap.size w w' := by
 go_enter Tryz.func59, Tryz.ntmps59
 go_wp2_with (go_at_call 83; refine (sides_any _ bt bm es hT hK 1 n (hn.k 1 (by omega))).mono ?_; rintro e w1 ⟨rfl, hb⟩)
 go_ret2
 exact ⟨rfl, hb⟩
set_option maxHeartbeats 400000 in
theorem postfix_any (w : World) (bt bm : Nat) (es : List (OpK × OpV)) (hT : TabAt w bt bm es) (hK : KindsAt w) (n : List UInt8) (hn : OkName n) :
    Calls Tryz.prog 85 #[.pointer (some ⟨bt, 0, none⟩), .string ⟨n.toArray⟩] w fun e w' =>
     e = .returned (.tuple #[.int .i64 (tsides es 3 n).1, .int .i64 (tsides es 3 n).2.1]) ∧ Below w.heap.size w w' := by
 go_enter Tryz.func85, Tryz.ntmps85
 go_wp2_with (go_at_call 83; refine (sides_any _ bt bm es hT hK 3 n (hn.k 3 (by omega))).mono ?_; rintro e w1 ⟨rfl, hb⟩)
 go_ret2
 exact ⟨rfl, hb⟩
theorem beq_str (a b : List UInt8) (h : a ≠ b) : (a == b) = false := by simpa using h
def opErr (es : List (OpK × OpV)) (p t : Int) (n : List UInt8) : Int :=
 if p < 0 ∨ 1200 < p ∨ t < 1 ∨ 7 < t ∨ 1000 < n.length then 2
 else if n = [44] ∨ n = [124] ∨ n = [91, 93] ∨ n = [123, 125] then 15
 else if p = 0 then 0
 else if (kSort t = 2 ∧ (mget es (3, n)).isSome = true) ∨ (kSort t = 3 ∧ (mget es (2, n)).isSome = true) then 15
 else if 256 ≤ es.length ∧ (mget es (kSort t, n)).isSome = false then 9 else 0
def opTab (es : List (OpK × OpV)) (p t : Int) (n : List UInt8) : List (OpK × OpV) :=
 if opErr es p t n ≠ 0 then es else if p = 0 then mdel es (kSort t, n) else mput es (kSort t, n) (p, t)
theorem mem_mdel {κ ν : Type} [DecidableEq κ] {l : List (κ × ν)} {k : κ} {x : κ × ν} (h : x ∈ mdel l k) : x ∈ l := (List.mem_filter.1 h).1
theorem mem_mput {κ ν : Type} [DecidableEq κ] {l : List (κ × ν)} {k : κ} {v : ν} {x : κ × ν} (h : x ∈ mput l k v) : x ∈ l ∨ x = (k, v) := by
 unfold mput at h
 split at h
 ·obtain ⟨y, hy, rfl⟩ := List.mem_map.1 h
  split
  ·exact .inr rfl
  ·exact .inl hy
 ·rcases List.mem_append.1 h with h | h
  ·exact .inl h
  ·exact .inr (by simpa using h)
theorem TabAt.changed {w w' : World} {bt bm : Nat} {es es' : List (OpK × OpV)} (hT : TabAt w bt bm es) (hF : Fr (· = bm) w w') (hbb : bt ≠ bm) (hM : MapAt w' bm opk opv es') (hg : ∀ x ∈ es', goodOp x) : TabAt w' bt bm es' :=
 ⟨(hF.cell (p := ⟨bt, 0, none⟩) hT.lt hbb).trans hT.cell, hM, hg⟩
set_option maxHeartbeats 400000 in
theorem op_ok10 (w : World) (bt bm : Nat) (es : List (OpK × OpV)) (hT : TabAt w bt bm es) (hK : KindsAt w) (hbb : bt ≠ bm) (p : Int) (t : Nat) (n : List UInt8) (hn : n.length ≤ 1000) (hp : 1 ≤ p ∧ p ≤ 1200) (ht : 1 ≤ t ∧ t ≤ 7)
    (h1 : n ≠ [44]) (h2 : n ≠ [124]) (h3 : n ≠ [91, 93]) (h4 : n ≠ [123, 125]) (hs : kSort t = 1) (hr : es.length < 256) :
    Calls Tryz.prog 15 #[.pointer (some ⟨bt, 0, none⟩), .int .i64 p, .int .i64 t, .string ⟨n.toArray⟩] w fun e w' =>
     e = .returned (.int .i64 0) ∧ TabAt w' bt bm (mput es (1, n) (p, (t : Int))) ∧ Fr (· = bm) w w' := by
 obtain ⟨k0, -, -⟩ := hK t ht.2
 obtain ⟨ht1, ht2⟩ := ht
 obtain ⟨hp1, hp2⟩ := hp
 have h8 : (t : Int) < 8 := by omega
 have hc := hT.cell
 have hlt := hT.lt
 have e1 := beq_str n _ h1
 have e2 := beq_str n _ h2
 have e3 := beq_str n _ h3
 have e4 := beq_str n _ h4
 have h0 : 0 < w.heap.size := hK.lt
 rw [hs] at k0
 have HS : Hid (kSort (t : Int) = 1) := hs
 have hmn := fun (u : World) => run_eql_map_nil (P := Tryz.prog) u 84 98 93 (some bm) Tryz.underlying84
 have hb0 : Below w.heap.size w (w.alloc (.cells #[.int .i64 1, .string ⟨n.toArray⟩] 98)) := (Below.refl _ _).alloc (Nat.le_refl _) _
 have hT0 := hT.later hb0
 have hl0 := hT0.map.len (P := Tryz.prog) (t := 84) (ty := 3) Tryz.underlying84
 have HT := Lib.hid hT
 have HT0 := Lib.hid hT0
 clear hT hT0 hK h1 h2 h3 h4 hs
 have e5 : (p == 0) = false := by simp; omega
 have HG : Hid (∀ x ∈ mput es (1, n) (p, (t : Int)), goodOp x) := by
  intro x hx
  rcases mem_mput hx with hx | rfl
  ·exact HT.out.good x hx
  ·exact ⟨HS.out.symm, hn, by simp only; omega, by simp only; omega, by simp only; omega, by simp only; omega⟩
 go_enter Tryz.func15, Tryz.ntmps15
 go_wp2_with fail
 obtain ⟨w9, hup, hM, hG, -⟩ := MapAt.update (P := Tryz.prog) (t := 84) opKE Tryz.underlying84 HT0.out.map.drew HT.out.ok (k := (1, n)) ⟨by simp, by unfold maxLen; simp; omega⟩ ((p, (t : Int)) : OpV)
 rw [show opk (1, n) = .agg #[.int .i64 1, .string ⟨n.toArray⟩] from rfl, show opv (p, (t : Int)) = .agg #[.int .i64 p, .int .i64 t] from rfl] at hup
 have HM := Lib.hid hM
 have HF : Hid (Fr (· = bm) w w9) := (((Fr.of_below _ hb0).drew).grown hG (fun g hg => .inl (Option.some.inj hg).symm))
 clear hM hG
 go_region
 go_wp2
 go_ret
 exact ⟨rfl, HT.out.changed HF.out hbb HM.out HG.out, HF.out⟩
set_option maxHeartbeats 400000 in
theorem op_ok11 (w : World) (bt bm : Nat) (es : List (OpK × OpV)) (hT : TabAt w bt bm es) (hK : KindsAt w) (hbb : bt ≠ bm) (p : Int) (t : Nat) (n : List UInt8) (hn : n.length ≤ 1000) (hp : 1 ≤ p ∧ p ≤ 1200) (ht : 1 ≤ t ∧ t ≤ 7)
    (h1 : n ≠ [44]) (h2 : n ≠ [124]) (h3 : n ≠ [91, 93]) (h4 : n ≠ [123, 125]) (hs : kSort t = 1) (hr : 256 ≤ es.length) (hh : (mget es (1, n)).isSome = true) :
    Calls Tryz.prog 15 #[.pointer (some ⟨bt, 0, none⟩), .int .i64 p, .int .i64 t, .string ⟨n.toArray⟩] w fun e w' =>
     e = .returned (.int .i64 0) ∧ TabAt w' bt bm (mput es (1, n) (p, (t : Int))) ∧ Fr (· = bm) w w' := by
 obtain ⟨k0, -, -⟩ := hK t ht.2
 obtain ⟨ht1, ht2⟩ := ht
 obtain ⟨hp1, hp2⟩ := hp
 have h8 : (t : Int) < 8 := by omega
 have hc := hT.cell
 have hlt := hT.lt
 have e1 := beq_str n _ h1
 have e2 := beq_str n _ h2
 have e3 := beq_str n _ h3
 have e4 := beq_str n _ h4
 have h0 : 0 < w.heap.size := hK.lt
 rw [hs] at k0
 have HS : Hid (kSort (t : Int) = 1) := hs
 have hmn := fun (u : World) => run_eql_map_nil (P := Tryz.prog) u 84 98 93 (some bm) Tryz.underlying84
 have hb0 : Below w.heap.size w (w.alloc (.cells #[.int .i64 1, .string ⟨n.toArray⟩] 98)) := (Below.refl _ _).alloc (Nat.le_refl _) _
 have hT0 := hT.later hb0
 have hl0 := hT0.map.len (P := Tryz.prog) (t := 84) (ty := 3) Tryz.underlying84
 have HT := Lib.hid hT
 have HT0 := Lib.hid hT0
 clear hT hT0 hK h1 h2 h3 h4 hs
 have e5 : (p == 0) = false := by simp; omega
 have HG : Hid (∀ x ∈ mput es (1, n) (p, (t : Int)), goodOp x) := by
  intro x hx
  rcases mem_mput hx with hx | rfl
  ·exact HT.out.good x hx
  ·exact ⟨HS.out.symm, hn, by simp only; omega, by simp only; omega, by simp only; omega, by simp only; omega⟩
 go_enter Tryz.func15, Tryz.ntmps15
 go_wp2_with fail
 refine (has_any _ bt bm es HT0.out 1 n ⟨by simp, by unfold maxLen; simp; omega⟩).mono ?_
 rintro e w1 ⟨rfl, hc1⟩
 have hb1 := hb0.trans (hc1.mono hb0.size)
 have hT1 := HT.out.later hb1
 have hcell1 := hT1.cell
 have hk1 := hc1.cell (p := ⟨w.heap.size, 0, none⟩) (by simp)
 have hk1' := hc1.cell (p := ⟨w.heap.size, 1, none⟩) (by simp)
 have hl1 := hT1.map.len (P := Tryz.prog) (t := 84) (ty := 3) Tryz.underlying84
 have HT1 := Lib.hid hT1
 clear hT1
 simp only [World.cell?_alloc_new, List.getElem?_toArray, List.getElem?_cons_zero, List.getElem?_cons_succ] at hk1 hk1'
 go_wp2_with fail
 obtain ⟨w9, hup, hM, hG, -⟩ := MapAt.update (P := Tryz.prog) (t := 84) opKE Tryz.underlying84 HT1.out.map.drew HT.out.ok (k := (1, n)) ⟨by simp, by unfold maxLen; simp; omega⟩ ((p, (t : Int)) : OpV)
 rw [show opk (1, n) = .agg #[.int .i64 1, .string ⟨n.toArray⟩] from rfl, show opv (p, (t : Int)) = .agg #[.int .i64 p, .int .i64 t] from rfl] at hup
 have HM := Lib.hid hM
 have HF : Hid (Fr (· = bm) w w9) := (((Fr.of_below _ hb1).drew).grown hG (fun g hg => .inl (Option.some.inj hg).symm))
 clear hM hG
 go_region
 go_wp2
 go_ret
 exact ⟨rfl, HT.out.changed HF.out hbb HM.out HG.out, HF.out⟩
set_option maxHeartbeats 400000 in
theorem op_full1 (w : World) (bt bm : Nat) (es : List (OpK × OpV)) (hT : TabAt w bt bm es) (hK : KindsAt w) (p : Int) (t : Nat) (n : List UInt8) (hn : n.length ≤ 1000) (hp : 1 ≤ p ∧ p ≤ 1200) (ht : 1 ≤ t ∧ t ≤ 7)
    (h1 : n ≠ [44]) (h2 : n ≠ [124]) (h3 : n ≠ [91, 93]) (h4 : n ≠ [123, 125]) (hs : kSort t = 1) (hr : 256 ≤ es.length) (hh : (mget es (1, n)).isSome = false) :
    Calls Tryz.prog 15 #[.pointer (some ⟨bt, 0, none⟩), .int .i64 p, .int .i64 t, .string ⟨n.toArray⟩] w fun e w' =>
     e = .returned (.int .i64 9) ∧ TabAt w' bt bm es ∧ Fr (· = bm) w w' := by
 obtain ⟨k0, -, -⟩ := hK t ht.2
 obtain ⟨ht1, ht2⟩ := ht
 obtain ⟨hp1, hp2⟩ := hp
 have h8 : (t : Int) < 8 := by omega
 have hc := hT.cell
 have hlt := hT.lt
 have e1 := beq_str n _ h1
 have e2 := beq_str n _ h2
 have e3 := beq_str n _ h3
 have e4 := beq_str n _ h4
 have h0 : 0 < w.heap.size := hK.lt
 rw [hs] at k0
 have HS : Hid (kSort (t : Int) = 1) := hs
 have hmn := fun (u : World) => run_eql_map_nil (P := Tryz.prog) u 84 98 93 (some bm) Tryz.underlying84
 have hb0 : Below w.heap.size w (w.alloc (.cells #[.int .i64 1, .string ⟨n.toArray⟩] 98)) := (Below.refl _ _).alloc (Nat.le_refl _) _
 have hT0 := hT.later hb0
 have hl0 := hT0.map.len (P := Tryz.prog) (t := 84) (ty := 3) Tryz.underlying84
 have HT := Lib.hid hT
 have HT0 := Lib.hid hT0
 clear hT hT0 hK h1 h2 h3 h4 hs
 have e5 : (p == 0) = false := by simp; omega
 go_enter Tryz.func15, Tryz.ntmps15
 go_wp2_with fail
 refine (has_any _ bt bm es HT0.out 1 n ⟨by simp, by unfold maxLen; simp; omega⟩).mono ?_
 rintro e w1 ⟨rfl, hc1⟩
 have hb1 := hb0.trans (hc1.mono hb0.size)
 have hT1 := HT.out.later hb1
 have hcell1 := hT1.cell
 have hk1 := hc1.cell (p := ⟨w.heap.size, 0, none⟩) (by simp)
 have hk1' := hc1.cell (p := ⟨w.heap.size, 1, none⟩) (by simp)
 have hl1 := hT1.map.len (P := Tryz.prog) (t := 84) (ty := 3) Tryz.underlying84
 have HT1 := Lib.hid hT1
 clear hT1
 simp only [World.cell?_alloc_new, List.getElem?_toArray, List.getElem?_cons_zero, List.getElem?_cons_succ] at hk1 hk1'
 go_wp2_with fail
 go_ret
 exact ⟨rfl, HT1.out, .of_below _ hb1⟩
set_option maxHeartbeats 400000 in
theorem op_del1 (w : World) (bt bm : Nat) (es : List (OpK × OpV)) (hT : TabAt w bt bm es) (hK : KindsAt w) (hbb : bt ≠ bm) (p : Int) (t : Nat) (n : List UInt8) (hn : n.length ≤ 1000) (hp : p = 0 ∧ True) (ht : 1 ≤ t ∧ t ≤ 7)
    (h1 : n ≠ [44]) (h2 : n ≠ [124]) (h3 : n ≠ [91, 93]) (h4 : n ≠ [123, 125]) (hs : kSort t = 1) :
    Calls Tryz.prog 15 #[.pointer (some ⟨bt, 0, none⟩), .int .i64 p, .int .i64 t, .string ⟨n.toArray⟩] w fun e w' =>
     e = .returned (.int .i64 0) ∧ TabAt w' bt bm (mdel es (1, n)) ∧ Fr (· = bm) w w' := by
 obtain ⟨k0, -, -⟩ := hK t ht.2
 obtain ⟨ht1, ht2⟩ := ht
 obtain ⟨rfl, -⟩ := hp
 have h8 : (t : Int) < 8 := by omega
 have hc := hT.cell
 have hlt := hT.lt
 have e1 := beq_str n _ h1
 have e2 := beq_str n _ h2
 have e3 := beq_str n _ h3
 have e4 := beq_str n _ h4
 have h0 : 0 < w.heap.size := hK.lt
 rw [hs] at k0
 have HS : Hid (kSort (t : Int) = 1) := hs
 have hmn := fun (u : World) => run_eql_map_nil (P := Tryz.prog) u 84 98 93 (some bm) Tryz.underlying84
 have hb0 : Below w.heap.size w (w.alloc (.cells #[.int .i64 1, .string ⟨n.toArray⟩] 98)) := (Below.refl _ _).alloc (Nat.le_refl _) _
 have hT0 := hT.later hb0
 have hl0 := hT0.map.len (P := Tryz.prog) (t := 84) (ty := 3) Tryz.underlying84
 have HT := Lib.hid hT
 have HT0 := Lib.hid hT0
 clear hT hT0 hK h1 h2 h3 h4 hs
 obtain ⟨w9, hup, hM, hG, -⟩ := MapAt.delete (P := Tryz.prog) (t := 84) (ty := 0) opKE Tryz.underlying84 HT0.out.map.drew HT.out.ok (k := (1, n)) ⟨by simp, by unfold maxLen; simp; omega⟩ 98
 rw [show opk (1, n) = .agg #[.int .i64 1, .string ⟨n.toArray⟩] from rfl] at hup
 have HM := Lib.hid hM
 have HF : Hid (Fr (· = bm) w w9) := (((Fr.of_below _ hb0).drew).grown hG (fun g hg => .inl (Option.some.inj hg).symm))
 clear hM hG
 go_enter Tryz.func15, Tryz.ntmps15
 go_wp2
 go_region
 go_wp2
 go_ret
 exact ⟨rfl, HT.out.changed HF.out hbb HM.out (fun x hx => HT.out.good x (mem_mdel hx)), HF.out⟩
set_option maxHeartbeats 400000 in
theorem op_ok20 (w : World) (bt bm : Nat) (es : List (OpK × OpV)) (hT : TabAt w bt bm es) (hK : KindsAt w) (hbb : bt ≠ bm) (p : Int) (t : Nat) (n : List UInt8) (hn : n.length ≤ 1000) (hp : 1 ≤ p ∧ p ≤ 1200) (ht : 1 ≤ t ∧ t ≤ 7)
    (h1 : n ≠ [44]) (h2 : n ≠ [124]) (h3 : n ≠ [91, 93]) (h4 : n ≠ [123, 125]) (hs : kSort t = 2) (hr : es.length < 256) (hq : (mget es (3, n)).isSome = false) :
    Calls Tryz.prog 15 #[.pointer (some ⟨bt, 0, none⟩), .int .i64 p, .int .i64 t, .string ⟨n.toArray⟩] w fun e w' =>
     e = .returned (.int .i64 0) ∧ TabAt w' bt bm (mput es (2, n) (p, (t : Int))) ∧ Fr (· = bm) w w' := by
 obtain ⟨k0, -, -⟩ := hK t ht.2
 obtain ⟨ht1, ht2⟩ := ht
 obtain ⟨hp1, hp2⟩ := hp
 have h8 : (t : Int) < 8 := by omega
 have hc := hT.cell
 have hlt := hT.lt
 have e1 := beq_str n _ h1
 have e2 := beq_str n _ h2
 have e3 := beq_str n _ h3
 have e4 := beq_str n _ h4
 have h0 : 0 < w.heap.size := hK.lt
 rw [hs] at k0
 have HS : Hid (kSort (t : Int) = 2) := hs
 have hmn := fun (u : World) => run_eql_map_nil (P := Tryz.prog) u 84 98 93 (some bm) Tryz.underlying84
 have hb0 : Below w.heap.size w (w.alloc (.cells #[.int .i64 2, .string ⟨n.toArray⟩] 98)) := (Below.refl _ _).alloc (Nat.le_refl _) _
 have hT0 := hT.later hb0
 have hl0 := hT0.map.len (P := Tryz.prog) (t := 84) (ty := 3) Tryz.underlying84
 have HT := Lib.hid hT
 have HT0 := Lib.hid hT0
 clear hT hT0 hK h1 h2 h3 h4 hs
 have e5 : (p == 0) = false := by simp; omega
 have HG : Hid (∀ x ∈ mput es (2, n) (p, (t : Int)), goodOp x) := by
  intro x hx
  rcases mem_mput hx with hx | rfl
  ·exact HT.out.good x hx
  ·exact ⟨HS.out.symm, hn, by simp only; omega, by simp only; omega, by simp only; omega, by simp only; omega⟩
 go_enter Tryz.func15, Tryz.ntmps15
 go_wp2_with fail
 refine (has_any _ bt bm es HT0.out 3 n ⟨by simp, by unfold maxLen; simp; omega⟩).mono ?_
 rintro e w1 ⟨rfl, hc1⟩
 have hb1 := hb0.trans (hc1.mono hb0.size)
 have hT1 := HT.out.later hb1
 have hcell1 := hT1.cell
 have hk1 := hc1.cell (p := ⟨w.heap.size, 0, none⟩) (by simp)
 have hk1' := hc1.cell (p := ⟨w.heap.size, 1, none⟩) (by simp)
 have hl1 := hT1.map.len (P := Tryz.prog) (t := 84) (ty := 3) Tryz.underlying84
 have HT1 := Lib.hid hT1
 clear hT1
 simp only [World.cell?_alloc_new, List.getElem?_toArray, List.getElem?_cons_zero, List.getElem?_cons_succ] at hk1 hk1'
 go_wp2_with fail
 obtain ⟨w9, hup, hM, hG, -⟩ := MapAt.update (P := Tryz.prog) (t := 84) opKE Tryz.underlying84 HT1.out.map.drew HT.out.ok (k := (2, n)) ⟨by simp, by unfold maxLen; simp; omega⟩ ((p, (t : Int)) : OpV)
 rw [show opk (2, n) = .agg #[.int .i64 2, .string ⟨n.toArray⟩] from rfl, show opv (p, (t : Int)) = .agg #[.int .i64 p, .int .i64 t] from rfl] at hup
 have HM := Lib.hid hM
 have HF : Hid (Fr (· = bm) w w9) := (((Fr.of_below _ hb1).drew).grown hG (fun g hg => .inl (Option.some.inj hg).symm))
 clear hM hG
 go_region
 go_wp2
 go_ret
 exact ⟨rfl, HT.out.changed HF.out hbb HM.out HG.out, HF.out⟩
set_option maxHeartbeats 400000 in
theorem op_ok21 (w : World) (bt bm : Nat) (es : List (OpK × OpV)) (hT : TabAt w bt bm es) (hK : KindsAt w) (hbb : bt ≠ bm) (p : Int) (t : Nat) (n : List UInt8) (hn : n.length ≤ 1000) (hp : 1 ≤ p ∧ p ≤ 1200) (ht : 1 ≤ t ∧ t ≤ 7)
    (h1 : n ≠ [44]) (h2 : n ≠ [124]) (h3 : n ≠ [91, 93]) (h4 : n ≠ [123, 125]) (hs : kSort t = 2) (hr : 256 ≤ es.length) (hh : (mget es (2, n)).isSome = true) (hq : (mget es (3, n)).isSome = false) :
    Calls Tryz.prog 15 #[.pointer (some ⟨bt, 0, none⟩), .int .i64 p, .int .i64 t, .string ⟨n.toArray⟩] w fun e w' =>
     e = .returned (.int .i64 0) ∧ TabAt w' bt bm (mput es (2, n) (p, (t : Int))) ∧ Fr (· = bm) w w' := by
 obtain ⟨k0, -, -⟩ := hK t ht.2
 obtain ⟨ht1, ht2⟩ := ht
 obtain ⟨hp1, hp2⟩ := hp
 have h8 : (t : Int) < 8 := by omega
 have hc := hT.cell
 have hlt := hT.lt
 have e1 := beq_str n _ h1
 have e2 := beq_str n _ h2
 have e3 := beq_str n _ h3
 have e4 := beq_str n _ h4
 have h0 : 0 < w.heap.size := hK.lt
 rw [hs] at k0
 have HS : Hid (kSort (t : Int) = 2) := hs
 have hmn := fun (u : World) => run_eql_map_nil (P := Tryz.prog) u 84 98 93 (some bm) Tryz.underlying84
 have hb0 : Below w.heap.size w (w.alloc (.cells #[.int .i64 2, .string ⟨n.toArray⟩] 98)) := (Below.refl _ _).alloc (Nat.le_refl _) _
 have hT0 := hT.later hb0
 have hl0 := hT0.map.len (P := Tryz.prog) (t := 84) (ty := 3) Tryz.underlying84
 have HT := Lib.hid hT
 have HT0 := Lib.hid hT0
 clear hT hT0 hK h1 h2 h3 h4 hs
 have e5 : (p == 0) = false := by simp; omega
 have HG : Hid (∀ x ∈ mput es (2, n) (p, (t : Int)), goodOp x) := by
  intro x hx
  rcases mem_mput hx with hx | rfl
  ·exact HT.out.good x hx
  ·exact ⟨HS.out.symm, hn, by simp only; omega, by simp only; omega, by simp only; omega, by simp only; omega⟩
 go_enter Tryz.func15, Tryz.ntmps15
 go_wp2_with fail
 refine (has_any _ bt bm es HT0.out 3 n ⟨by simp, by unfold maxLen; simp; omega⟩).mono ?_
 rintro e w1 ⟨rfl, hc1⟩
 have hb1 := hb0.trans (hc1.mono hb0.size)
 have hT1 := HT.out.later hb1
 have hcell1 := hT1.cell
 have hk1 := hc1.cell (p := ⟨w.heap.size, 0, none⟩) (by simp)
 have hk1' := hc1.cell (p := ⟨w.heap.size, 1, none⟩) (by simp)
 have hl1 := hT1.map.len (P := Tryz.prog) (t := 84) (ty := 3) Tryz.underlying84
 have HT1 := Lib.hid hT1
 clear hT1
 simp only [World.cell?_alloc_new, List.getElem?_toArray, List.getElem?_cons_zero, List.getElem?_cons_succ] at hk1 hk1'
 go_wp2_with fail
 refine (has_any _ bt bm es HT1.out 2 n ⟨by simp, by unfold maxLen; simp; omega⟩).mono ?_
 rintro e w2 ⟨rfl, hc2⟩
 have hb2 := hb1.trans (hc2.mono hb1.size)
 have hT2 := HT.out.later hb2
 have hcell2 := hT2.cell
 have hk2 := hc2.cell (p := ⟨w.heap.size, 0, none⟩) (World.block_lt_of_cell? w1 ⟨w.heap.size, 0, none⟩ hk1)
 have hk2' := hc2.cell (p := ⟨w.heap.size, 1, none⟩) (World.block_lt_of_cell? w1 ⟨w.heap.size, 0, none⟩ hk1)
 have hl2 := hT2.map.len (P := Tryz.prog) (t := 84) (ty := 3) Tryz.underlying84
 have HT2 := Lib.hid hT2
 clear hT2
 rw [hk1] at hk2
 rw [hk1'] at hk2'
 go_wp2_with fail
 obtain ⟨w9, hup, hM, hG, -⟩ := MapAt.update (P := Tryz.prog) (t := 84) opKE Tryz.underlying84 HT2.out.map.drew HT.out.ok (k := (2, n)) ⟨by simp, by unfold maxLen; simp; omega⟩ ((p, (t : Int)) : OpV)
 rw [show opk (2, n) = .agg #[.int .i64 2, .string ⟨n.toArray⟩] from rfl, show opv (p, (t : Int)) = .agg #[.int .i64 p, .int .i64 t] from rfl] at hup
 have HM := Lib.hid hM
 have HF : Hid (Fr (· = bm) w w9) := (((Fr.of_below _ hb2).drew).grown hG (fun g hg => .inl (Option.some.inj hg).symm))
 clear hM hG
 go_region
 go_wp2
 go_ret
 exact ⟨rfl, HT.out.changed HF.out hbb HM.out HG.out, HF.out⟩
set_option maxHeartbeats 400000 in
theorem op_full2 (w : World) (bt bm : Nat) (es : List (OpK × OpV)) (hT : TabAt w bt bm es) (hK : KindsAt w) (p : Int) (t : Nat) (n : List UInt8) (hn : n.length ≤ 1000) (hp : 1 ≤ p ∧ p ≤ 1200) (ht : 1 ≤ t ∧ t ≤ 7)
    (h1 : n ≠ [44]) (h2 : n ≠ [124]) (h3 : n ≠ [91, 93]) (h4 : n ≠ [123, 125]) (hs : kSort t = 2) (hr : 256 ≤ es.length) (hh : (mget es (2, n)).isSome = false) (hq : (mget es (3, n)).isSome = false) :
    Calls Tryz.prog 15 #[.pointer (some ⟨bt, 0, none⟩), .int .i64 p, .int .i64 t, .string ⟨n.toArray⟩] w fun e w' =>
     e = .returned (.int .i64 9) ∧ TabAt w' bt bm es ∧ Fr (· = bm) w w' := by
 obtain ⟨k0, -, -⟩ := hK t ht.2
 obtain ⟨ht1, ht2⟩ := ht
 obtain ⟨hp1, hp2⟩ := hp
 have h8 : (t : Int) < 8 := by omega
 have hc := hT.cell
 have hlt := hT.lt
 have e1 := beq_str n _ h1
 have e2 := beq_str n _ h2
 have e3 := beq_str n _ h3
 have e4 := beq_str n _ h4
 have h0 : 0 < w.heap.size := hK.lt
 rw [hs] at k0
 have HS : Hid (kSort (t : Int) = 2) := hs
 have hmn := fun (u : World) => run_eql_map_nil (P := Tryz.prog) u 84 98 93 (some bm) Tryz.underlying84
 have hb0 : Below w.heap.size w (w.alloc (.cells #[.int .i64 2, .string ⟨n.toArray⟩] 98)) := (Below.refl _ _).alloc (Nat.le_refl _) _
 have hT0 := hT.later hb0
 have hl0 := hT0.map.len (P := Tryz.prog) (t := 84) (ty := 3) Tryz.underlying84
 have HT := Lib.hid hT
 have HT0 := Lib.hid hT0
 clear hT hT0 hK h1 h2 h3 h4 hs
 have e5 : (p == 0) = false := by simp; omega
 go_enter Tryz.func15, Tryz.ntmps15
 go_wp2_with fail
 refine (has_any _ bt bm es HT0.out 3 n ⟨by simp, by unfold maxLen; simp; omega⟩).mono ?_
 rintro e w1 ⟨rfl, hc1⟩
 have hb1 := hb0.trans (hc1.mono hb0.size)
 have hT1 := HT.out.later hb1
 have hcell1 := hT1.cell
 have hk1 := hc1.cell (p := ⟨w.heap.size, 0, none⟩) (by simp)
 have hk1' := hc1.cell (p := ⟨w.heap.size, 1, none⟩) (by simp)
 have hl1 := hT1.map.len (P := Tryz.prog) (t := 84) (ty := 3) Tryz.underlying84
 have HT1 := Lib.hid hT1
 clear hT1
 simp only [World.cell?_alloc_new, List.getElem?_toArray, List.getElem?_cons_zero, List.getElem?_cons_succ] at hk1 hk1'
 go_wp2_with fail
 refine (has_any _ bt bm es HT1.out 2 n ⟨by simp, by unfold maxLen; simp; omega⟩).mono ?_
 rintro e w2 ⟨rfl, hc2⟩
 have hb2 := hb1.trans (hc2.mono hb1.size)
 have hT2 := HT.out.later hb2
 have hcell2 := hT2.cell
 have hk2 := hc2.cell (p := ⟨w.heap.size, 0, none⟩) (World.block_lt_of_cell? w1 ⟨w.heap.size, 0, none⟩ hk1)
 have hk2' := hc2.cell (p := ⟨w.heap.size, 1, none⟩) (World.block_lt_of_cell? w1 ⟨w.heap.size, 0, none⟩ hk1)
 have hl2 := hT2.map.len (P := Tryz.prog) (t := 84) (ty := 3) Tryz.underlying84
 have HT2 := Lib.hid hT2
 clear hT2
 rw [hk1] at hk2
 rw [hk1'] at hk2'
 go_wp2_with fail
 go_ret
 exact ⟨rfl, HT2.out, .of_below _ hb2⟩
set_option maxHeartbeats 400000 in
theorem op_conf2 (w : World) (bt bm : Nat) (es : List (OpK × OpV)) (hT : TabAt w bt bm es) (hK : KindsAt w) (p : Int) (t : Nat) (n : List UInt8) (hn : n.length ≤ 1000) (hp : 1 ≤ p ∧ p ≤ 1200) (ht : 1 ≤ t ∧ t ≤ 7)
    (h1 : n ≠ [44]) (h2 : n ≠ [124]) (h3 : n ≠ [91, 93]) (h4 : n ≠ [123, 125]) (hs : kSort t = 2) (hq : (mget es (3, n)).isSome = true) :
    Calls Tryz.prog 15 #[.pointer (some ⟨bt, 0, none⟩), .int .i64 p, .int .i64 t, .string ⟨n.toArray⟩] w fun e w' =>
     e = .returned (.int .i64 15) ∧ TabAt w' bt bm es ∧ Fr (· = bm) w w' := by
 obtain ⟨k0, -, -⟩ := hK t ht.2
 obtain ⟨ht1, ht2⟩ := ht
 obtain ⟨hp1, hp2⟩ := hp
 have h8 : (t : Int) < 8 := by omega
 have hc := hT.cell
 have hlt := hT.lt
 have e1 := beq_str n _ h1
 have e2 := beq_str n _ h2
 have e3 := beq_str n _ h3
 have e4 := beq_str n _ h4
 have h0 : 0 < w.heap.size := hK.lt
 rw [hs] at k0
 have HS : Hid (kSort (t : Int) = 2) := hs
 have hmn := fun (u : World) => run_eql_map_nil (P := Tryz.prog) u 84 98 93 (some bm) Tryz.underlying84
 have hb0 : Below w.heap.size w (w.alloc (.cells #[.int .i64 2, .string ⟨n.toArray⟩] 98)) := (Below.refl _ _).alloc (Nat.le_refl _) _
 have hT0 := hT.later hb0
 have hl0 := hT0.map.len (P := Tryz.prog) (t := 84) (ty := 3) Tryz.underlying84
 have HT := Lib.hid hT
 have HT0 := Lib.hid hT0
 clear hT hT0 hK h1 h2 h3 h4 hs
 have e5 : (p == 0) = false := by simp; omega
 go_enter Tryz.func15, Tryz.ntmps15
 go_wp2_with fail
 refine (has_any _ bt bm es HT0.out 3 n ⟨by simp, by unfold maxLen; simp; omega⟩).mono ?_
 rintro e w1 ⟨rfl, hc1⟩
 have hb1 := hb0.trans (hc1.mono hb0.size)
 have hT1 := HT.out.later hb1
 have hcell1 := hT1.cell
 have hk1 := hc1.cell (p := ⟨w.heap.size, 0, none⟩) (by simp)
 have hk1' := hc1.cell (p := ⟨w.heap.size, 1, none⟩) (by simp)
 have hl1 := hT1.map.len (P := Tryz.prog) (t := 84) (ty := 3) Tryz.underlying84
 have HT1 := Lib.hid hT1
 clear hT1
 simp only [World.cell?_alloc_new, List.getElem?_toArray, List.getElem?_cons_zero, List.getElem?_cons_succ] at hk1 hk1'
 go_wp2_with fail
 go_ret
 exact ⟨rfl, HT1.out, .of_below _ hb1⟩
set_option maxHeartbeats 400000 in
theorem op_del2 (w : World) (bt bm : Nat) (es : List (OpK × OpV)) (hT : TabAt w bt bm es) (hK : KindsAt w) (hbb : bt ≠ bm) (p : Int) (t : Nat) (n : List UInt8) (hn : n.length ≤ 1000) (hp : p = 0 ∧ True) (ht : 1 ≤ t ∧ t ≤ 7)
    (h1 : n ≠ [44]) (h2 : n ≠ [124]) (h3 : n ≠ [91, 93]) (h4 : n ≠ [123, 125]) (hs : kSort t = 2) :
    Calls Tryz.prog 15 #[.pointer (some ⟨bt, 0, none⟩), .int .i64 p, .int .i64 t, .string ⟨n.toArray⟩] w fun e w' =>
     e = .returned (.int .i64 0) ∧ TabAt w' bt bm (mdel es (2, n)) ∧ Fr (· = bm) w w' := by
 obtain ⟨k0, -, -⟩ := hK t ht.2
 obtain ⟨ht1, ht2⟩ := ht
 obtain ⟨rfl, -⟩ := hp
 have h8 : (t : Int) < 8 := by omega
 have hc := hT.cell
 have hlt := hT.lt
 have e1 := beq_str n _ h1
 have e2 := beq_str n _ h2
 have e3 := beq_str n _ h3
 have e4 := beq_str n _ h4
 have h0 : 0 < w.heap.size := hK.lt
 rw [hs] at k0
 have HS : Hid (kSort (t : Int) = 2) := hs
 have hmn := fun (u : World) => run_eql_map_nil (P := Tryz.prog) u 84 98 93 (some bm) Tryz.underlying84
 have hb0 : Below w.heap.size w (w.alloc (.cells #[.int .i64 2, .string ⟨n.toArray⟩] 98)) := (Below.refl _ _).alloc (Nat.le_refl _) _
 have hT0 := hT.later hb0
 have hl0 := hT0.map.len (P := Tryz.prog) (t := 84) (ty := 3) Tryz.underlying84
 have HT := Lib.hid hT
 have HT0 := Lib.hid hT0
 clear hT hT0 hK h1 h2 h3 h4 hs
 obtain ⟨w9, hup, hM, hG, -⟩ := MapAt.delete (P := Tryz.prog) (t := 84) (ty := 0) opKE Tryz.underlying84 HT0.out.map.drew HT.out.ok (k := (2, n)) ⟨by simp, by unfold maxLen; simp; omega⟩ 98
 rw [show opk (2, n) = .agg #[.int .i64 2, .string ⟨n.toArray⟩] from rfl] at hup
 have HM := Lib.hid hM
 have HF : Hid (Fr (· = bm) w w9) := (((Fr.of_below _ hb0).drew).grown hG (fun g hg => .inl (Option.some.inj hg).symm))
 clear hM hG
 go_enter Tryz.func15, Tryz.ntmps15
 go_wp2
 go_region
 go_wp2
 go_ret
 exact ⟨rfl, HT.out.changed HF.out hbb HM.out (fun x hx => HT.out.good x (mem_mdel hx)), HF.out⟩
set_option maxHeartbeats 400000 in
theorem op_ok30 (w : World) (bt bm : Nat) (es : List (OpK × OpV)) (hT : TabAt w bt bm es) (hK : KindsAt w) (hbb : bt ≠ bm) (p : Int) (t : Nat) (n : List UInt8) (hn : n.length ≤ 1000) (hp : 1 ≤ p ∧ p ≤ 1200) (ht : 1 ≤ t ∧ t ≤ 7)
    (h1 : n ≠ [44]) (h2 : n ≠ [124]) (h3 : n ≠ [91, 93]) (h4 : n ≠ [123, 125]) (hs : kSort t = 3) (hr : es.length < 256) (hq : (mget es (2, n)).isSome = false) :
    Calls Tryz.prog 15 #[.pointer (some ⟨bt, 0, none⟩), .int .i64 p, .int .i64 t, .string ⟨n.toArray⟩] w fun e w' =>
     e = .returned (.int .i64 0) ∧ TabAt w' bt bm (mput es (3, n) (p, (t : Int))) ∧ Fr (· = bm) w w' := by
 obtain ⟨k0, -, -⟩ := hK t ht.2
 obtain ⟨ht1, ht2⟩ := ht
 obtain ⟨hp1, hp2⟩ := hp
 have h8 : (t : Int) < 8 := by omega
 have hc := hT.cell
 have hlt := hT.lt
 have e1 := beq_str n _ h1
 have e2 := beq_str n _ h2
 have e3 := beq_str n _ h3
 have e4 := beq_str n _ h4
 have h0 : 0 < w.heap.size := hK.lt
 rw [hs] at k0
 have HS : Hid (kSort (t : Int) = 3) := hs
 have hmn := fun (u : World) => run_eql_map_nil (P := Tryz.prog) u 84 98 93 (some bm) Tryz.underlying84
 have hb0 : Below w.heap.size w (w.alloc (.cells #[.int .i64 3, .string ⟨n.toArray⟩] 98)) := (Below.refl _ _).alloc (Nat.le_refl _) _
 have hT0 := hT.later hb0
 have hl0 := hT0.map.len (P := Tryz.prog) (t := 84) (ty := 3) Tryz.underlying84
 have HT := Lib.hid hT
 have HT0 := Lib.hid hT0
 clear hT hT0 hK h1 h2 h3 h4 hs
 have e5 : (p == 0) = false := by simp; omega
 have HG : Hid (∀ x ∈ mput es (3, n) (p, (t : Int)), goodOp x) := by
  intro x hx
  rcases mem_mput hx with hx | rfl
  ·exact HT.out.good x hx
  ·exact ⟨HS.out.symm, hn, by simp only; omega, by simp only; omega, by simp only; omega, by simp only; omega⟩
 go_enter Tryz.func15, Tryz.ntmps15
 go_wp2_with fail
 refine (has_any _ bt bm es HT0.out 2 n ⟨by simp, by unfold maxLen; simp; omega⟩).mono ?_
 rintro e w1 ⟨rfl, hc1⟩
 have hb1 := hb0.trans (hc1.mono hb0.size)
 have hT1 := HT.out.later hb1
 have hcell1 := hT1.cell
 have hk1 := hc1.cell (p := ⟨w.heap.size, 0, none⟩) (by simp)
 have hk1' := hc1.cell (p := ⟨w.heap.size, 1, none⟩) (by simp)
 have hl1 := hT1.map.len (P := Tryz.prog) (t := 84) (ty := 3) Tryz.underlying84
 have HT1 := Lib.hid hT1
 clear hT1
 simp only [World.cell?_alloc_new, List.getElem?_toArray, List.getElem?_cons_zero, List.getElem?_cons_succ] at hk1 hk1'
 go_wp2_with fail
 obtain ⟨w9, hup, hM, hG, -⟩ := MapAt.update (P := Tryz.prog) (t := 84) opKE Tryz.underlying84 HT1.out.map.drew HT.out.ok (k := (3, n)) ⟨by simp, by unfold maxLen; simp; omega⟩ ((p, (t : Int)) : OpV)
 rw [show opk (3, n) = .agg #[.int .i64 3, .string ⟨n.toArray⟩] from rfl, show opv (p, (t : Int)) = .agg #[.int .i64 p, .int .i64 t] from rfl] at hup
 have HM := Lib.hid hM
 have HF : Hid (Fr (· = bm) w w9) := (((Fr.of_below _ hb1).drew).grown hG (fun g hg => .inl (Option.some.inj hg).symm))
 clear hM hG
 go_region
 go_wp2
 go_ret
 exact ⟨rfl, HT.out.changed HF.out hbb HM.out HG.out, HF.out⟩
set_option maxHeartbeats 400000 in
theorem op_ok31 (w : World) (bt bm : Nat) (es : List (OpK × OpV)) (hT : TabAt w bt bm es) (hK : KindsAt w) (hbb : bt ≠ bm) (p : Int) (t : Nat) (n : List UInt8) (hn : n.length ≤ 1000) (hp : 1 ≤ p ∧ p ≤ 1200) (ht : 1 ≤ t ∧ t ≤ 7)
    (h1 : n ≠ [44]) (h2 : n ≠ [124]) (h3 : n ≠ [91, 93]) (h4 : n ≠ [123, 125]) (hs : kSort t = 3) (hr : 256 ≤ es.length) (hh : (mget es (3, n)).isSome = true) (hq : (mget es (2, n)).isSome = false) :
    Calls Tryz.prog 15 #[.pointer (some ⟨bt, 0, none⟩), .int .i64 p, .int .i64 t, .string ⟨n.toArray⟩] w fun e w' =>
     e = .returned (.int .i64 0) ∧ TabAt w' bt bm (mput es (3, n) (p, (t : Int))) ∧ Fr (· = bm) w w' := by
 obtain ⟨k0, -, -⟩ := hK t ht.2
 obtain ⟨ht1, ht2⟩ := ht
 obtain ⟨hp1, hp2⟩ := hp
 have h8 : (t : Int) < 8 := by omega
 have hc := hT.cell
 have hlt := hT.lt
 have e1 := beq_str n _ h1
 have e2 := beq_str n _ h2
 have e3 := beq_str n _ h3
 have e4 := beq_str n _ h4
 have h0 : 0 < w.heap.size := hK.lt
 rw [hs] at k0
 have HS : Hid (kSort (t : Int) = 3) := hs
 have hmn := fun (u : World) => run_eql_map_nil (P := Tryz.prog) u 84 98 93 (some bm) Tryz.underlying84
 have hb0 : Below w.heap.size w (w.alloc (.cells #[.int .i64 3, .string ⟨n.toArray⟩] 98)) := (Below.refl _ _).alloc (Nat.le_refl _) _
 have hT0 := hT.later hb0
 have hl0 := hT0.map.len (P := Tryz.prog) (t := 84) (ty := 3) Tryz.underlying84
 have HT := Lib.hid hT
 have HT0 := Lib.hid hT0
 clear hT hT0 hK h1 h2 h3 h4 hs
 have e5 : (p == 0) = false := by simp; omega
 have HG : Hid (∀ x ∈ mput es (3, n) (p, (t : Int)), goodOp x) := by
  intro x hx
  rcases mem_mput hx with hx | rfl
  ·exact HT.out.good x hx
  ·exact ⟨HS.out.symm, hn, by simp only; omega, by simp only; omega, by simp only; omega, by simp only; omega⟩
 go_enter Tryz.func15, Tryz.ntmps15
 go_wp2_with fail
 refine (has_any _ bt bm es HT0.out 2 n ⟨by simp, by unfold maxLen; simp; omega⟩).mono ?_
 rintro e w1 ⟨rfl, hc1⟩
 have hb1 := hb0.trans (hc1.mono hb0.size)
 have hT1 := HT.out.later hb1
 have hcell1 := hT1.cell
 have hk1 := hc1.cell (p := ⟨w.heap.size, 0, none⟩) (by simp)
 have hk1' := hc1.cell (p := ⟨w.heap.size, 1, none⟩) (by simp)
 have hl1 := hT1.map.len (P := Tryz.prog) (t := 84) (ty := 3) Tryz.underlying84
 have HT1 := Lib.hid hT1
 clear hT1
 simp only [World.cell?_alloc_new, List.getElem?_toArray, List.getElem?_cons_zero, List.getElem?_cons_succ] at hk1 hk1'
 go_wp2_with fail
 refine (has_any _ bt bm es HT1.out 3 n ⟨by simp, by unfold maxLen; simp; omega⟩).mono ?_
 rintro e w2 ⟨rfl, hc2⟩
 have hb2 := hb1.trans (hc2.mono hb1.size)
 have hT2 := HT.out.later hb2
 have hcell2 := hT2.cell
 have hk2 := hc2.cell (p := ⟨w.heap.size, 0, none⟩) (World.block_lt_of_cell? w1 ⟨w.heap.size, 0, none⟩ hk1)
 have hk2' := hc2.cell (p := ⟨w.heap.size, 1, none⟩) (World.block_lt_of_cell? w1 ⟨w.heap.size, 0, none⟩ hk1)
 have hl2 := hT2.map.len (P := Tryz.prog) (t := 84) (ty := 3) Tryz.underlying84
 have HT2 := Lib.hid hT2
 clear hT2
 rw [hk1] at hk2
 rw [hk1'] at hk2'
 go_wp2_with fail
 obtain ⟨w9, hup, hM, hG, -⟩ := MapAt.update (P := Tryz.prog) (t := 84) opKE Tryz.underlying84 HT2.out.map.drew HT.out.ok (k := (3, n)) ⟨by simp, by unfold maxLen; simp; omega⟩ ((p, (t : Int)) : OpV)
 rw [show opk (3, n) = .agg #[.int .i64 3, .string ⟨n.toArray⟩] from rfl, show opv (p, (t : Int)) = .agg #[.int .i64 p, .int .i64 t] from rfl] at hup
 have HM := Lib.hid hM
 have HF : Hid (Fr (· = bm) w w9) := (((Fr.of_below _ hb2).drew).grown hG (fun g hg => .inl (Option.some.inj hg).symm))
 clear hM hG
 go_region
 go_wp2
 go_ret
 exact ⟨rfl, HT.out.changed HF.out hbb HM.out HG.out, HF.out⟩
set_option maxHeartbeats 400000 in
theorem op_full3 (w : World) (bt bm : Nat) (es : List (OpK × OpV)) (hT : TabAt w bt bm es) (hK : KindsAt w) (p : Int) (t : Nat) (n : List UInt8) (hn : n.length ≤ 1000) (hp : 1 ≤ p ∧ p ≤ 1200) (ht : 1 ≤ t ∧ t ≤ 7)
    (h1 : n ≠ [44]) (h2 : n ≠ [124]) (h3 : n ≠ [91, 93]) (h4 : n ≠ [123, 125]) (hs : kSort t = 3) (hr : 256 ≤ es.length) (hh : (mget es (3, n)).isSome = false) (hq : (mget es (2, n)).isSome = false) :
    Calls Tryz.prog 15 #[.pointer (some ⟨bt, 0, none⟩), .int .i64 p, .int .i64 t, .string ⟨n.toArray⟩] w fun e w' =>
     e = .returned (.int .i64 9) ∧ TabAt w' bt bm es ∧ Fr (· = bm) w w' := by
 obtain ⟨k0, -, -⟩ := hK t ht.2
 obtain ⟨ht1, ht2⟩ := ht
 obtain ⟨hp1, hp2⟩ := hp
 have h8 : (t : Int) < 8 := by omega
 have hc := hT.cell
 have hlt := hT.lt
 have e1 := beq_str n _ h1
 have e2 := beq_str n _ h2
 have e3 := beq_str n _ h3
 have e4 := beq_str n _ h4
 have h0 : 0 < w.heap.size := hK.lt
 rw [hs] at k0
 have HS : Hid (kSort (t : Int) = 3) := hs
 have hmn := fun (u : World) => run_eql_map_nil (P := Tryz.prog) u 84 98 93 (some bm) Tryz.underlying84
 have hb0 : Below w.heap.size w (w.alloc (.cells #[.int .i64 3, .string ⟨n.toArray⟩] 98)) := (Below.refl _ _).alloc (Nat.le_refl _) _
 have hT0 := hT.later hb0
 have hl0 := hT0.map.len (P := Tryz.prog) (t := 84) (ty := 3) Tryz.underlying84
 have HT := Lib.hid hT
 have HT0 := Lib.hid hT0
 clear hT hT0 hK h1 h2 h3 h4 hs
 have e5 : (p == 0) = false := by simp; omega
 go_enter Tryz.func15, Tryz.ntmps15
 go_wp2_with fail
 refine (has_any _ bt bm es HT0.out 2 n ⟨by simp, by unfold maxLen; simp; omega⟩).mono ?_
 rintro e w1 ⟨rfl, hc1⟩
 have hb1 := hb0.trans (hc1.mono hb0.size)
 have hT1 := HT.out.later hb1
 have hcell1 := hT1.cell
 have hk1 := hc1.cell (p := ⟨w.heap.size, 0, none⟩) (by simp)
 have hk1' := hc1.cell (p := ⟨w.heap.size, 1, none⟩) (by simp)
 have hl1 := hT1.map.len (P := Tryz.prog) (t := 84) (ty := 3) Tryz.underlying84
 have HT1 := Lib.hid hT1
 clear hT1
 simp only [World.cell?_alloc_new, List.getElem?_toArray, List.getElem?_cons_zero, List.getElem?_cons_succ] at hk1 hk1'
 go_wp2_with fail
 refine (has_any _ bt bm es HT1.out 3 n ⟨by simp, by unfold maxLen; simp; omega⟩).mono ?_
 rintro e w2 ⟨rfl, hc2⟩
 have hb2 := hb1.trans (hc2.mono hb1.size)
 have hT2 := HT.out.later hb2
 have hcell2 := hT2.cell
 have hk2 := hc2.cell (p := ⟨w.heap.size, 0, none⟩) (World.block_lt_of_cell? w1 ⟨w.heap.size, 0, none⟩ hk1)
 have hk2' := hc2.cell (p := ⟨w.heap.size, 1, none⟩) (World.block_lt_of_cell? w1 ⟨w.heap.size, 0, none⟩ hk1)
 have hl2 := hT2.map.len (P := Tryz.prog) (t := 84) (ty := 3) Tryz.underlying84
 have HT2 := Lib.hid hT2
 clear hT2
 rw [hk1] at hk2
 rw [hk1'] at hk2'
 go_wp2_with fail
 go_ret
 exact ⟨rfl, HT2.out, .of_below _ hb2⟩
set_option maxHeartbeats 400000 in
theorem op_conf3 (w : World) (bt bm : Nat) (es : List (OpK × OpV)) (hT : TabAt w bt bm es) (hK : KindsAt w) (p : Int) (t : Nat) (n : List UInt8) (hn : n.length ≤ 1000) (hp : 1 ≤ p ∧ p ≤ 1200) (ht : 1 ≤ t ∧ t ≤ 7)
    (h1 : n ≠ [44]) (h2 : n ≠ [124]) (h3 : n ≠ [91, 93]) (h4 : n ≠ [123, 125]) (hs : kSort t = 3) (hq : (mget es (2, n)).isSome = true) :
    Calls Tryz.prog 15 #[.pointer (some ⟨bt, 0, none⟩), .int .i64 p, .int .i64 t, .string ⟨n.toArray⟩] w fun e w' =>
     e = .returned (.int .i64 15) ∧ TabAt w' bt bm es ∧ Fr (· = bm) w w' := by
 obtain ⟨k0, -, -⟩ := hK t ht.2
 obtain ⟨ht1, ht2⟩ := ht
 obtain ⟨hp1, hp2⟩ := hp
 have h8 : (t : Int) < 8 := by omega
 have hc := hT.cell
 have hlt := hT.lt
 have e1 := beq_str n _ h1
 have e2 := beq_str n _ h2
 have e3 := beq_str n _ h3
 have e4 := beq_str n _ h4
 have h0 : 0 < w.heap.size := hK.lt
 rw [hs] at k0
 have HS : Hid (kSort (t : Int) = 3) := hs
 have hmn := fun (u : World) => run_eql_map_nil (P := Tryz.prog) u 84 98 93 (some bm) Tryz.underlying84
 have hb0 : Below w.heap.size w (w.alloc (.cells #[.int .i64 3, .string ⟨n.toArray⟩] 98)) := (Below.refl _ _).alloc (Nat.le_refl _) _
 have hT0 := hT.later hb0
 have hl0 := hT0.map.len (P := Tryz.prog) (t := 84) (ty := 3) Tryz.underlying84
 have HT := Lib.hid hT
 have HT0 := Lib.hid hT0
 clear hT hT0 hK h1 h2 h3 h4 hs
 have e5 : (p == 0) = false := by simp; omega
 go_enter Tryz.func15, Tryz.ntmps15
 go_wp2_with fail
 refine (has_any _ bt bm es HT0.out 2 n ⟨by simp, by unfold maxLen; simp; omega⟩).mono ?_
 rintro e w1 ⟨rfl, hc1⟩
 have hb1 := hb0.trans (hc1.mono hb0.size)
 have hT1 := HT.out.later hb1
 have hcell1 := hT1.cell
 have hk1 := hc1.cell (p := ⟨w.heap.size, 0, none⟩) (by simp)
 have hk1' := hc1.cell (p := ⟨w.heap.size, 1, none⟩) (by simp)
 have hl1 := hT1.map.len (P := Tryz.prog) (t := 84) (ty := 3) Tryz.underlying84
 have HT1 := Lib.hid hT1
 clear hT1
 simp only [World.cell?_alloc_new, List.getElem?_toArray, List.getElem?_cons_zero, List.getElem?_cons_succ] at hk1 hk1'
 go_wp2_with fail
 go_ret
 exact ⟨rfl, HT1.out, .of_below _ hb1⟩
set_option maxHeartbeats 400000 in
theorem op_del3 (w : World) (bt bm : Nat) (es : List (OpK × OpV)) (hT : TabAt w bt bm es) (hK : KindsAt w) (hbb : bt ≠ bm) (p : Int) (t : Nat) (n : List UInt8) (hn : n.length ≤ 1000) (hp : p = 0 ∧ True) (ht : 1 ≤ t ∧ t ≤ 7)
    (h1 : n ≠ [44]) (h2 : n ≠ [124]) (h3 : n ≠ [91, 93]) (h4 : n ≠ [123, 125]) (hs : kSort t = 3) :
    Calls Tryz.prog 15 #[.pointer (some ⟨bt, 0, none⟩), .int .i64 p, .int .i64 t, .string ⟨n.toArray⟩] w fun e w' =>
     e = .returned (.int .i64 0) ∧ TabAt w' bt bm (mdel es (3, n)) ∧ Fr (· = bm) w w' := by
 obtain ⟨k0, -, -⟩ := hK t ht.2
 obtain ⟨ht1, ht2⟩ := ht
 obtain ⟨rfl, -⟩ := hp
 have h8 : (t : Int) < 8 := by omega
 have hc := hT.cell
 have hlt := hT.lt
 have e1 := beq_str n _ h1
 have e2 := beq_str n _ h2
 have e3 := beq_str n _ h3
 have e4 := beq_str n _ h4
 have h0 : 0 < w.heap.size := hK.lt
 rw [hs] at k0
 have HS : Hid (kSort (t : Int) = 3) := hs
 have hmn := fun (u : World) => run_eql_map_nil (P := Tryz.prog) u 84 98 93 (some bm) Tryz.underlying84
 have hb0 : Below w.heap.size w (w.alloc (.cells #[.int .i64 3, .string ⟨n.toArray⟩] 98)) := (Below.refl _ _).alloc (Nat.le_refl _) _
 have hT0 := hT.later hb0
 have hl0 := hT0.map.len (P := Tryz.prog) (t := 84) (ty := 3) Tryz.underlying84
 have HT := Lib.hid hT
 have HT0 := Lib.hid hT0
 clear hT hT0 hK h1 h2 h3 h4 hs
 obtain ⟨w9, hup, hM, hG, -⟩ := MapAt.delete (P := Tryz.prog) (t := 84) (ty := 0) opKE Tryz.underlying84 HT0.out.map.drew HT.out.ok (k := (3, n)) ⟨by simp, by unfold maxLen; simp; omega⟩ 98
 rw [show opk (3, n) = .agg #[.int .i64 3, .string ⟨n.toArray⟩] from rfl] at hup
 have HM := Lib.hid hM
 have HF : Hid (Fr (· = bm) w w9) := (((Fr.of_below _ hb0).drew).grown hG (fun g hg => .inl (Option.some.inj hg).symm))
 clear hM hG
 go_enter Tryz.func15, Tryz.ntmps15
 go_wp2
 go_region
 go_wp2
 go_ret
 exact ⟨rfl, HT.out.changed HF.out hbb HM.out (fun x hx => HT.out.good x (mem_mdel hx)), HF.out⟩
set_option maxHeartbeats 400000 in
theorem op_arg (w : World) (bt : Nat) (p t : Int) (n : List UInt8) (hn : n.length ≤ 9223372036854775807) (h : p < 0 ∨ 1200 < p ∨ t < 1 ∨ 7 < t ∨ 1000 < n.length) :
    Calls Tryz.prog 15 #[.pointer (some ⟨bt, 0, none⟩), .int .i64 p, .int .i64 t, .string ⟨n.toArray⟩] w fun e w' => e = .returned (.int .i64 2) ∧ w = w' := by
 have H := Lib.hid h
 clear h
 by_cases h1 : p < 0
 ·go_enter Tryz.func15, Tryz.ntmps15
  go_wp2
  go_ret
  exact ⟨rfl, rfl⟩
 by_cases h2 : 1200 < p
 ·have h1' : 0 ≤ p := by omega
  clear h1
  go_enter Tryz.func15, Tryz.ntmps15
  go_wp2
  go_ret
  exact ⟨rfl, rfl⟩
 have h1' : 0 ≤ p := by omega
 have h2' : p ≤ 1200 := by omega
 clear h1 h2
 by_cases h3 : t < 1
 ·go_enter Tryz.func15, Tryz.ntmps15
  go_wp2
  go_ret
  exact ⟨rfl, rfl⟩
 by_cases h4 : 7 < t
 ·have h3' : 1 ≤ t := by omega
  clear h3
  go_enter Tryz.func15, Tryz.ntmps15
  go_wp2
  go_ret
  exact ⟨rfl, rfl⟩
 have h3' : 1 ≤ t := by omega
 have h4' : t ≤ 7 := by omega
 clear h3 h4
 have h5 : 1000 < n.length := by have := H.out; omega
 clear H
 go_enter Tryz.func15, Tryz.ntmps15
 go_wp2
 go_ret
 exact ⟨rfl, rfl⟩
set_option maxHeartbeats 400000 in
theorem op_perm (w : World) (bt : Nat) (p t : Int) (n : List UInt8) (hn : n.length ≤ 1000) (h1 : 0 ≤ p) (h2 : p ≤ 1200) (h3 : 1 ≤ t) (h4 : t ≤ 7) (h : n = [44] ∨ n = [124] ∨ n = [91, 93] ∨ n = [123, 125]) :
    Calls Tryz.prog 15 #[.pointer (some ⟨bt, 0, none⟩), .int .i64 p, .int .i64 t, .string ⟨n.toArray⟩] w fun e w' => e = .returned (.int .i64 15) ∧ w = w' := by
 rcases h with rfl | rfl | rfl | rfl
 all_goals
  go_enter Tryz.func15, Tryz.ntmps15
  go_wp2
  go_ret
  exact ⟨rfl, rfl⟩
theorem op_any (w : World) (bt bm : Nat) (es : List (OpK × OpV)) (hT : TabAt w bt bm es) (hK : KindsAt w) (hbb : bt ≠ bm) (p t : Int) (n : List UInt8) (hn : n.length ≤ 9223372036854775807) :
    Calls Tryz.prog 15 #[.pointer (some ⟨bt, 0, none⟩), .int .i64 p, .int .i64 t, .string ⟨n.toArray⟩] w fun e w' =>
     e = .returned (.int .i64 (opErr es p t n)) ∧ TabAt w' bt bm (opTab es p t n) ∧ Fr (· = bm) w w' := by
 unfold opTab
 by_cases c1 : p < 0 ∨ 1200 < p ∨ t < 1 ∨ 7 < t ∨ 1000 < n.length
 ·have e1 : opErr es p t n = 2 := by unfold opErr; rw [if_pos c1]
  rw [e1]
  refine (op_arg w bt p t n hn c1).mono ?_
  rintro e w' ⟨rfl, rfl⟩
  exact ⟨rfl, by simpa using hT, Fr.refl _ _⟩
 by_cases c2 : n = [44] ∨ n = [124] ∨ n = [91, 93] ∨ n = [123, 125]
 ·have e1 : opErr es p t n = 15 := by unfold opErr; rw [if_neg c1, if_pos c2]
  rw [e1]
  refine (op_perm w bt p t n (by omega) (by omega) (by omega) (by omega) (by omega) c2).mono ?_
  rintro e w' ⟨rfl, rfl⟩
  exact ⟨rfl, by simpa using hT, Fr.refl _ _⟩
 obtain ⟨t, rfl⟩ := Int.eq_ofNat_of_zero_le (show 0 ≤ t by omega)
 simp only [not_or] at c2
 obtain ⟨d1, d2, d3, d4⟩ := c2
 have hs3 : kSort t = 1 ∨ kSort t = 2 ∨ kSort t = 3 := by unfold kSort; repeat' split <;> omega
 have hnl : n.length ≤ 1000 := by omega
 have c2' : ¬ (n = [44] ∨ n = [124] ∨ n = [91, 93] ∨ n = [123, 125]) := by simp only [not_or]; exact ⟨d1, d2, d3, d4⟩
 by_cases c3 : p = 0
 ·subst c3
  have e1 : opErr es 0 t n = 0 := by unfold opErr; rw [if_neg c1, if_neg c2', if_pos rfl]
  rw [e1, if_neg (by simp), if_pos rfl]
  rcases hs3 with hs | hs | hs <;> rw [hs]
  ·exact op_del1 w bt bm es hT hK hbb 0 t n hnl ⟨rfl, trivial⟩ (by omega) d1 d2 d3 d4 hs
  ·exact op_del2 w bt bm es hT hK hbb 0 t n hnl ⟨rfl, trivial⟩ (by omega) d1 d2 d3 d4 hs
  ·exact op_del3 w bt bm es hT hK hbb 0 t n hnl ⟨rfl, trivial⟩ (by omega) d1 d2 d3 d4 hs
 have e0 : opErr es p t n = if (kSort t = 2 ∧ (mget es (3, n)).isSome = true) ∨ (kSort t = 3 ∧ (mget es (2, n)).isSome = true) then 15
     else if 256 ≤ es.length ∧ (mget es (kSort t, n)).isSome = false then 9 else 0 := by unfold opErr; rw [if_neg c1, if_neg c2', if_neg c3]
 rcases hs3 with hs | hs | hs
 ·rw [hs] at e0 ⊢
  by_cases hr : 256 ≤ es.length
  ·cases hh : (mget es (1, n)).isSome
   ·have e1 : opErr es p t n = 9 := by rw [e0]; simp [hr, hh]
    rw [e1, if_pos (by simp)]
    exact op_full1 w bt bm es hT hK p t n hnl (by omega) (by omega) d1 d2 d3 d4 hs hr hh
   ·have e1 : opErr es p t n = 0 := by rw [e0]; simp [hh]
    rw [e1, if_neg (by simp), if_neg c3]
    exact op_ok11 w bt bm es hT hK hbb p t n hnl (by omega) (by omega) d1 d2 d3 d4 hs hr hh
  ·have e1 : opErr es p t n = 0 := by rw [e0]; simp [hr]
   rw [e1, if_neg (by simp), if_neg c3]
   exact op_ok10 w bt bm es hT hK hbb p t n hnl (by omega) (by omega) d1 d2 d3 d4 hs (by omega)
 ·rw [hs] at e0 ⊢
  cases hq : (mget es (3, n)).isSome
  ·by_cases hr : 256 ≤ es.length
   ·cases hh : (mget es (2, n)).isSome
    ·have e1 : opErr es p t n = 9 := by rw [e0]; simp [hr, hh, hq]
     rw [e1, if_pos (by simp)]
     exact op_full2 w bt bm es hT hK p t n hnl (by omega) (by omega) d1 d2 d3 d4 hs hr hh hq
    ·have e1 : opErr es p t n = 0 := by rw [e0]; simp [hh, hq]
     rw [e1, if_neg (by simp), if_neg c3]
     exact op_ok21 w bt bm es hT hK hbb p t n hnl (by omega) (by omega) d1 d2 d3 d4 hs hr hh hq
   ·have e1 : opErr es p t n = 0 := by rw [e0]; simp [hr, hq]
    rw [e1, if_neg (by simp), if_neg c3]
    exact op_ok20 w bt bm es hT hK hbb p t n hnl (by omega) (by omega) d1 d2 d3 d4 hs (by omega) hq
  ·have e1 : opErr es p t n = 15 := by rw [e0]; simp [hq]
   rw [e1, if_pos (by simp)]
   exact op_conf2 w bt bm es hT hK p t n hnl (by omega) (by omega) d1 d2 d3 d4 hs hq
 ·rw [hs] at e0 ⊢
  cases hq : (mget es (2, n)).isSome
  ·by_cases hr : 256 ≤ es.length
   ·cases hh : (mget es (3, n)).isSome
    ·have e1 : opErr es p t n = 9 := by rw [e0]; simp [hr, hh, hq]
     rw [e1, if_pos (by simp)]
     exact op_full3 w bt bm es hT hK p t n hnl (by omega) (by omega) d1 d2 d3 d4 hs hr hh hq
    ·have e1 : opErr es p t n = 0 := by rw [e0]; simp [hh, hq]
     rw [e1, if_neg (by simp), if_neg c3]
     exact op_ok31 w bt bm es hT hK hbb p t n hnl (by omega) (by omega) d1 d2 d3 d4 hs hr hh hq
   ·have e1 : opErr es p t n = 0 := by rw [e0]; simp [hr, hq]
    rw [e1, if_neg (by simp), if_neg c3]
    exact op_ok30 w bt bm es hT hK hbb p t n hnl (by omega) (by omega) d1 d2 d3 d4 hs (by omega) hq
  ·have e1 : opErr es p t n = 15 := by rw [e0]; simp [hq]
   rw [e1, if_pos (by simp)]
   exact op_conf3 w bt bm es hT hK p t n hnl (by omega) (by omega) d1 d2 d3 d4 hs hq
end Go.Proofs.YtiffopheamnngaaGreatDoor
