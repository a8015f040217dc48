import Derived.WalkKit
import Derived.WalkSmall
import Derived.Test.YtmgidfndifhcoaaDoorJReadBrackets00
import Derived.Lib.Hide
/-
  A frame for worlds: all blocks that were there stand as they were, but for those of a set. No condition.
-/
namespace Go.Proofs.YtmgidfndifhcoaaDoor
open Go.RowKit

structure Fr (S : Nat → Prop) (w w' : World) : Prop where
  os : w'.os = w.os
  tape : w'.tape = w.tape
  output : w'.output = w.output
  size : w.heap.size ≤ w'.heap.size
  block : ∀ k, k < w.heap.size → ¬ S k → w'.heap[k]? = w.heap[k]?

section
variable {S S' : Nat → Prop} {w w' w'' : World}
theorem Fr.refl (S : Nat → Prop) (w : World) : Fr S w w := ⟨rfl, rfl, rfl, Nat.le_refl _, fun _ _ _ => rfl⟩
theorem Fr.trans (h : Fr S w w') (k : Fr S w' w'') : Fr S w w'' :=
  ⟨k.os.trans h.os, k.tape.trans h.tape, k.output.trans h.output, Nat.le_trans h.size k.size, fun i hi hs => (k.block i (Nat.lt_of_lt_of_le hi h.size) hs).trans (h.block i hi hs)⟩
theorem Fr.mono (h : Fr S w w') (hs : ∀ k, k < w.heap.size → S k → S' k) : Fr S' w w' := ⟨h.os, h.tape, h.output, h.size, fun i hi hn => h.block i hi (fun e => hn (hs i hi e))⟩
theorem Fr.weak (h : Fr S w w') (hs : ∀ k, S k → S' k) : Fr S' w w' := h.mono fun k _ => hs k
theorem Fr.of_below (S : Nat → Prop) (h : Below w.heap.size w w') : Fr S w w' := ⟨h.os, h.tape, h.output, h.size, fun i hi _ => h.block i hi⟩
theorem Fr.below (h : Fr S w w') {B : Nat} (hB : B ≤ w.heap.size) (hs : ∀ k, k < B → ¬ S k) : Below B w w' := ⟨h.os, h.tape, h.output, h.size, fun i hi => h.block i (by omega) (hs i hi)⟩
theorem Fr.alloc (h : Fr S w w') (o : Obj) : Fr S w (w'.alloc o) := h.trans (.of_below S ((Below.refl _ _).alloc (Nat.le_refl _) o))
theorem Fr.drew (h : Fr S w w') : Fr S w w'.drew := ⟨h.os, h.tape, h.output, h.size, h.block⟩
theorem Fr.drewN (h : Fr S w w') (n : Nat) : Fr S w (w'.drewN n) := ⟨h.os, h.tape, h.output, h.size, h.block⟩
theorem Fr.setCell (h : Fr S w w') {p : Addr} (hp : S p.block ∨ w.heap.size ≤ p.block) (u : Value) : Fr S w (w'.setCell p u) :=
  ⟨h.os, h.tape, h.output, by simpa [World.setCell] using h.size, fun k hk hs => by
    rw [Below.heap_setCell _ _ _ _ (fun e => by subst e; exact hp.elim (fun h => hs h) (fun h => absurd h (by omega)))]
    exact h.block k hk hs⟩
theorem Fr.grown {row : Option Nat} (h : Fr S w w') (hg : w'.grownBy w'' row) (hr : ∀ g, row = some g → S g ∨ w.heap.size ≤ g) : Fr S w w'' :=
  ⟨hg.os.trans h.os, hg.tape.trans h.tape, hg.output.trans h.output, Nat.le_trans h.size hg.size, fun k hk hs => by
    rw [hg.block k (Nat.lt_of_lt_of_le hk h.size) (fun e => (hr k e.symm).elim (fun h => hs h) (fun h => absurd h (by omega)))]
    exact h.block k hk hs⟩
theorem Fr.step (h : Fr S w w') (k : Below w'.heap.size w' w'') : Fr S w w'' := h.trans (.of_below S k)
theorem Fr.cell (h : Fr S w w') {p : Addr} (hp : p.block < w.heap.size) (hs : ¬ S p.block) : w'.cell? p = w.cell? p := World.cell?_of_block (w := w) (h.block p.block hp hs)
theorem Fr.frozen (h : Fr S w w') {p : Addr} (hp : p.block < w.heap.size) (hs : ¬ S p.block) : w'.frozen? p = w.frozen? p := World.frozen?_of_block (w := w) (h.block p.block hp hs)
end
end Go.Proofs.YtmgidfndifhcoaaDoor
/-
  What Op answers and what the table is behind it. Conditions: the table's block holds a map of well-formed operators; the types' table reads as the program lays it; the map's block is not that table's, nor the pointed-to one.
-/
namespace Go.Proofs.YtmgidfndifhcoaaDoor
open Go.RowKit Go.Maps
set_option maxRecDepth 100000

theorem beq_str (a b : List UInt8) (h : a ≠ b) : (a == b) = false := by simpa using h

/-- What Op answers. -/
def opErr (es : List (OpK × OpV)) (p t : Int) (n : List UInt8) : Int :=
  if p < 0 ∨ 1200 < p ∨ t < 1 ∨ 7 < t ∨ 1000 < n.length then 2
  else if n = [44] ∨ n = [124] ∨ n = [91, 93] ∨ n = [123, 125] then 15
  else if p = 0 then 0
  else if (kSort t = 2 ∧ (mget es (3, n)).isSome = true) ∨ (kSort t = 3 ∧ (mget es (2, n)).isSome = true) then 15
  else if 256 ≤ es.length ∧ (mget es (kSort t, n)).isSome = false then 9 else 0
/-- What the table is behind it. -/
def opTab (es : List (OpK × OpV)) (p t : Int) (n : List UInt8) : List (OpK × OpV) :=
  if opErr es p t n ≠ 0 then es else if p = 0 then mdel es (kSort t, n) else mput es (kSort t, n) (p, t)

theorem mem_mdel {κ ν : Type} [DecidableEq κ] {l : List (κ × ν)} {k : κ} {x : κ × ν} (h : x ∈ mdel l k) : x ∈ l := (List.mem_filter.1 h).1
theorem mem_mput {κ ν : Type} [DecidableEq κ] {l : List (κ × ν)} {k : κ} {v : ν} {x : κ × ν} (h : x ∈ mput l k v) : x ∈ l ∨ x = (k, v) := by
  unfold mput at h
  split at h
  · obtain ⟨y, hy, rfl⟩ := List.mem_map.1 h
    split
    · exact .inr rfl
    · exact .inl hy
  · rcases List.mem_append.1 h with h | h
    · exact .inl h
    · exact .inr (by simpa using h)

/-- What the table's cell and map are behind a change of the map alone. -/
theorem TabAt.changed {w w' : World} {bt bm : Nat} {es es' : List (OpK × OpV)} (hT : TabAt w bt bm es) (hF : Fr (· = bm) w w') (hbb : bt ≠ bm) (hM : MapAt w' bm opk opv es') (hg : ∀ x ∈ es', goodOp x) : TabAt w' bt bm es' :=
  ⟨(hF.cell (p := ⟨bt, 0, none⟩) hT.lt hbb).trans hT.cell, hM, hg⟩

set_option maxHeartbeats 400000 in
theorem op_ok10 (w : World) (bt bm : Nat) (es : List (OpK × OpV)) (hT : TabAt w bt bm es) (hK : KindsAt w) (hbb : bt ≠ bm) (p : Int) (t : Nat) (n : List UInt8) (hn : n.length ≤ 1000) (hp : 1 ≤ p ∧ p ≤ 1200) (ht : 1 ≤ t ∧ t ≤ 7)
    (h1 : n ≠ [44]) (h2 : n ≠ [124]) (h3 : n ≠ [91, 93]) (h4 : n ≠ [123, 125]) (hs : kSort t = 1) (hr : es.length < 256) :
    Calls Tryd.prog 13 #[.pointer (some ⟨bt, 0, none⟩), .int .i64 p, .int .i64 t, .string ⟨n.toArray⟩] w fun e w' =>
      e = .returned (.int .i64 0) ∧ TabAt w' bt bm (mput es (1, n) (p, (t : Int))) ∧ Fr (· = bm) w w' := by
  obtain ⟨k0, -, -⟩ := hK t ht.2
  obtain ⟨ht1, ht2⟩ := ht
  obtain ⟨hp1, hp2⟩ := hp
  have h8 : (t : Int) < 8 := by omega
  have hc := hT.cell
  have hlt := hT.lt
  have e1 := beq_str n _ h1
  have e2 := beq_str n _ h2
  have e3 := beq_str n _ h3
  have e4 := beq_str n _ h4
  have h0 : 0 < w.heap.size := hK.lt
  rw [hs] at k0
  have HS : Hid (kSort (t : Int) = 1) := hs
  have hmn := fun (u : World) => run_eql_map_nil (P := Tryd.prog) u 83 97 92 (some bm) Tryd.underlying83
  have hb0 : Below w.heap.size w (w.alloc (.cells #[.int .i64 1, .string ⟨n.toArray⟩] 97)) := (Below.refl _ _).alloc (Nat.le_refl _) _
  have hT0 := hT.later hb0
  have hl0 := hT0.map.len (P := Tryd.prog) (t := 83) (ty := 3) Tryd.underlying83
  have HT := Lib.hid hT
  have HT0 := Lib.hid hT0
  clear hT hT0 hK h1 h2 h3 h4 hs
  have e5 : (p == 0) = false := by simp; omega
  have HG : Hid (∀ x ∈ mput es (1, n) (p, (t : Int)), goodOp x) := by
    intro x hx
    rcases mem_mput hx with hx | rfl
    · exact HT.out.good x hx
    · exact ⟨HS.out.symm, hn, by simp only; omega, by simp only; omega, by simp only; omega, by simp only; omega⟩
  go_enter Tryd.func13, Tryd.ntmps13
  go_wp2_with fail
  obtain ⟨w9, hup, hM, hG, -⟩ := MapAt.update (P := Tryd.prog) (t := 83) opKE Tryd.underlying83 HT0.out.map.drew HT.out.ok (k := (1, n)) ⟨by simp, by unfold maxLen; simp; omega⟩ ((p, (t : Int)) : OpV)
  rw [show opk (1, n) = .agg #[.int .i64 1, .string ⟨n.toArray⟩] from rfl, show opv (p, (t : Int)) = .agg #[.int .i64 p, .int .i64 t] from rfl] at hup
  have HM := Lib.hid hM
  have HF : Hid (Fr (· = bm) w w9) := (((Fr.of_below _ hb0).drew).grown hG (fun g hg => .inl (Option.some.inj hg).symm))
  clear hM hG
  go_region
  go_wp2
  go_ret
  exact ⟨rfl, HT.out.changed HF.out hbb HM.out HG.out, HF.out⟩

set_option maxHeartbeats 400000 in
theorem op_ok11 (w : World) (bt bm : Nat) (es : List (OpK × OpV)) (hT : TabAt w bt bm es) (hK : KindsAt w) (hbb : bt ≠ bm) (p : Int) (t : Nat) (n : List UInt8) (hn : n.length ≤ 1000) (hp : 1 ≤ p ∧ p ≤ 1200) (ht : 1 ≤ t ∧ t ≤ 7)
    (h1 : n ≠ [44]) (h2 : n ≠ [124]) (h3 : n ≠ [91, 93]) (h4 : n ≠ [123, 125]) (hs : kSort t = 1) (hr : 256 ≤ es.length) (hh : (mget es (1, n)).isSome = true) :
    Calls Tryd.prog 13 #[.pointer (some ⟨bt, 0, none⟩), .int .i64 p, .int .i64 t, .string ⟨n.toArray⟩] w fun e w' =>
      e = .returned (.int .i64 0) ∧ TabAt w' bt bm (mput es (1, n) (p, (t : Int))) ∧ Fr (· = bm) w w' := by
  obtain ⟨k0, -, -⟩ := hK t ht.2
  obtain ⟨ht1, ht2⟩ := ht
  obtain ⟨hp1, hp2⟩ := hp
  have h8 : (t : Int) < 8 := by omega
  have hc := hT.cell
  have hlt := hT.lt
  have e1 := beq_str n _ h1
  have e2 := beq_str n _ h2
  have e3 := beq_str n _ h3
  have e4 := beq_str n _ h4
  have h0 : 0 < w.heap.size := hK.lt
  rw [hs] at k0
  have HS : Hid (kSort (t : Int) = 1) := hs
  have hmn := fun (u : World) => run_eql_map_nil (P := Tryd.prog) u 83 97 92 (some bm) Tryd.underlying83
  have hb0 : Below w.heap.size w (w.alloc (.cells #[.int .i64 1, .string ⟨n.toArray⟩] 97)) := (Below.refl _ _).alloc (Nat.le_refl _) _
  have hT0 := hT.later hb0
  have hl0 := hT0.map.len (P := Tryd.prog) (t := 83) (ty := 3) Tryd.underlying83
  have HT := Lib.hid hT
  have HT0 := Lib.hid hT0
  clear hT hT0 hK h1 h2 h3 h4 hs
  have e5 : (p == 0) = false := by simp; omega
  have HG : Hid (∀ x ∈ mput es (1, n) (p, (t : Int)), goodOp x) := by
    intro x hx
    rcases mem_mput hx with hx | rfl
    · exact HT.out.good x hx
    · exact ⟨HS.out.symm, hn, by simp only; omega, by simp only; omega, by simp only; omega, by simp only; omega⟩
  go_enter Tryd.func13, Tryd.ntmps13
  go_wp2_with fail
  refine (has_any _ bt bm es HT0.out 1 n ⟨by simp, by unfold maxLen; simp; omega⟩).mono ?_
  rintro e w1 ⟨rfl, hc1⟩
  have hb1 := hb0.trans (hc1.mono hb0.size)
  have hT1 := HT.out.later hb1
  have hcell1 := hT1.cell
  have hk1 := hc1.cell (p := ⟨w.heap.size, 0, none⟩) (by simp)
  have hk1' := hc1.cell (p := ⟨w.heap.size, 1, none⟩) (by simp)
  have hl1 := hT1.map.len (P := Tryd.prog) (t := 83) (ty := 3) Tryd.underlying83
  have HT1 := Lib.hid hT1
  clear hT1
  simp only [World.cell?_alloc_new, List.getElem?_toArray, List.getElem?_cons_zero, List.getElem?_cons_succ] at hk1 hk1'
  go_wp2_with fail
  obtain ⟨w9, hup, hM, hG, -⟩ := MapAt.update (P := Tryd.prog) (t := 83) opKE Tryd.underlying83 HT1.out.map.drew HT.out.ok (k := (1, n)) ⟨by simp, by unfold maxLen; simp; omega⟩ ((p, (t : Int)) : OpV)
  rw [show opk (1, n) = .agg #[.int .i64 1, .string ⟨n.toArray⟩] from rfl, show opv (p, (t : Int)) = .agg #[.int .i64 p, .int .i64 t] from rfl] at hup
  have HM := Lib.hid hM
  have HF : Hid (Fr (· = bm) w w9) := (((Fr.of_below _ hb1).drew).grown hG (fun g hg => .inl (Option.some.inj hg).symm))
  clear hM hG
  go_region
  go_wp2
  go_ret
  exact ⟨rfl, HT.out.changed HF.out hbb HM.out HG.out, HF.out⟩

set_option maxHeartbeats 400000 in
theorem op_full1 (w : World) (bt bm : Nat) (es : List (OpK × OpV)) (hT : TabAt w bt bm es) (hK : KindsAt w) (p : Int) (t : Nat) (n : List UInt8) (hn : n.length ≤ 1000) (hp : 1 ≤ p ∧ p ≤ 1200) (ht : 1 ≤ t ∧ t ≤ 7)
    (h1 : n ≠ [44]) (h2 : n ≠ [124]) (h3 : n ≠ [91, 93]) (h4 : n ≠ [123, 125]) (hs : kSort t = 1) (hr : 256 ≤ es.length) (hh : (mget es (1, n)).isSome = false) :
    Calls Tryd.prog 13 #[.pointer (some ⟨bt, 0, none⟩), .int .i64 p, .int .i64 t, .string ⟨n.toArray⟩] w fun e w' =>
      e = .returned (.int .i64 9) ∧ TabAt w' bt bm es ∧ Fr (· = bm) w w' := by
  obtain ⟨k0, -, -⟩ := hK t ht.2
  obtain ⟨ht1, ht2⟩ := ht
  obtain ⟨hp1, hp2⟩ := hp
  have h8 : (t : Int) < 8 := by omega
  have hc := hT.cell
  have hlt := hT.lt
  have e1 := beq_str n _ h1
  have e2 := beq_str n _ h2
  have e3 := beq_str n _ h3
  have e4 := beq_str n _ h4
  have h0 : 0 < w.heap.size := hK.lt
  rw [hs] at k0
  have HS : Hid (kSort (t : Int) = 1) := hs
  have hmn := fun (u : World) => run_eql_map_nil (P := Tryd.prog) u 83 97 92 (some bm) Tryd.underlying83
  have hb0 : Below w.heap.size w (w.alloc (.cells #[.int .i64 1, .string ⟨n.toArray⟩] 97)) := (Below.refl _ _).alloc (Nat.le_refl _) _
  have hT0 := hT.later hb0
  have hl0 := hT0.map.len (P := Tryd.prog) (t := 83) (ty := 3) Tryd.underlying83
  have HT := Lib.hid hT
  have HT0 := Lib.hid hT0
  clear hT hT0 hK h1 h2 h3 h4 hs
  have e5 : (p == 0) = false := by simp; omega
  go_enter Tryd.func13, Tryd.ntmps13
  go_wp2_with fail
  refine (has_any _ bt bm es HT0.out 1 n ⟨by simp, by unfold maxLen; simp; omega⟩).mono ?_
  rintro e w1 ⟨rfl, hc1⟩
  have hb1 := hb0.trans (hc1.mono hb0.size)
  have hT1 := HT.out.later hb1
  have hcell1 := hT1.cell
  have hk1 := hc1.cell (p := ⟨w.heap.size, 0, none⟩) (by simp)
  have hk1' := hc1.cell (p := ⟨w.heap.size, 1, none⟩) (by simp)
  have hl1 := hT1.map.len (P := Tryd.prog) (t := 83) (ty := 3) Tryd.underlying83
  have HT1 := Lib.hid hT1
  clear hT1
  simp only [World.cell?_alloc_new, List.getElem?_toArray, List.getElem?_cons_zero, List.getElem?_cons_succ] at hk1 hk1'
  go_wp2_with fail
  go_ret
  exact ⟨rfl, HT1.out, .of_below _ hb1⟩

set_option maxHeartbeats 400000 in
theorem op_del1 (w : World) (bt bm : Nat) (es : List (OpK × OpV)) (hT : TabAt w bt bm es) (hK : KindsAt w) (hbb : bt ≠ bm) (p : Int) (t : Nat) (n : List UInt8) (hn : n.length ≤ 1000) (hp : p = 0 ∧ True) (ht : 1 ≤ t ∧ t ≤ 7)
    (h1 : n ≠ [44]) (h2 : n ≠ [124]) (h3 : n ≠ [91, 93]) (h4 : n ≠ [123, 125]) (hs : kSort t = 1) :
    Calls Tryd.prog 13 #[.pointer (some ⟨bt, 0, none⟩), .int .i64 p, .int .i64 t, .string ⟨n.toArray⟩] w fun e w' =>
      e = .returned (.int .i64 0) ∧ TabAt w' bt bm (mdel es (1, n)) ∧ Fr (· = bm) w w' := by
  obtain ⟨k0, -, -⟩ := hK t ht.2
  obtain ⟨ht1, ht2⟩ := ht
  obtain ⟨rfl, -⟩ := hp
  have h8 : (t : Int) < 8 := by omega
  have hc := hT.cell
  have hlt := hT.lt
  have e1 := beq_str n _ h1
  have e2 := beq_str n _ h2
  have e3 := beq_str n _ h3
  have e4 := beq_str n _ h4
  have h0 : 0 < w.heap.size := hK.lt
  rw [hs] at k0
  have HS : Hid (kSort (t : Int) = 1) := hs
  have hmn := fun (u : World) => run_eql_map_nil (P := Tryd.prog) u 83 97 92 (some bm) Tryd.underlying83
  have hb0 : Below w.heap.size w (w.alloc (.cells #[.int .i64 1, .string ⟨n.toArray⟩] 97)) := (Below.refl _ _).alloc (Nat.le_refl _) _
  have hT0 := hT.later hb0
  have hl0 := hT0.map.len (P := Tryd.prog) (t := 83) (ty := 3) Tryd.underlying83
  have HT := Lib.hid hT
  have HT0 := Lib.hid hT0
  clear hT hT0 hK h1 h2 h3 h4 hs
  obtain ⟨w9, hup, hM, hG, -⟩ := MapAt.delete (P := Tryd.prog) (t := 83) (ty := 0) opKE Tryd.underlying83 HT0.out.map.drew HT.out.ok (k := (1, n)) ⟨by simp, by unfold maxLen; simp; omega⟩ 97
  rw [show opk (1, n) = .agg #[.int .i64 1, .string ⟨n.toArray⟩] from rfl] at hup
  have HM := Lib.hid hM
  have HF : Hid (Fr (· = bm) w w9) := (((Fr.of_below _ hb0).drew).grown hG (fun g hg => .inl (Option.some.inj hg).symm))
  clear hM hG
  go_enter Tryd.func13, Tryd.ntmps13
  go_wp2
  go_region
  go_wp2
  go_ret
  exact ⟨rfl, HT.out.changed HF.out hbb HM.out (fun x hx => HT.out.good x (mem_mdel hx)), HF.out⟩

set_option maxHeartbeats 400000 in
theorem op_ok20 (w : World) (bt bm : Nat) (es : List (OpK × OpV)) (hT : TabAt w bt bm es) (hK : KindsAt w) (hbb : bt ≠ bm) (p : Int) (t : Nat) (n : List UInt8) (hn : n.length ≤ 1000) (hp : 1 ≤ p ∧ p ≤ 1200) (ht : 1 ≤ t ∧ t ≤ 7)
    (h1 : n ≠ [44]) (h2 : n ≠ [124]) (h3 : n ≠ [91, 93]) (h4 : n ≠ [123, 125]) (hs : kSort t = 2) (hr : es.length < 256) (hq : (mget es (3, n)).isSome = false) :
    Calls Tryd.prog 13 #[.pointer (some ⟨bt, 0, none⟩), .int .i64 p, .int .i64 t, .string ⟨n.toArray⟩] w fun e w' =>
      e = .returned (.int .i64 0) ∧ TabAt w' bt bm (mput es (2, n) (p, (t : Int))) ∧ Fr (· = bm) w w' := by
  obtain ⟨k0, -, -⟩ := hK t ht.2
  obtain ⟨ht1, ht2⟩ := ht
  obtain ⟨hp1, hp2⟩ := hp
  have h8 : (t : Int) < 8 := by omega
  have hc := hT.cell
  have hlt := hT.lt
  have e1 := beq_str n _ h1
  have e2 := beq_str n _ h2
  have e3 := beq_str n _ h3
  have e4 := beq_str n _ h4
  have h0 : 0 < w.heap.size := hK.lt
  rw [hs] at k0
  have HS : Hid (kSort (t : Int) = 2) := hs
  have hmn := fun (u : World) => run_eql_map_nil (P := Tryd.prog) u 83 97 92 (some bm) Tryd.underlying83
  have hb0 : Below w.heap.size w (w.alloc (.cells #[.int .i64 2, .string ⟨n.toArray⟩] 97)) := (Below.refl _ _).alloc (Nat.le_refl _) _
  have hT0 := hT.later hb0
  have hl0 := hT0.map.len (P := Tryd.prog) (t := 83) (ty := 3) Tryd.underlying83
  have HT := Lib.hid hT
  have HT0 := Lib.hid hT0
  clear hT hT0 hK h1 h2 h3 h4 hs
  have e5 : (p == 0) = false := by simp; omega
  have HG : Hid (∀ x ∈ mput es (2, n) (p, (t : Int)), goodOp x) := by
    intro x hx
    rcases mem_mput hx with hx | rfl
    · exact HT.out.good x hx
    · exact ⟨HS.out.symm, hn, by simp only; omega, by simp only; omega, by simp only; omega, by simp only; omega⟩
  go_enter Tryd.func13, Tryd.ntmps13
  go_wp2_with fail
  refine (has_any _ bt bm es HT0.out 3 n ⟨by simp, by unfold maxLen; simp; omega⟩).mono ?_
  rintro e w1 ⟨rfl, hc1⟩
  have hb1 := hb0.trans (hc1.mono hb0.size)
  have hT1 := HT.out.later hb1
  have hcell1 := hT1.cell
  have hk1 := hc1.cell (p := ⟨w.heap.size, 0, none⟩) (by simp)
  have hk1' := hc1.cell (p := ⟨w.heap.size, 1, none⟩) (by simp)
  have hl1 := hT1.map.len (P := Tryd.prog) (t := 83) (ty := 3) Tryd.underlying83
  have HT1 := Lib.hid hT1
  clear hT1
  simp only [World.cell?_alloc_new, List.getElem?_toArray, List.getElem?_cons_zero, List.getElem?_cons_succ] at hk1 hk1'
  go_wp2_with fail
  obtain ⟨w9, hup, hM, hG, -⟩ := MapAt.update (P := Tryd.prog) (t := 83) opKE Tryd.underlying83 HT1.out.map.drew HT.out.ok (k := (2, n)) ⟨by simp, by unfold maxLen; simp; omega⟩ ((p, (t : Int)) : OpV)
  rw [show opk (2, n) = .agg #[.int .i64 2, .string ⟨n.toArray⟩] from rfl, show opv (p, (t : Int)) = .agg #[.int .i64 p, .int .i64 t] from rfl] at hup
  have HM := Lib.hid hM
  have HF : Hid (Fr (· = bm) w w9) := (((Fr.of_below _ hb1).drew).grown hG (fun g hg => .inl (Option.some.inj hg).symm))
  clear hM hG
  go_region
  go_wp2
  go_ret
  exact ⟨rfl, HT.out.changed HF.out hbb HM.out HG.out, HF.out⟩

set_option maxHeartbeats 400000 in
theorem op_ok21 (w : World) (bt bm : Nat) (es : List (OpK × OpV)) (hT : TabAt w bt bm es) (hK : KindsAt w) (hbb : bt ≠ bm) (p : Int) (t : Nat) (n : List UInt8) (hn : n.length ≤ 1000) (hp : 1 ≤ p ∧ p ≤ 1200) (ht : 1 ≤ t ∧ t ≤ 7)
    (h1 : n ≠ [44]) (h2 : n ≠ [124]) (h3 : n ≠ [91, 93]) (h4 : n ≠ [123, 125]) (hs : kSort t = 2) (hr : 256 ≤ es.length) (hh : (mget es (2, n)).isSome = true) (hq : (mget es (3, n)).isSome = false) :
    Calls Tryd.prog 13 #[.pointer (some ⟨bt, 0, none⟩), .int .i64 p, .int .i64 t, .string ⟨n.toArray⟩] w fun e w' =>
      e = .returned (.int .i64 0) ∧ TabAt w' bt bm (mput es (2, n) (p, (t : Int))) ∧ Fr (· = bm) w w' := by
  obtain ⟨k0, -, -⟩ := hK t ht.2
  obtain ⟨ht1, ht2⟩ := ht
  obtain ⟨hp1, hp2⟩ := hp
  have h8 : (t : Int) < 8 := by omega
  have hc := hT.cell
  have hlt := hT.lt
  have e1 := beq_str n _ h1
  have e2 := beq_str n _ h2
  have e3 := beq_str n _ h3
  have e4 := beq_str n _ h4
  have h0 : 0 < w.heap.size := hK.lt
  rw [hs] at k0
  have HS : Hid (kSort (t : Int) = 2) := hs
  have hmn := fun (u : World) => run_eql_map_nil (P := Tryd.prog) u 83 97 92 (some bm) Tryd.underlying83
  have hb0 : Below w.heap.size w (w.alloc (.cells #[.int .i64 2, .string ⟨n.toArray⟩] 97)) := (Below.refl _ _).alloc (Nat.le_refl _) _
  have hT0 := hT.later hb0
  have hl0 := hT0.map.len (P := Tryd.prog) (t := 83) (ty := 3) Tryd.underlying83
  have HT := Lib.hid hT
  have HT0 := Lib.hid hT0
  clear hT hT0 hK h1 h2 h3 h4 hs
  have e5 : (p == 0) = false := by simp; omega
  have HG : Hid (∀ x ∈ mput es (2, n) (p, (t : Int)), goodOp x) := by
    intro x hx
    rcases mem_mput hx with hx | rfl
    · exact HT.out.good x hx
    · exact ⟨HS.out.symm, hn, by simp only; omega, by simp only; omega, by simp only; omega, by simp only; omega⟩
  go_enter Tryd.func13, Tryd.ntmps13
  go_wp2_with fail
  refine (has_any _ bt bm es HT0.out 3 n ⟨by simp, by unfold maxLen; simp; omega⟩).mono ?_
  rintro e w1 ⟨rfl, hc1⟩
  have hb1 := hb0.trans (hc1.mono hb0.size)
  have hT1 := HT.out.later hb1
  have hcell1 := hT1.cell
  have hk1 := hc1.cell (p := ⟨w.heap.size, 0, none⟩) (by simp)
  have hk1' := hc1.cell (p := ⟨w.heap.size, 1, none⟩) (by simp)
  have hl1 := hT1.map.len (P := Tryd.prog) (t := 83) (ty := 3) Tryd.underlying83
  have HT1 := Lib.hid hT1
  clear hT1
  simp only [World.cell?_alloc_new, List.getElem?_toArray, List.getElem?_cons_zero, List.getElem?_cons_succ] at hk1 hk1'
  go_wp2_with fail
  refine (has_any _ bt bm es HT1.out 2 n ⟨by simp, by unfold maxLen; simp; omega⟩).mono ?_
  rintro e w2 ⟨rfl, hc2⟩
  have hb2 := hb1.trans (hc2.mono hb1.size)
  have hT2 := HT.out.later hb2
  have hcell2 := hT2.cell
  have hk2 := hc2.cell (p := ⟨w.heap.size, 0, none⟩) (World.block_lt_of_cell? w1 ⟨w.heap.size, 0, none⟩ hk1)
  have hk2' := hc2.cell (p := ⟨w.heap.size, 1, none⟩) (World.block_lt_of_cell? w1 ⟨w.heap.size, 0, none⟩ hk1)
  have hl2 := hT2.map.len (P := Tryd.prog) (t := 83) (ty := 3) Tryd.underlying83
  have HT2 := Lib.hid hT2
  clear hT2
  rw [hk1] at hk2
  rw [hk1'] at hk2'
  go_wp2_with fail
  obtain ⟨w9, hup, hM, hG, -⟩ := MapAt.update (P := Tryd.prog) (t := 83) opKE Tryd.underlying83 HT2.out.map.drew HT.out.ok (k := (2, n)) ⟨by simp, by unfold maxLen; simp; omega⟩ ((p, (t : Int)) : OpV)
  rw [show opk (2, n) = .agg #[.int .i64 2, .string ⟨n.toArray⟩] from rfl, show opv (p, (t : Int)) = .agg #[.int .i64 p, .int .i64 t] from rfl] at hup
  have HM := Lib.hid hM
  have HF : Hid (Fr (· = bm) w w9) := (((Fr.of_below _ hb2).drew).grown hG (fun g hg => .inl (Option.some.inj hg).symm))
  clear hM hG
  go_region
  go_wp2
  go_ret
  exact ⟨rfl, HT.out.changed HF.out hbb HM.out HG.out, HF.out⟩

set_option maxHeartbeats 400000 in
theorem op_full2 (w : World) (bt bm : Nat) (es : List (OpK × OpV)) (hT : TabAt w bt bm es) (hK : KindsAt w) (p : Int) (t : Nat) (n : List UInt8) (hn : n.length ≤ 1000) (hp : 1 ≤ p ∧ p ≤ 1200) (ht : 1 ≤ t ∧ t ≤ 7)
    (h1 : n ≠ [44]) (h2 : n ≠ [124]) (h3 : n ≠ [91, 93]) (h4 : n ≠ [123, 125]) (hs : kSort t = 2) (hr : 256 ≤ es.length) (hh : (mget es (2, n)).isSome = false) (hq : (mget es (3, n)).isSome = false) :
    Calls Tryd.prog 13 #[.pointer (some ⟨bt, 0, none⟩), .int .i64 p, .int .i64 t, .string ⟨n.toArray⟩] w fun e w' =>
      e = .returned (.int .i64 9) ∧ TabAt w' bt bm es ∧ Fr (· = bm) w w' := by
  obtain ⟨k0, -, -⟩ := hK t ht.2
  obtain ⟨ht1, ht2⟩ := ht
  obtain ⟨hp1, hp2⟩ := hp
  have h8 : (t : Int) < 8 := by omega
  have hc := hT.cell
  have hlt := hT.lt
  have e1 := beq_str n _ h1
  have e2 := beq_str n _ h2
  have e3 := beq_str n _ h3
  have e4 := beq_str n _ h4
  have h0 : 0 < w.heap.size := hK.lt
  rw [hs] at k0
  have HS : Hid (kSort (t : Int) = 2) := hs
  have hmn := fun (u : World) => run_eql_map_nil (P := Tryd.prog) u 83 97 92 (some bm) Tryd.underlying83
  have hb0 : Below w.heap.size w (w.alloc (.cells #[.int .i64 2, .string ⟨n.toArray⟩] 97)) := (Below.refl _ _).alloc (Nat.le_refl _) _
  have hT0 := hT.later hb0
  have hl0 := hT0.map.len (P := Tryd.prog) (t := 83) (ty := 3) Tryd.underlying83
  have HT := Lib.hid hT
  have HT0 := Lib.hid hT0
  clear hT hT0 hK h1 h2 h3 h4 hs
  have e5 : (p == 0) = false := by simp; omega
  go_enter Tryd.func13, Tryd.ntmps13
  go_wp2_with fail
  refine (has_any _ bt bm es HT0.out 3 n ⟨by simp, by unfold maxLen; simp; omega⟩).mono ?_
  rintro e w1 ⟨rfl, hc1⟩
  have hb1 := hb0.trans (hc1.mono hb0.size)
  have hT1 := HT.out.later hb1
  have hcell1 := hT1.cell
  have hk1 := hc1.cell (p := ⟨w.heap.size, 0, none⟩) (by simp)
  have hk1' := hc1.cell (p := ⟨w.heap.size, 1, none⟩) (by simp)
  have hl1 := hT1.map.len (P := Tryd.prog) (t := 83) (ty := 3) Tryd.underlying83
  have HT1 := Lib.hid hT1
  clear hT1
  simp only [World.cell?_alloc_new, List.getElem?_toArray, List.getElem?_cons_zero, List.getElem?_cons_succ] at hk1 hk1'
  go_wp2_with fail
  refine (has_any _ bt bm es HT1.out 2 n ⟨by simp, by unfold maxLen; simp; omega⟩).mono ?_
  rintro e w2 ⟨rfl, hc2⟩
  have hb2 := hb1.trans (hc2.mono hb1.size)
  have hT2 := HT.out.later hb2
  have hcell2 := hT2.cell
  have hk2 := hc2.cell (p := ⟨w.heap.size, 0, none⟩) (World.block_lt_of_cell? w1 ⟨w.heap.size, 0, none⟩ hk1)
  have hk2' := hc2.cell (p := ⟨w.heap.size, 1, none⟩) (World.block_lt_of_cell? w1 ⟨w.heap.size, 0, none⟩ hk1)
  have hl2 := hT2.map.len (P := Tryd.prog) (t := 83) (ty := 3) Tryd.underlying83
  have HT2 := Lib.hid hT2
  clear hT2
  rw [hk1] at hk2
  rw [hk1'] at hk2'
  go_wp2_with fail
  go_ret
  exact ⟨rfl, HT2.out, .of_below _ hb2⟩

set_option maxHeartbeats 400000 in
theorem op_conf2 (w : World) (bt bm : Nat) (es : List (OpK × OpV)) (hT : TabAt w bt bm es) (hK : KindsAt w) (p : Int) (t : Nat) (n : List UInt8) (hn : n.length ≤ 1000) (hp : 1 ≤ p ∧ p ≤ 1200) (ht : 1 ≤ t ∧ t ≤ 7)
    (h1 : n ≠ [44]) (h2 : n ≠ [124]) (h3 : n ≠ [91, 93]) (h4 : n ≠ [123, 125]) (hs : kSort t = 2) (hq : (mget es (3, n)).isSome = true) :
    Calls Tryd.prog 13 #[.pointer (some ⟨bt, 0, none⟩), .int .i64 p, .int .i64 t, .string ⟨n.toArray⟩] w fun e w' =>
      e = .returned (.int .i64 15) ∧ TabAt w' bt bm es ∧ Fr (· = bm) w w' := by
  obtain ⟨k0, -, -⟩ := hK t ht.2
  obtain ⟨ht1, ht2⟩ := ht
  obtain ⟨hp1, hp2⟩ := hp
  have h8 : (t : Int) < 8 := by omega
  have hc := hT.cell
  have hlt := hT.lt
  have e1 := beq_str n _ h1
  have e2 := beq_str n _ h2
  have e3 := beq_str n _ h3
  have e4 := beq_str n _ h4
  have h0 : 0 < w.heap.size := hK.lt
  rw [hs] at k0
  have HS : Hid (kSort (t : Int) = 2) := hs
  have hmn := fun (u : World) => run_eql_map_nil (P := Tryd.prog) u 83 97 92 (some bm) Tryd.underlying83
  have hb0 : Below w.heap.size w (w.alloc (.cells #[.int .i64 2, .string ⟨n.toArray⟩] 97)) := (Below.refl _ _).alloc (Nat.le_refl _) _
  have hT0 := hT.later hb0
  have hl0 := hT0.map.len (P := Tryd.prog) (t := 83) (ty := 3) Tryd.underlying83
  have HT := Lib.hid hT
  have HT0 := Lib.hid hT0
  clear hT hT0 hK h1 h2 h3 h4 hs
  have e5 : (p == 0) = false := by simp; omega
  go_enter Tryd.func13, Tryd.ntmps13
  go_wp2_with fail
  refine (has_any _ bt bm es HT0.out 3 n ⟨by simp, by unfold maxLen; simp; omega⟩).mono ?_
  rintro e w1 ⟨rfl, hc1⟩
  have hb1 := hb0.trans (hc1.mono hb0.size)
  have hT1 := HT.out.later hb1
  have hcell1 := hT1.cell
  have hk1 := hc1.cell (p := ⟨w.heap.size, 0, none⟩) (by simp)
  have hk1' := hc1.cell (p := ⟨w.heap.size, 1, none⟩) (by simp)
  have hl1 := hT1.map.len (P := Tryd.prog) (t := 83) (ty := 3) Tryd.underlying83
  have HT1 := Lib.hid hT1
  clear hT1
  simp only [World.cell?_alloc_new, List.getElem?_toArray, List.getElem?_cons_zero, List.getElem?_cons_succ] at hk1 hk1'
  go_wp2_with fail
  go_ret
  exact ⟨rfl, HT1.out, .of_below _ hb1⟩

set_option maxHeartbeats 400000 in
theorem op_del2 (w : World) (bt bm : Nat) (es : List (OpK × OpV)) (hT : TabAt w bt bm es) (hK : KindsAt w) (hbb : bt ≠ bm) (p : Int) (t : Nat) (n : List UInt8) (hn : n.length ≤ 1000) (hp : p = 0 ∧ True) (ht : 1 ≤ t ∧ t ≤ 7)
    (h1 : n ≠ [44]) (h2 : n ≠ [124]) (h3 : n ≠ [91, 93]) (h4 : n ≠ [123, 125]) (hs : kSort t = 2) :
    Calls Tryd.prog 13 #[.pointer (some ⟨bt, 0, none⟩), .int .i64 p, .int .i64 t, .string ⟨n.toArray⟩] w fun e w' =>
      e = .returned (.int .i64 0) ∧ TabAt w' bt bm (mdel es (2, n)) ∧ Fr (· = bm) w w' := by
  obtain ⟨k0, -, -⟩ := hK t ht.2
  obtain ⟨ht1, ht2⟩ := ht
  obtain ⟨rfl, -⟩ := hp
  have h8 : (t : Int) < 8 := by omega
  have hc := hT.cell
  have hlt := hT.lt
  have e1 := beq_str n _ h1
  have e2 := beq_str n _ h2
  have e3 := beq_str n _ h3
  have e4 := beq_str n _ h4
  have h0 : 0 < w.heap.size := hK.lt
  rw [hs] at k0
  have HS : Hid (kSort (t : Int) = 2) := hs
  have hmn := fun (u : World) => run_eql_map_nil (P := Tryd.prog) u 83 97 92 (some bm) Tryd.underlying83
  have hb0 : Below w.heap.size w (w.alloc (.cells #[.int .i64 2, .string ⟨n.toArray⟩] 97)) := (Below.refl _ _).alloc (Nat.le_refl _) _
  have hT0 := hT.later hb0
  have hl0 := hT0.map.len (P := Tryd.prog) (t := 83) (ty := 3) Tryd.underlying83
  have HT := Lib.hid hT
  have HT0 := Lib.hid hT0
  clear hT hT0 hK h1 h2 h3 h4 hs
  obtain ⟨w9, hup, hM, hG, -⟩ := MapAt.delete (P := Tryd.prog) (t := 83) (ty := 0) opKE Tryd.underlying83 HT0.out.map.drew HT.out.ok (k := (2, n)) ⟨by simp, by unfold maxLen; simp; omega⟩ 97
  rw [show opk (2, n) = .agg #[.int .i64 2, .string ⟨n.toArray⟩] from rfl] at hup
  have HM := Lib.hid hM
  have HF : Hid (Fr (· = bm) w w9) := (((Fr.of_below _ hb0).drew).grown hG (fun g hg => .inl (Option.some.inj hg).symm))
  clear hM hG
  go_enter Tryd.func13, Tryd.ntmps13
  go_wp2
  go_region
  go_wp2
  go_ret
  exact ⟨rfl, HT.out.changed HF.out hbb HM.out (fun x hx => HT.out.good x (mem_mdel hx)), HF.out⟩

set_option maxHeartbeats 400000 in
theorem op_ok30 (w : World) (bt bm : Nat) (es : List (OpK × OpV)) (hT : TabAt w bt bm es) (hK : KindsAt w) (hbb : bt ≠ bm) (p : Int) (t : Nat) (n : List UInt8) (hn : n.length ≤ 1000) (hp : 1 ≤ p ∧ p ≤ 1200) (ht : 1 ≤ t ∧ t ≤ 7)
    (h1 : n ≠ [44]) (h2 : n ≠ [124]) (h3 : n ≠ [91, 93]) (h4 : n ≠ [123, 125]) (hs : kSort t = 3) (hr : es.length < 256) (hq : (mget es (2, n)).isSome = false) :
    Calls Tryd.prog 13 #[.pointer (some ⟨bt, 0, none⟩), .int .i64 p, .int .i64 t, .string ⟨n.toArray⟩] w fun e w' =>
      e = .returned (.int .i64 0) ∧ TabAt w' bt bm (mput es (3, n) (p, (t : Int))) ∧ Fr (· = bm) w w' := by
  obtain ⟨k0, -, -⟩ := hK t ht.2
  obtain ⟨ht1, ht2⟩ := ht
  obtain ⟨hp1, hp2⟩ := hp
  have h8 : (t : Int) < 8 := by omega
  have hc := hT.cell
  have hlt := hT.lt
  have e1 := beq_str n _ h1
  have e2 := beq_str n _ h2
  have e3 := beq_str n _ h3
  have e4 := beq_str n _ h4
  have h0 : 0 < w.heap.size := hK.lt
  rw [hs] at k0
  have HS : Hid (kSort (t : Int) = 3) := hs
  have hmn := fun (u : World) => run_eql_map_nil (P := Tryd.prog) u 83 97 92 (some bm) Tryd.underlying83
  have hb0 : Below w.heap.size w (w.alloc (.cells #[.int .i64 3, .string ⟨n.toArray⟩] 97)) := (Below.refl _ _).alloc (Nat.le_refl _) _
  have hT0 := hT.later hb0
  have hl0 := hT0.map.len (P := Tryd.prog) (t := 83) (ty := 3) Tryd.underlying83
  have HT := Lib.hid hT
  have HT0 := Lib.hid hT0
  clear hT hT0 hK h1 h2 h3 h4 hs
  have e5 : (p == 0) = false := by simp; omega
  have HG : Hid (∀ x ∈ mput es (3, n) (p, (t : Int)), goodOp x) := by
    intro x hx
    rcases mem_mput hx with hx | rfl
    · exact HT.out.good x hx
    · exact ⟨HS.out.symm, hn, by simp only; omega, by simp only; omega, by simp only; omega, by simp only; omega⟩
  go_enter Tryd.func13, Tryd.ntmps13
  go_wp2_with fail
  refine (has_any _ bt bm es HT0.out 2 n ⟨by simp, by unfold maxLen; simp; omega⟩).mono ?_
  rintro e w1 ⟨rfl, hc1⟩
  have hb1 := hb0.trans (hc1.mono hb0.size)
  have hT1 := HT.out.later hb1
  have hcell1 := hT1.cell
  have hk1 := hc1.cell (p := ⟨w.heap.size, 0, none⟩) (by simp)
  have hk1' := hc1.cell (p := ⟨w.heap.size, 1, none⟩) (by simp)
  have hl1 := hT1.map.len (P := Tryd.prog) (t := 83) (ty := 3) Tryd.underlying83
  have HT1 := Lib.hid hT1
  clear hT1
  simp only [World.cell?_alloc_new, List.getElem?_toArray, List.getElem?_cons_zero, List.getElem?_cons_succ] at hk1 hk1'
  go_wp2_with fail
  obtain ⟨w9, hup, hM, hG, -⟩ := MapAt.update (P := Tryd.prog) (t := 83) opKE Tryd.underlying83 HT1.out.map.drew HT.out.ok (k := (3, n)) ⟨by simp, by unfold maxLen; simp; omega⟩ ((p, (t : Int)) : OpV)
  rw [show opk (3, n) = .agg #[.int .i64 3, .string ⟨n.toArray⟩] from rfl, show opv (p, (t : Int)) = .agg #[.int .i64 p, .int .i64 t] from rfl] at hup
  have HM := Lib.hid hM
  have HF : Hid (Fr (· = bm) w w9) := (((Fr.of_below _ hb1).drew).grown hG (fun g hg => .inl (Option.some.inj hg).symm))
  clear hM hG
  go_region
  go_wp2
  go_ret
  exact ⟨rfl, HT.out.changed HF.out hbb HM.out HG.out, HF.out⟩

set_option maxHeartbeats 400000 in
theorem op_ok31 (w : World) (bt bm : Nat) (es : List (OpK × OpV)) (hT : TabAt w bt bm es) (hK : KindsAt w) (hbb : bt ≠ bm) (p : Int) (t : Nat) (n : List UInt8) (hn : n.length ≤ 1000) (hp : 1 ≤ p ∧ p ≤ 1200) (ht : 1 ≤ t ∧ t ≤ 7)
    (h1 : n ≠ [44]) (h2 : n ≠ [124]) (h3 : n ≠ [91, 93]) (h4 : n ≠ [123, 125]) (hs : kSort t = 3) (hr : 256 ≤ es.length) (hh : (mget es (3, n)).isSome = true) (hq : (mget es (2, n)).isSome = false) :
    Calls Tryd.prog 13 #[.pointer (some ⟨bt, 0, none⟩), .int .i64 p, .int .i64 t, .string ⟨n.toArray⟩] w fun e w' =>
      e = .returned (.int .i64 0) ∧ TabAt w' bt bm (mput es (3, n) (p, (t : Int))) ∧ Fr (· = bm) w w' := by
  obtain ⟨k0, -, -⟩ := hK t ht.2
  obtain ⟨ht1, ht2⟩ := ht
  obtain ⟨hp1, hp2⟩ := hp
  have h8 : (t : Int) < 8 := by omega
  have hc := hT.cell
  have hlt := hT.lt
  have e1 := beq_str n _ h1
  have e2 := beq_str n _ h2
  have e3 := beq_str n _ h3
  have e4 := beq_str n _ h4
  have h0 : 0 < w.heap.size := hK.lt
  rw [hs] at k0
  have HS : Hid (kSort (t : Int) = 3) := hs
  have hmn := fun (u : World) => run_eql_map_nil (P := Tryd.prog) u 83 97 92 (some bm) Tryd.underlying83
  have hb0 : Below w.heap.size w (w.alloc (.cells #[.int .i64 3, .string ⟨n.toArray⟩] 97)) := (Below.refl _ _).alloc (Nat.le_refl _) _
  have hT0 := hT.later hb0
  have hl0 := hT0.map.len (P := Tryd.prog) (t := 83) (ty := 3) Tryd.underlying83
  have HT := Lib.hid hT
  have HT0 := Lib.hid hT0
  clear hT hT0 hK h1 h2 h3 h4 hs
  have e5 : (p == 0) = false := by simp; omega
  have HG : Hid (∀ x ∈ mput es (3, n) (p, (t : Int)), goodOp x) := by
    intro x hx
    rcases mem_mput hx with hx | rfl
    · exact HT.out.good x hx
    · exact ⟨HS.out.symm, hn, by simp only; omega, by simp only; omega, by simp only; omega, by simp only; omega⟩
  go_enter Tryd.func13, Tryd.ntmps13
  go_wp2_with fail
  refine (has_any _ bt bm es HT0.out 2 n ⟨by simp, by unfold maxLen; simp; omega⟩).mono ?_
  rintro e w1 ⟨rfl, hc1⟩
  have hb1 := hb0.trans (hc1.mono hb0.size)
  have hT1 := HT.out.later hb1
  have hcell1 := hT1.cell
  have hk1 := hc1.cell (p := ⟨w.heap.size, 0, none⟩) (by simp)
  have hk1' := hc1.cell (p := ⟨w.heap.size, 1, none⟩) (by simp)
  have hl1 := hT1.map.len (P := Tryd.prog) (t := 83) (ty := 3) Tryd.underlying83
  have HT1 := Lib.hid hT1
  clear hT1
  simp only [World.cell?_alloc_new, List.getElem?_toArray, List.getElem?_cons_zero, List.getElem?_cons_succ] at hk1 hk1'
  go_wp2_with fail
  refine (has_any _ bt bm es HT1.out 3 n ⟨by simp, by unfold maxLen; simp; omega⟩).mono ?_
  rintro e w2 ⟨rfl, hc2⟩
  have hb2 := hb1.trans (hc2.mono hb1.size)
  have hT2 := HT.out.later hb2
  have hcell2 := hT2.cell
  have hk2 := hc2.cell (p := ⟨w.heap.size, 0, none⟩) (World.block_lt_of_cell? w1 ⟨w.heap.size, 0, none⟩ hk1)
  have hk2' := hc2.cell (p := ⟨w.heap.size, 1, none⟩) (World.block_lt_of_cell? w1 ⟨w.heap.size, 0, none⟩ hk1)
  have hl2 := hT2.map.len (P := Tryd.prog) (t := 83) (ty := 3) Tryd.underlying83
  have HT2 := Lib.hid hT2
  clear hT2
  rw [hk1] at hk2
  rw [hk1'] at hk2'
  go_wp2_with fail
  obtain ⟨w9, hup, hM, hG, -⟩ := MapAt.update (P := Tryd.prog) (t := 83) opKE Tryd.underlying83 HT2.out.map.drew HT.out.ok (k := (3, n)) ⟨by simp, by unfold maxLen; simp; omega⟩ ((p, (t : Int)) : OpV)
  rw [show opk (3, n) = .agg #[.int .i64 3, .string ⟨n.toArray⟩] from rfl, show opv (p, (t : Int)) = .agg #[.int .i64 p, .int .i64 t] from rfl] at hup
  have HM := Lib.hid hM
  have HF : Hid (Fr (· = bm) w w9) := (((Fr.of_below _ hb2).drew).grown hG (fun g hg => .inl (Option.some.inj hg).symm))
  clear hM hG
  go_region
  go_wp2
  go_ret
  exact ⟨rfl, HT.out.changed HF.out hbb HM.out HG.out, HF.out⟩

set_option maxHeartbeats 400000 in
theorem op_full3 (w : World) (bt bm : Nat) (es : List (OpK × OpV)) (hT : TabAt w bt bm es) (hK : KindsAt w) (p : Int) (t : Nat) (n : List UInt8) (hn : n.length ≤ 1000) (hp : 1 ≤ p ∧ p ≤ 1200) (ht : 1 ≤ t ∧ t ≤ 7)
    (h1 : n ≠ [44]) (h2 : n ≠ [124]) (h3 : n ≠ [91, 93]) (h4 : n ≠ [123, 125]) (hs : kSort t = 3) (hr : 256 ≤ es.length) (hh : (mget es (3, n)).isSome = false) (hq : (mget es (2, n)).isSome = false) :
    Calls Tryd.prog 13 #[.pointer (some ⟨bt, 0, none⟩), .int .i64 p, .int .i64 t, .string ⟨n.toArray⟩] w fun e w' =>
      e = .returned (.int .i64 9) ∧ TabAt w' bt bm es ∧ Fr (· = bm) w w' := by
  obtain ⟨k0, -, -⟩ := hK t ht.2
  obtain ⟨ht1, ht2⟩ := ht
  obtain ⟨hp1, hp2⟩ := hp
  have h8 : (t : Int) < 8 := by omega
  have hc := hT.cell
  have hlt := hT.lt
  have e1 := beq_str n _ h1
  have e2 := beq_str n _ h2
  have e3 := beq_str n _ h3
  have e4 := beq_str n _ h4
  have h0 : 0 < w.heap.size := hK.lt
  rw [hs] at k0
  have HS : Hid (kSort (t : Int) = 3) := hs
  have hmn := fun (u : World) => run_eql_map_nil (P := Tryd.prog) u 83 97 92 (some bm) Tryd.underlying83
  have hb0 : Below w.heap.size w (w.alloc (.cells #[.int .i64 3, .string ⟨n.toArray⟩] 97)) := (Below.refl _ _).alloc (Nat.le_refl _) _
  have hT0 := hT.later hb0
  have hl0 := hT0.map.len (P := Tryd.prog) (t := 83) (ty := 3) Tryd.underlying83
  have HT := Lib.hid hT
  have HT0 := Lib.hid hT0
  clear hT hT0 hK h1 h2 h3 h4 hs
  have e5 : (p == 0) = false := by simp; omega
  go_enter Tryd.func13, Tryd.ntmps13
  go_wp2_with fail
  refine (has_any _ bt bm es HT0.out 2 n ⟨by simp, by unfold maxLen; simp; omega⟩).mono ?_
  rintro e w1 ⟨rfl, hc1⟩
  have hb1 := hb0.trans (hc1.mono hb0.size)
  have hT1 := HT.out.later hb1
  have hcell1 := hT1.cell
  have hk1 := hc1.cell (p := ⟨w.heap.size, 0, none⟩) (by simp)
  have hk1' := hc1.cell (p := ⟨w.heap.size, 1, none⟩) (by simp)
  have hl1 := hT1.map.len (P := Tryd.prog) (t := 83) (ty := 3) Tryd.underlying83
  have HT1 := Lib.hid hT1
  clear hT1
  simp only [World.cell?_alloc_new, List.getElem?_toArray, List.getElem?_cons_zero, List.getElem?_cons_succ] at hk1 hk1'
  go_wp2_with fail
  refine (has_any _ bt bm es HT1.out 3 n ⟨by simp, by unfold maxLen; simp; omega⟩).mono ?_
  rintro e w2 ⟨rfl, hc2⟩
  have hb2 := hb1.trans (hc2.mono hb1.size)
  have hT2 := HT.out.later hb2
  have hcell2 := hT2.cell
  have hk2 := hc2.cell (p := ⟨w.heap.size, 0, none⟩) (World.block_lt_of_cell? w1 ⟨w.heap.size, 0, none⟩ hk1)
  have hk2' := hc2.cell (p := ⟨w.heap.size, 1, none⟩) (World.block_lt_of_cell? w1 ⟨w.heap.size, 0, none⟩ hk1)
  have hl2 := hT2.map.len (P := Tryd.prog) (t := 83) (ty := 3) Tryd.underlying83
  have HT2 := Lib.hid hT2
  clear hT2
  rw [hk1] at hk2
  rw [hk1'] at hk2'
  go_wp2_with fail
  go_ret
  exact ⟨rfl, HT2.out, .of_below _ hb2⟩

set_option maxHeartbeats 400000 in
theorem op_conf3 (w : World) (bt bm : Nat) (es : List (OpK × OpV)) (hT : TabAt w bt bm es) (hK : KindsAt w) (p : Int) (t : Nat) (n : List UInt8) (hn : n.length ≤ 1000) (hp : 1 ≤ p ∧ p ≤ 1200) (ht : 1 ≤ t ∧ t ≤ 7)
    (h1 : n ≠ [44]) (h2 : n ≠ [124]) (h3 : n ≠ [91, 93]) (h4 : n ≠ [123, 125]) (hs : kSort t = 3) (hq : (mget es (2, n)).isSome = true) :
    Calls Tryd.prog 13 #[.pointer (some ⟨bt, 0, none⟩), .int .i64 p, .int .i64 t, .string ⟨n.toArray⟩] w fun e w' =>
      e = .returned (.int .i64 15) ∧ TabAt w' bt bm es ∧ Fr (· = bm) w w' := by
  obtain ⟨k0, -, -⟩ := hK t ht.2
  obtain ⟨ht1, ht2⟩ := ht
  obtain ⟨hp1, hp2⟩ := hp
  have h8 : (t : Int) < 8 := by omega
  have hc := hT.cell
  have hlt := hT.lt
  have e1 := beq_str n _ h1
  have e2 := beq_str n _ h2
  have e3 := beq_str n _ h3
  have e4 := beq_str n _ h4
  have h0 : 0 < w.heap.size := hK.lt
  rw [hs] at k0
  have HS : Hid (kSort (t : Int) = 3) := hs
  have hmn := fun (u : World) => run_eql_map_nil (P := Tryd.prog) u 83 97 92 (some bm) Tryd.underlying83
  have hb0 : Below w.heap.size w (w.alloc (.cells #[.int .i64 3, .string ⟨n.toArray⟩] 97)) := (Below.refl _ _).alloc (Nat.le_refl _) _
  have hT0 := hT.later hb0
  have hl0 := hT0.map.len (P := Tryd.prog) (t := 83) (ty := 3) Tryd.underlying83
  have HT := Lib.hid hT
  have HT0 := Lib.hid hT0
  clear hT hT0 hK h1 h2 h3 h4 hs
  have e5 : (p == 0) = false := by simp; omega
  go_enter Tryd.func13, Tryd.ntmps13
  go_wp2_with fail
  refine (has_any _ bt bm es HT0.out 2 n ⟨by simp, by unfold maxLen; simp; omega⟩).mono ?_
  rintro e w1 ⟨rfl, hc1⟩
  have hb1 := hb0.trans (hc1.mono hb0.size)
  have hT1 := HT.out.later hb1
  have hcell1 := hT1.cell
  have hk1 := hc1.cell (p := ⟨w.heap.size, 0, none⟩) (by simp)
  have hk1' := hc1.cell (p := ⟨w.heap.size, 1, none⟩) (by simp)
  have hl1 := hT1.map.len (P := Tryd.prog) (t := 83) (ty := 3) Tryd.underlying83
  have HT1 := Lib.hid hT1
  clear hT1
  simp only [World.cell?_alloc_new, List.getElem?_toArray, List.getElem?_cons_zero, List.getElem?_cons_succ] at hk1 hk1'
  go_wp2_with fail
  go_ret
  exact ⟨rfl, HT1.out, .of_below _ hb1⟩

set_option maxHeartbeats 400000 in
theorem op_del3 (w : World) (bt bm : Nat) (es : List (OpK × OpV)) (hT : TabAt w bt bm es) (hK : KindsAt w) (hbb : bt ≠ bm) (p : Int) (t : Nat) (n : List UInt8) (hn : n.length ≤ 1000) (hp : p = 0 ∧ True) (ht : 1 ≤ t ∧ t ≤ 7)
    (h1 : n ≠ [44]) (h2 : n ≠ [124]) (h3 : n ≠ [91, 93]) (h4 : n ≠ [123, 125]) (hs : kSort t = 3) :
    Calls Tryd.prog 13 #[.pointer (some ⟨bt, 0, none⟩), .int .i64 p, .int .i64 t, .string ⟨n.toArray⟩] w fun e w' =>
      e = .returned (.int .i64 0) ∧ TabAt w' bt bm (mdel es (3, n)) ∧ Fr (· = bm) w w' := by
  obtain ⟨k0, -, -⟩ := hK t ht.2
  obtain ⟨ht1, ht2⟩ := ht
  obtain ⟨rfl, -⟩ := hp
  have h8 : (t : Int) < 8 := by omega
  have hc := hT.cell
  have hlt := hT.lt
  have e1 := beq_str n _ h1
  have e2 := beq_str n _ h2
  have e3 := beq_str n _ h3
  have e4 := beq_str n _ h4
  have h0 : 0 < w.heap.size := hK.lt
  rw [hs] at k0
  have HS : Hid (kSort (t : Int) = 3) := hs
  have hmn := fun (u : World) => run_eql_map_nil (P := Tryd.prog) u 83 97 92 (some bm) Tryd.underlying83
  have hb0 : Below w.heap.size w (w.alloc (.cells #[.int .i64 3, .string ⟨n.toArray⟩] 97)) := (Below.refl _ _).alloc (Nat.le_refl _) _
  have hT0 := hT.later hb0
  have hl0 := hT0.map.len (P := Tryd.prog) (t := 83) (ty := 3) Tryd.underlying83
  have HT := Lib.hid hT
  have HT0 := Lib.hid hT0
  clear hT hT0 hK h1 h2 h3 h4 hs
  obtain ⟨w9, hup, hM, hG, -⟩ := MapAt.delete (P := Tryd.prog) (t := 83) (ty := 0) opKE Tryd.underlying83 HT0.out.map.drew HT.out.ok (k := (3, n)) ⟨by simp, by unfold maxLen; simp; omega⟩ 97
  rw [show opk (3, n) = .agg #[.int .i64 3, .string ⟨n.toArray⟩] from rfl] at hup
  have HM := Lib.hid hM
  have HF : Hid (Fr (· = bm) w w9) := (((Fr.of_below _ hb0).drew).grown hG (fun g hg => .inl (Option.some.inj hg).symm))
  clear hM hG
  go_enter Tryd.func13, Tryd.ntmps13
  go_wp2
  go_region
  go_wp2
  go_ret
  exact ⟨rfl, HT.out.changed HF.out hbb HM.out (fun x hx => HT.out.good x (mem_mdel hx)), HF.out⟩

end Go.Proofs.YtmgidfndifhcoaaDoor
/-
  Looking up behind a store or a deletion in a typed map: plain laws, no condition.
-/
namespace Go.Proofs.YtmgidfndifhcoaaDoor
section
variable {κ ν : Type} [DecidableEq κ]
theorem mget_nil (k : κ) : mget ([] : List (κ × ν)) k = none := rfl
theorem mget_cons (y : κ × ν) (r : List (κ × ν)) (k : κ) : mget (y :: r) k = if y.1 = k then some y.2 else mget r k := by
  unfold mget
  rw [List.find?_cons]
  by_cases e : y.1 = k <;> simp [e]
theorem mget_append (l r : List (κ × ν)) (k : κ) : mget (l ++ r) k = (mget l k).or (mget r k) := by
  unfold mget
  rw [List.find?_append]
  cases l.find? (fun x => decide (x.1 = k)) <;> simp
theorem mget_map_put (l : List (κ × ν)) (k k' : κ) (v : ν) : mget (l.map (fun x => if x.1 = k then (k, v) else x)) k' = if k' = k then (mget l k).map (fun _ => v) else mget l k' := by
  induction l with
  | nil => by_cases e : k' = k <;> simp [mget_nil, e]
  | cons y r ih =>
    rw [List.map_cons, mget_cons, ih, mget_cons, mget_cons]
    by_cases e : y.1 = k
    · by_cases e2 : k' = k
      · subst e2; simp [e]
      · have e3 : ¬ k = k' := fun h => e2 h.symm
        simp [e, e2, e3]
    · by_cases e2 : k' = k
      · subst e2; simp [e]
      · simp [e, e2]
theorem mget_mput_same (l : List (κ × ν)) (k : κ) (v : ν) : mget (mput l k v) k = some v := by
  unfold mput
  split
  · rename_i h
    rw [mget_map_put, if_pos rfl]
    obtain ⟨x, hx⟩ := Option.isSome_iff_exists.1 h
    rw [hx]
    rfl
  · rename_i h
    have hn : mget l k = none := by simpa using h
    rw [mget_append, hn, mget_cons]
    simp
theorem mget_mput_other (l : List (κ × ν)) (k k' : κ) (v : ν) (h : k' ≠ k) : mget (mput l k v) k' = mget l k' := by
  unfold mput
  split
  · rw [mget_map_put, if_neg h]
  · have : ¬ k = k' := fun e => h e.symm
    rw [mget_append, mget_cons, mget_nil, if_neg this]
    simp
theorem mget_mdel_same (l : List (κ × ν)) (k : κ) : mget (mdel l k) k = none :=
  mget_none fun x hx => by simpa using (List.mem_filter.1 hx).2
theorem mget_mdel_other (l : List (κ × ν)) (k k' : κ) (h : k' ≠ k) : mget (mdel l k) k' = mget l k' := by
  unfold mdel mget
  induction l with
  | nil => rfl
  | cons y r ih =>
    by_cases e : y.1 = k
    · have e1 : ¬ y.1 = k' := fun e2 => h (e2.symm.trans e)
      rw [List.filter_cons_of_neg (by simpa using e), List.find?_cons_of_neg (by simpa using e1)]
      exact ih
    · rw [List.filter_cons_of_pos (by simpa using e)]
      by_cases e1 : y.1 = k'
      · simp [e1]
      · rw [List.find?_cons_of_neg (by simpa using e1), List.find?_cons_of_neg (by simpa using e1)]
        exact ih
end
end Go.Proofs.YtmgidfndifhcoaaDoor
