import Derived.Test.YtcallkljcjimiaaGreatDoorJW04
import Derived.Test.YtcallkljcjimiaaGreatDoorJW03
import Derived.Lib.Hide
import Derived.BigQuiet
import Derived.Deep.QuietTactic
import Derived.StillTailTactics
import Derived.WalkKit
import Derived.WalkSmall
import Derived.IntWalk
namespace Go.Proofs.YtcallkljcjimiaaGreatDoor
open Go.RowKit Go.Maps
set_option maxRecDepth 100000
def isOp (es : List (OpK × OpV)) (n : List UInt8) : Bool := (mget es (1, n)).isSome || ((mget es (2, n)).isSome || (mget es (3, n)).isSome)
set_option maxHeartbeats 400000 in
theorem opIs_any (w : World) (bt bm : Nat) (es : List (OpK × OpV)) (hT : TabAt w bt bm es) (n : List UInt8) (hn : OkName n) :
    Calls Tryz.prog 153 #[.pointer (some ⟨bt, 0, none⟩), .string ⟨n.toArray⟩] w fun e w' => e = .returned (.bool (isOp es n)) ∧ Below w.heap.size w w' := by
 unfold isOp
 cases h1 : (mget es (1, n)).isSome
 ·cases h2 : (mget es (2, n)).isSome
  ·go_enter Tryz.func153, Tryz.ntmps153
   go_wp2_with fail
   refine (has_any _ bt bm es hT 1 n (hn.k 1 (by omega))).mono ?_
   rintro e w1 ⟨rfl, hb1⟩
   go_wp2_with fail
   refine (has_any _ bt bm es (hT.later hb1) 2 n (hn.k 2 (by omega))).mono ?_
   rintro e w2 ⟨rfl, hb2⟩
   go_wp2_with fail
   refine (has_any _ bt bm es ((hT.later hb1).later hb2) 3 n (hn.k 3 (by omega))).mono ?_
   rintro e w3 ⟨rfl, hb3⟩
   go_wp2_with fail
   go_ret
   exact ⟨rfl, (hb1.trans (hb2.mono hb1.size)).trans (hb3.mono (Nat.le_trans hb1.size hb2.size))⟩
  ·go_enter Tryz.func153, Tryz.ntmps153
   go_wp2_with fail
   refine (has_any _ bt bm es hT 1 n (hn.k 1 (by omega))).mono ?_
   rintro e w1 ⟨rfl, hb1⟩
   go_wp2_with fail
   refine (has_any _ bt bm es (hT.later hb1) 2 n (hn.k 2 (by omega))).mono ?_
   rintro e w2 ⟨rfl, hb2⟩
   go_wp2_with fail
   go_ret
   exact ⟨rfl, hb1.trans (hb2.mono hb1.size)⟩
 ·go_enter Tryz.func153, Tryz.ntmps153
  go_wp2_with fail
  refine (has_any _ bt bm es hT 1 n (hn.k 1 (by omega))).mono ?_
  rintro e w1 ⟨rfl, hb1⟩
  go_wp2_with fail
  go_ret
  exact ⟨rfl, hb1⟩
theorem beq_str (a b : List UInt8) (h : a ≠ b) : (a == b) = false := by simpa using h
def opErr (es : List (OpK × OpV)) (p t : Int) (n : List UInt8) : Int :=
 if p < 0 ∨ 1200 < p ∨ t < 1 ∨ 7 < t ∨ 1000 < n.length then 2
 else if n = [44] ∨ n = [124] ∨ n = [91, 93] ∨ n = [123, 125] then 15
 else if p = 0 then 0
 else if (kSort t = 2 ∧ (mget es (3, n)).isSome = true) ∨ (kSort t = 3 ∧ (mget es (2, n)).isSome = true) then 15
 else if 256 ≤ es.length ∧ (mget es (kSort t, n)).isSome = false then 9 else 0
def opTab (es : List (OpK × OpV)) (p t : Int) (n : List UInt8) : List (OpK × OpV) :=
 if opErr es p t n ≠ 0 then es else if p = 0 then mdel es (kSort t, n) else mput es (kSort t, n) (p, t)
theorem mem_mdel {κ ν : Type} [DecidableEq κ] {l : List (κ × ν)} {k : κ} {x : κ × ν} (h : x ∈ mdel l k) : x ∈ l := (List.mem_filter.1 h).1
theorem mem_mput {κ ν : Type} [DecidableEq κ] {l : List (κ × ν)} {k : κ} {v : ν} {x : κ × ν} (h : x ∈ mput l k v) : x ∈ l ∨ x = (k, v) := by
 unfold mput at h
 split at h
 ·obtain ⟨y, hy, rfl⟩ := List.mem_map.1 h
  split
  ·exact .inr rfl
  ·exact .inl hy
 ·rcases List.mem_append.1 h with h | h
  ·exact .inl h
  ·exact .inr (by simpa using h)
theorem TabAt.changed {w w' : World} {bt bm : Nat} {es es' : List (OpK × OpV)} (hT : TabAt w bt bm es) (hF : Fr (· = bm) w w') (hbb : bt ≠ bm) (hM : MapAt w' bm opk opv es') (hg : ∀ x ∈ es', goodOp x) : TabAt w' bt bm es' :=
 ⟨(hF.cell (p := ⟨bt, 0, none⟩) hT.lt hbb).trans hT.cell, hM, hg⟩
set_option maxHeartbeats 400000 in
theorem op_ok10 (w : World) (bt bm : Nat) (es : List (OpK × OpV)) (hT : TabAt w bt bm es) (hK : KindsAt w) (hbb : bt ≠ bm) (p : Int) (t : Nat) (n : List UInt8) (hn : n.length ≤ 1000) (hp : 1 ≤ p ∧ p ≤ 1200) (ht : 1 ≤ t ∧ t ≤ 7)
    (h1 : n ≠ [44]) (h2 : n ≠ [124]) (h3 : n ≠ [91, 93]) (h4 : n ≠ [123, 125]) (hs : kSort t = 1) (hr : es.length < 256) :
    Calls Tryz.prog 35 #[.pointer (some ⟨bt, 0, none⟩), .int .i64 p, .int .i64 t, .string ⟨n.toArray⟩] w fun e w' =>
     e = .returned (.int .i64 0) ∧ TabAt w' bt bm (mput es (1, n) (p, (t : Int))) ∧ Fr (· = bm) w w' := by
 obtain ⟨k0, -, -⟩ := hK t ht.2
 obtain ⟨ht1, ht2⟩ := ht
 obtain ⟨hp1, hp2⟩ := hp
 have h8 : (t : Int) < 8 := by omega
 have hc := hT.cell
 have hlt := hT.lt
 have e1 := beq_str n _ h1
 have e2 := beq_str n _ h2
 have e3 := beq_str n _ h3
 have e4 := beq_str n _ h4
 have h0 : 0 < w.heap.size := hK.lt
 rw [hs] at k0
 have HS : Hid (kSort (t : Int) = 1) := hs
 have hmn := fun (u : World) => run_eql_map_nil (P := Tryz.prog) u 77 91 86 (some bm) Tryz.underlying77
 have hb0 : Below w.heap.size w (w.alloc (.cells #[.int .i64 1, .string ⟨n.toArray⟩] 91)) := (Below.refl _ _).alloc (Nat.le_refl _) _
 have hT0 := hT.later hb0
 have hl0 := hT0.map.len (P := Tryz.prog) (t := 77) (ty := 3) Tryz.underlying77
 have HT := Lib.hid hT
 have HT0 := Lib.hid hT0
 clear hT hT0 hK h1 h2 h3 h4 hs
 have e5 : (p == 0) = false := by simp; omega
 have HG : Hid (∀ x ∈ mput es (1, n) (p, (t : Int)), goodOp x) := by
  intro x hx
  rcases mem_mput hx with hx | rfl
  ·exact HT.out.good x hx
  ·exact ⟨HS.out.symm, hn, by simp only; omega, by simp only; omega, by simp only; omega, by simp only; omega⟩
 go_enter Tryz.func35, Tryz.ntmps35
 go_wp2_with fail
 obtain ⟨w9, hup, hM, hG, -⟩ := MapAt.update (P := Tryz.prog) (t := 77) opKE Tryz.underlying77 HT0.out.map.drew HT.out.ok (k := (1, n)) ⟨by simp, by unfold maxLen; simp; omega⟩ ((p, (t : Int)) : OpV)
 rw [show opk (1, n) = .agg #[.int .i64 1, .string ⟨n.toArray⟩] from rfl, show opv (p, (t : Int)) = .agg #[.int .i64 p, .int .i64 t] from rfl] at hup
 have HM := Lib.hid hM
 have HF : Hid (Fr (· = bm) w w9) := (((Fr.of_below _ hb0).drew).grown hG (fun g hg => .inl (Option.some.inj hg).symm))
 clear hM hG
 go_region
 go_wp2
 go_ret
 exact ⟨rfl, HT.out.changed HF.out hbb HM.out HG.out, HF.out⟩
set_option maxHeartbeats 400000 in
theorem op_ok11 (w : World) (bt bm : Nat) (es : List (OpK × OpV)) (hT : TabAt w bt bm es) (hK : KindsAt w) (hbb : bt ≠ bm) (p : Int) (t : Nat) (n : List UInt8) (hn : n.length ≤ 1000) (hp : 1 ≤ p ∧ p ≤ 1200) (ht : 1 ≤ t ∧ t ≤ 7)
    (h1 : n ≠ [44]) (h2 : n ≠ [124]) (h3 : n ≠ [91, 93]) (h4 : n ≠ [123, 125]) (hs : kSort t = 1) (hr : 256 ≤ es.length) (hh : (mget es (1, n)).isSome = true) :
    Calls Tryz.prog 35 #[.pointer (some ⟨bt, 0, none⟩), .int .i64 p, .int .i64 t, .string ⟨n.toArray⟩] w fun e w' =>
     e = .returned (.int .i64 0) ∧ TabAt w' bt bm (mput es (1, n) (p, (t : Int))) ∧ Fr (· = bm) w w' := by
 obtain ⟨k0, -, -⟩ := hK t ht.2
 obtain ⟨ht1, ht2⟩ := ht
 obtain ⟨hp1, hp2⟩ := hp
 have h8 : (t : Int) < 8 := by omega
 have hc := hT.cell
 have hlt := hT.lt
 have e1 := beq_str n _ h1
 have e2 := beq_str n _ h2
 have e3 := beq_str n _ h3
 have e4 := beq_str n _ h4
 have h0 : 0 < w.heap.size := hK.lt
 rw [hs] at k0
 have HS : Hid (kSort (t : Int) = 1) := hs
 have hmn := fun (u : World) => run_eql_map_nil (P := Tryz.prog) u 77 91 86 (some bm) Tryz.underlying77
 have hb0 : Below w.heap.size w (w.alloc (.cells #[.int .i64 1, .string ⟨n.toArray⟩] 91)) := (Below.refl _ _).alloc (Nat.le_refl _) _
 have hT0 := hT.later hb0
 have hl0 := hT0.map.len (P := Tryz.prog) (t := 77) (ty := 3) Tryz.underlying77
 have HT := Lib.hid hT
 have HT0 := Lib.hid hT0
 clear hT hT0 hK h1 h2 h3 h4 hs
 have e5 : (p == 0) = false := by simp; omega
 have HG : Hid (∀ x ∈ mput es (1, n) (p, (t : Int)), goodOp x) := by
  intro x hx
  rcases mem_mput hx with hx | rfl
  ·exact HT.out.good x hx
  ·exact ⟨HS.out.symm, hn, by simp only; omega, by simp only; omega, by simp only; omega, by simp only; omega⟩
 go_enter Tryz.func35, Tryz.ntmps35
 go_wp2_with fail
 refine (has_any _ bt bm es HT0.out 1 n ⟨by simp, by unfold maxLen; simp; omega⟩).mono ?_
 rintro e w1 ⟨rfl, hc1⟩
 have hb1 := hb0.trans (hc1.mono hb0.size)
 have hT1 := HT.out.later hb1
 have hcell1 := hT1.cell
 have hk1 := hc1.cell (p := ⟨w.heap.size, 0, none⟩) (by simp)
 have hk1' := hc1.cell (p := ⟨w.heap.size, 1, none⟩) (by simp)
 have hl1 := hT1.map.len (P := Tryz.prog) (t := 77) (ty := 3) Tryz.underlying77
 have HT1 := Lib.hid hT1
 clear hT1
 simp only [World.cell?_alloc_new, List.getElem?_toArray, List.getElem?_cons_zero, List.getElem?_cons_succ] at hk1 hk1'
 go_wp2_with fail
 obtain ⟨w9, hup, hM, hG, -⟩ := MapAt.update (P := Tryz.prog) (t := 77) opKE Tryz.underlying77 HT1.out.map.drew HT.out.ok (k := (1, n)) ⟨by simp, by unfold maxLen; simp; omega⟩ ((p, (t : Int)) : OpV)
 rw [show opk (1, n) = .agg #[.int .i64 1, .string ⟨n.toArray⟩] from rfl, show opv (p, (t : Int)) = .agg #[.int .i64 p, .int .i64 t] from rfl] at hup
 have HM := Lib.hid hM
 have HF : Hid (Fr (· = bm) w w9) := (((Fr.of_below _ hb1).drew).grown hG (fun g hg => .inl (Option.some.inj hg).symm))
 clear hM hG
 go_region
 go_wp2
 go_ret
 exact ⟨rfl, HT.out.changed HF.out hbb HM.out HG.out, HF.out⟩
set_option maxHeartbeats 400000 in
theorem op_full1 (w : World) (bt bm : Nat) (es : List (OpK × OpV)) (hT : TabAt w bt bm es) (hK : KindsAt w) (p : Int) (t : Nat) (n : List UInt8) (hn : n.length ≤ 1000) (hp : 1 ≤ p ∧ p ≤ 1200) (ht : 1 ≤ t ∧ t ≤ 7)
    (h1 : n ≠ [44]) (h2 : n ≠ [124]) (h3 : n ≠ [91, 93]) (h4 : n ≠ [123, 125]) (hs : kSort t = 1) (hr : 256 ≤ es.length) (hh : (mget es (1, n)).isSome = false) :
    Calls Tryz.prog 35 #[.pointer (some ⟨bt, 0, none⟩), .int .i64 p, .int .i64 t, .string ⟨n.toArray⟩] w fun e w' =>
     e = .returned (.int .i64 9) ∧ TabAt w' bt bm es ∧ Fr (· = bm) w w' := by
 obtain ⟨k0, -, -⟩ := hK t ht.2
 obtain ⟨ht1, ht2⟩ := ht
 obtain ⟨hp1, hp2⟩ := hp
 have h8 : (t : Int) < 8 := by omega
 have hc := hT.cell
 have hlt := hT.lt
 have e1 := beq_str n _ h1
 have e2 := beq_str n _ h2
 have e3 := beq_str n _ h3
 have e4 := beq_str n _ h4
 have h0 : 0 < w.heap.size := hK.lt
 rw [hs] at k0
 have HS : Hid (kSort (t : Int) = 1) := hs
 have hmn := fun (u : World) => run_eql_map_nil (P := Tryz.prog) u 77 91 86 (some bm) Tryz.underlying77
 have hb0 : Below w.heap.size w (w.alloc (.cells #[.int .i64 1, .string ⟨n.toArray⟩] 91)) := (Below.refl _ _).alloc (Nat.le_refl _) _
 have hT0 := hT.later hb0
 have hl0 := hT0.map.len (P := Tryz.prog) (t := 77) (ty := 3) Tryz.underlying77
 have HT := Lib.hid hT
 have HT0 := Lib.hid hT0
 clear hT hT0 hK h1 h2 h3 h4 hs
 have e5 : (p == 0) = false := by simp; omega
 go_enter Tryz.func35, Tryz.ntmps35
 go_wp2_with fail
 refine (has_any _ bt bm es HT0.out 1 n ⟨by simp, by unfold maxLen; simp; omega⟩).mono ?_
 rintro e w1 ⟨rfl, hc1⟩
 have hb1 := hb0.trans (hc1.mono hb0.size)
 have hT1 := HT.out.later hb1
 have hcell1 := hT1.cell
 have hk1 := hc1.cell (p := ⟨w.heap.size, 0, none⟩) (by simp)
 have hk1' := hc1.cell (p := ⟨w.heap.size, 1, none⟩) (by simp)
 have hl1 := hT1.map.len (P := Tryz.prog) (t := 77) (ty := 3) Tryz.underlying77
 have HT1 := Lib.hid hT1
 clear hT1
 simp only [World.cell?_alloc_new, List.getElem?_toArray, List.getElem?_cons_zero, List.getElem?_cons_succ] at hk1 hk1'
 go_wp2_with fail
 go_ret
 exact ⟨rfl, HT1.out, .of_below _ hb1⟩
set_option maxHeartbeats 400000 in
theorem op_del1 (w : World) (bt bm : Nat) (es : List (OpK × OpV)) (hT : TabAt w bt bm es) (hK : KindsAt w) (hbb : bt ≠ bm) (p : Int) (t : Nat) (n : List UInt8) (hn : n.length ≤ 1000) (hp : p = 0 ∧ True) (ht : 1 ≤ t ∧ t ≤ 7)
    (h1 : n ≠ [44]) (h2 : n ≠ [124]) (h3 : n ≠ [91, 93]) (h4 : n ≠ [123, 125]) (hs : kSort t = 1) :
    Calls Tryz.prog 35 #[.pointer (some ⟨bt, 0, none⟩), .int .i64 p, .int .i64 t, .string ⟨n.toArray⟩] w fun e w' =>
     e = .returned (.int .i64 0) ∧ TabAt w' bt bm (mdel es (1, n)) ∧ Fr (· = bm) w w' := by
 obtain ⟨k0, -, -⟩ := hK t ht.2
 obtain ⟨ht1, ht2⟩ := ht
 obtain ⟨rfl, -⟩ := hp
 have h8 : (t : Int) < 8 := by omega
 have hc := hT.cell
 have hlt := hT.lt
 have e1 := beq_str n _ h1
 have e2 := beq_str n _ h2
 have e3 := beq_str n _ h3
 have e4 := beq_str n _ h4
 have h0 : 0 < w.heap.size := hK.lt
 rw [hs] at k0
 have HS : Hid (kSort (t : Int) = 1) := hs
 have hmn := fun (u : World) => run_eql_map_nil (P := Tryz.prog) u 77 91 86 (some bm) Tryz.underlying77
 have hb0 : Below w.heap.size w (w.alloc (.cells #[.int .i64 1, .string ⟨n.toArray⟩] 91)) := (Below.refl _ _).alloc (Nat.le_refl _) _
 have hT0 := hT.later hb0
 have hl0 := hT0.map.len (P := Tryz.prog) (t := 77) (ty := 3) Tryz.underlying77
 have HT := Lib.hid hT
 have HT0 := Lib.hid hT0
 clear hT hT0 hK h1 h2 h3 h4 hs
 obtain ⟨w9, hup, hM, hG, -⟩ := MapAt.delete (P := Tryz.prog) (t := 77) (ty := 0) opKE Tryz.underlying77 HT0.out.map.drew HT.out.ok (k := (1, n)) ⟨by simp, by unfold maxLen; simp; omega⟩ 91
 rw [show opk (1, n) = .agg #[.int .i64 1, .string ⟨n.toArray⟩] from rfl] at hup
 have HM := Lib.hid hM
 have HF : Hid (Fr (· = bm) w w9) := (((Fr.of_below _ hb0).drew).grown hG (fun g hg => .inl (Option.some.inj hg).symm))
 clear hM hG
 go_enter Tryz.func35, Tryz.ntmps35
 go_wp2
 go_region
 go_wp2
 go_ret
 exact ⟨rfl, HT.out.changed HF.out hbb HM.out (fun x hx => HT.out.good x (mem_mdel hx)), HF.out⟩
set_option maxHeartbeats 400000 in
theorem op_ok20 (w : World) (bt bm : Nat) (es : List (OpK × OpV)) (hT : TabAt w bt bm es) (hK : KindsAt w) (hbb : bt ≠ bm) (p : Int) (t : Nat) (n : List UInt8) (hn : n.length ≤ 1000) (hp : 1 ≤ p ∧ p ≤ 1200) (ht : 1 ≤ t ∧ t ≤ 7)
    (h1 : n ≠ [44]) (h2 : n ≠ [124]) (h3 : n ≠ [91, 93]) (h4 : n ≠ [123, 125]) (hs : kSort t = 2) (hr : es.length < 256) (hq : (mget es (3, n)).isSome = false) :
    Calls Tryz.prog 35 #[.pointer (some ⟨bt, 0, none⟩), .int .i64 p, .int .i64 t, .string ⟨n.toArray⟩] w fun e w' =>
     e = .returned (.int .i64 0) ∧ TabAt w' bt bm (mput es (2, n) (p, (t : Int))) ∧ Fr (· = bm) w w' := by
 obtain ⟨k0, -, -⟩ := hK t ht.2
 obtain ⟨ht1, ht2⟩ := ht
 obtain ⟨hp1, hp2⟩ := hp
 have h8 : (t : Int) < 8 := by omega
 have hc := hT.cell
 have hlt := hT.lt
 have e1 := beq_str n _ h1
 have e2 := beq_str n _ h2
 have e3 := beq_str n _ h3
 have e4 := beq_str n _ h4
 have h0 : 0 < w.heap.size := hK.lt
 rw [hs] at k0
 have HS : Hid (kSort (t : Int) = 2) := hs
 have hmn := fun (u : World) => run_eql_map_nil (P := Tryz.prog) u 77 91 86 (some bm) Tryz.underlying77
 have hb0 : Below w.heap.size w (w.alloc (.cells #[.int .i64 2, .string ⟨n.toArray⟩] 91)) := (Below.refl _ _).alloc (Nat.le_refl _) _
 have hT0 := hT.later hb0
 have hl0 := hT0.map.len (P := Tryz.prog) (t := 77) (ty := 3) Tryz.underlying77
 have HT := Lib.hid hT
 have HT0 := Lib.hid hT0
 clear hT hT0 hK h1 h2 h3 h4 hs
 have e5 : (p == 0) = false := by simp; omega
 have HG : Hid (∀ x ∈ mput es (2, n) (p, (t : Int)), goodOp x) := by
  intro x hx
  rcases mem_mput hx with hx | rfl
  ·exact HT.out.good x hx
  ·exact ⟨HS.out.symm, hn, by simp only; omega, by simp only; omega, by simp only; omega, by simp only; omega⟩
 go_enter Tryz.func35, Tryz.ntmps35
 go_wp2_with fail
 refine (has_any _ bt bm es HT0.out 3 n ⟨by simp, by unfold maxLen; simp; omega⟩).mono ?_
 rintro e w1 ⟨rfl, hc1⟩
 have hb1 := hb0.trans (hc1.mono hb0.size)
 have hT1 := HT.out.later hb1
 have hcell1 := hT1.cell
 have hk1 := hc1.cell (p := ⟨w.heap.size, 0, none⟩) (by simp)
 have hk1' := hc1.cell (p := ⟨w.heap.size, 1, none⟩) (by simp)
 have hl1 := hT1.map.len (P := Tryz.prog) (t := 77) (ty := 3) Tryz.underlying77
 have HT1 := Lib.hid hT1
 clear hT1
 simp only [World.cell?_alloc_new, List.getElem?_toArray, List.getElem?_cons_zero, List.getElem?_cons_succ] at hk1 hk1'
 go_wp2_with fail
 obtain ⟨w9, hup, hM, hG, -⟩ := MapAt.update (P := Tryz.prog) (t := 77) opKE Tryz.underlying77 HT1.out.map.drew HT.out.ok (k := (2, n)) ⟨by simp, by unfold maxLen; simp; omega⟩ ((p, (t : Int)) : OpV)
 rw [show opk (2, n) = .agg #[.int .i64 2, .string ⟨n.toArray⟩] from rfl, show opv (p, (t : Int)) = .agg #[.int .i64 p, .int .i64 t] from rfl] at hup
 have HM := Lib.hid hM
 have HF : Hid (Fr (· = bm) w w9) := (((Fr.of_below _ hb1).drew).grown hG (fun g hg => .inl (Option.some.inj hg).symm))
 clear hM hG
 go_region
 go_wp2
 go_ret
 exact ⟨rfl, HT.out.changed HF.out hbb HM.out HG.out, HF.out⟩
set_option maxHeartbeats 400000 in
theorem op_ok21 (w : World) (bt bm : Nat) (es : List (OpK × OpV)) (hT : TabAt w bt bm es) (hK : KindsAt w) (hbb : bt ≠ bm) (p : Int) (t : Nat) (n : List UInt8) (hn : n.length ≤ 1000) (hp : 1 ≤ p ∧ p ≤ 1200) (ht : 1 ≤ t ∧ t ≤ 7)
    (h1 : n ≠ [44]) (h2 : n ≠ [124]) (h3 : n ≠ [91, 93]) (h4 : n ≠ [123, 125]) (hs : kSort t = 2) (hr : 256 ≤ es.length) (hh : (mget es (2, n)).isSome = true) (hq : (mget es (3, n)).isSome = false) :
    Calls Tryz.prog 35 #[.pointer (some ⟨bt, 0, none⟩), .int .i64 p, .int .i64 t, .string ⟨n.toArray⟩] w fun e w' =>
     e = .returned (.int .i64 0) ∧ TabAt w' bt bm (mput es (2, n) (p, (t : Int))) ∧ Fr (· = bm) w w' := by
 obtain ⟨k0, -, -⟩ := hK t ht.2
 obtain ⟨ht1, ht2⟩ := ht
 obtain ⟨hp1, hp2⟩ := hp
 have h8 : (t : Int) < 8 := by omega
 have hc := hT.cell
 have hlt := hT.lt
 have e1 := beq_str n _ h1
 have e2 := beq_str n _ h2
 have e3 := beq_str n _ h3
 have e4 := beq_str n _ h4
 have h0 : 0 < w.heap.size := hK.lt
 rw [hs] at k0
 have HS : Hid (kSort (t : Int) = 2) := hs
 have hmn := fun (u : World) => run_eql_map_nil (P := Tryz.prog) u 77 91 86 (some bm) Tryz.underlying77
 have hb0 : Below w.heap.size w (w.alloc (.cells #[.int .i64 2, .string ⟨n.toArray⟩] 91)) := (Below.refl _ _).alloc (Nat.le_refl _) _
 have hT0 := hT.later hb0
 have hl0 := hT0.map.len (P := Tryz.prog) (t := 77) (ty := 3) Tryz.underlying77
 have HT := Lib.hid hT
 have HT0 := Lib.hid hT0
 clear hT hT0 hK h1 h2 h3 h4 hs
 have e5 : (p == 0) = false := by simp; omega
 have HG : Hid (∀ x ∈ mput es (2, n) (p, (t : Int)), goodOp x) := by
  intro x hx
  rcases mem_mput hx with hx | rfl
  ·exact HT.out.good x hx
  ·exact ⟨HS.out.symm, hn, by simp only; omega, by simp only; omega, by simp only; omega, by simp only; omega⟩
 go_enter Tryz.func35, Tryz.ntmps35
 go_wp2_with fail
 refine (has_any _ bt bm es HT0.out 3 n ⟨by simp, by unfold maxLen; simp; omega⟩).mono ?_
 rintro e w1 ⟨rfl, hc1⟩
 have hb1 := hb0.trans (hc1.mono hb0.size)
 have hT1 := HT.out.later hb1
 have hcell1 := hT1.cell
 have hk1 := hc1.cell (p := ⟨w.heap.size, 0, none⟩) (by simp)
 have hk1' := hc1.cell (p := ⟨w.heap.size, 1, none⟩) (by simp)
 have hl1 := hT1.map.len (P := Tryz.prog) (t := 77) (ty := 3) Tryz.underlying77
 have HT1 := Lib.hid hT1
 clear hT1
 simp only [World.cell?_alloc_new, List.getElem?_toArray, List.getElem?_cons_zero, List.getElem?_cons_succ] at hk1 hk1'
 go_wp2_with fail
 refine (has_any _ bt bm es HT1.out 2 n ⟨by simp, by unfold maxLen; simp; omega⟩).mono ?_
 rintro e w2 ⟨rfl, hc2⟩
 have hb2 := hb1.trans (hc2.mono hb1.size)
 have hT2 := HT.out.later hb2
 have hcell2 := hT2.cell
 have hk2 := hc2.cell (p := ⟨w.heap.size, 0, none⟩) (World.block_lt_of_cell? w1 ⟨w.heap.size, 0, none⟩ hk1)
 have hk2' := hc2.cell (p := ⟨w.heap.size, 1, none⟩) (World.block_lt_of_cell? w1 ⟨w.heap.size, 0, none⟩ hk1)
 have hl2 := hT2.map.len (P := Tryz.prog) (t := 77) (ty := 3) Tryz.underlying77
 have HT2 := Lib.hid hT2
 clear hT2
 rw [hk1] at hk2
 rw [hk1'] at hk2'
 go_wp2_with fail
 obtain ⟨w9, hup, hM, hG, -⟩ := MapAt.update (P := Tryz.prog) (t := 77) opKE Tryz.underlying77 HT2.out.map.drew HT.out.ok (k := (2, n)) ⟨by simp, by unfold maxLen; simp; omega⟩ ((p, (t : Int)) : OpV)
 rw [show opk (2, n) = .agg #[.int .i64 2, .string ⟨n.toArray⟩] from rfl, show opv (p, (t : Int)) = .agg #[.int .i64 p, .int .i64 t] from rfl] at hup
 have HM := Lib.hid hM
 have HF : Hid (Fr (· = bm) w w9) := (((Fr.of_below _ hb2).drew).grown hG (fun g hg => .inl (Option.some.inj hg).symm))
 clear hM hG
 go_region
 go_wp2
 go_ret
 exact ⟨rfl, HT.out.changed HF.out hbb HM.out HG.out, HF.out⟩
set_option maxHeartbeats 400000 in
theorem op_full2 (w : World) (bt bm : Nat) (es : List (OpK × OpV)) (hT : TabAt w bt bm es) (hK : KindsAt w) (p : Int) (t : Nat) (n : List UInt8) (hn : n.length ≤ 1000) (hp : 1 ≤ p ∧ p ≤ 1200) (ht : 1 ≤ t ∧ t ≤ 7)
    (h1 : n ≠ [44]) (h2 : n ≠ [124]) (h3 : n ≠ [91, 93]) (h4 : n ≠ [123, 125]) (hs : kSort t = 2) (hr : 256 ≤ es.length) (hh : (mget es (2, n)).isSome = false) (hq : (mget es (3, n)).isSome = false) :
    Calls Tryz.prog 35 #[.pointer (some ⟨bt, 0, none⟩), .int .i64 p, .int .i64 t, .string ⟨n.toArray⟩] w fun e w' =>
     e = .returned (.int .i64 9) ∧ TabAt w' bt bm es ∧ Fr (· = bm) w w' := by
 obtain ⟨k0, -, -⟩ := hK t ht.2
 obtain ⟨ht1, ht2⟩ := ht
 obtain ⟨hp1, hp2⟩ := hp
 have h8 : (t : Int) < 8 := by omega
 have hc := hT.cell
 have hlt := hT.lt
 have e1 := beq_str n _ h1
 have e2 := beq_str n _ h2
 have e3 := beq_str n _ h3
 have e4 := beq_str n _ h4
 have h0 : 0 < w.heap.size := hK.lt
 rw [hs] at k0
 have HS : Hid (kSort (t : Int) = 2) := hs
 have hmn := fun (u : World) => run_eql_map_nil (P := Tryz.prog) u 77 91 86 (some bm) Tryz.underlying77
 have hb0 : Below w.heap.size w (w.alloc (.cells #[.int .i64 2, .string ⟨n.toArray⟩] 91)) := (Below.refl _ _).alloc (Nat.le_refl _) _
 have hT0 := hT.later hb0
 have hl0 := hT0.map.len (P := Tryz.prog) (t := 77) (ty := 3) Tryz.underlying77
 have HT := Lib.hid hT
 have HT0 := Lib.hid hT0
 clear hT hT0 hK h1 h2 h3 h4 hs
 have e5 : (p == 0) = false := by simp; omega
 go_enter Tryz.func35, Tryz.ntmps35
 go_wp2_with fail
 refine (has_any _ bt bm es HT0.out 3 n ⟨by simp, by unfold maxLen; simp; omega⟩).mono ?_
 rintro e w1 ⟨rfl, hc1⟩
 have hb1 := hb0.trans (hc1.mono hb0.size)
 have hT1 := HT.out.later hb1
 have hcell1 := hT1.cell
 have hk1 := hc1.cell (p := ⟨w.heap.size, 0, none⟩) (by simp)
 have hk1' := hc1.cell (p := ⟨w.heap.size, 1, none⟩) (by simp)
 have hl1 := hT1.map.len (P := Tryz.prog) (t := 77) (ty := 3) Tryz.underlying77
 have HT1 := Lib.hid hT1
 clear hT1
 simp only [World.cell?_alloc_new, List.getElem?_toArray, List.getElem?_cons_zero, List.getElem?_cons_succ] at hk1 hk1'
 go_wp2_with fail
 refine (has_any _ bt bm es HT1.out 2 n ⟨by simp, by unfold maxLen; simp; omega⟩).mono ?_
 rintro e w2 ⟨rfl, hc2⟩
 have hb2 := hb1.trans (hc2.mono hb1.size)
 have hT2 := HT.out.later hb2
 have hcell2 := hT2.cell
 have hk2 := hc2.cell (p := ⟨w.heap.size, 0, none⟩) (World.block_lt_of_cell? w1 ⟨w.heap.size, 0, none⟩ hk1)
 have hk2' := hc2.cell (p := ⟨w.heap.size, 1, none⟩) (World.block_lt_of_cell? w1 ⟨w.heap.size, 0, none⟩ hk1)
 have hl2 := hT2.map.len (P := Tryz.prog) (t := 77) (ty := 3) Tryz.underlying77
 have HT2 := Lib.hid hT2
 clear hT2
 rw [hk1] at hk2
 rw [hk1'] at hk2'
 go_wp2_with fail
 go_ret
 exact ⟨rfl, HT2.out, .of_below _ hb2⟩
set_option maxHeartbeats 400000 in
theorem op_conf2 (w : World) (bt bm : Nat) (es : List (OpK × OpV)) (hT : TabAt w bt bm es) (hK : KindsAt w) (p : Int) (t : Nat) (n : List UInt8) (hn : n.length ≤ 1000) (hp : 1 ≤ p ∧ p ≤ 1200) (ht : 1 ≤ t ∧ t ≤ 7)
    (h1 : n ≠ [44]) (h2 : n ≠ [124]) (h3 : n ≠ [91, 93]) (h4 : n ≠ [123, 125]) (hs : kSort t = 2) (hq : (mget es (3, n)).isSome = true) :
    Calls Tryz.prog 35 #[.pointer (some ⟨bt, 0, none⟩), .int .i64 p, .int .i64 t, .string ⟨n.toArray⟩] w fun e w' =>
     e = .returned (.int .i64 15) ∧ TabAt w' bt bm es ∧ Fr (· = bm) w w' := by
 obtain ⟨k0, -, -⟩ := hK t ht.2
 obtain ⟨ht1, ht2⟩ := ht
 obtain ⟨hp1, hp2⟩ := hp
 have h8 : (t : Int) < 8 := by omega
 have hc := hT.cell
 have hlt := hT.lt
 have e1 := beq_str n _ h1
 have e2 := beq_str n _ h2
 have e3 := beq_str n _ h3
 have e4 := beq_str n _ h4
 have h0 : 0 < w.heap.size := hK.lt
 rw [hs] at k0
 have HS : Hid (kSort (t : Int) = 2) := hs
 have hmn := fun (u : World) => run_eql_map_nil (P := Tryz.prog) u 77 91 86 (some bm) Tryz.underlying77
 have hb0 : Below w.heap.size w (w.alloc (.cells #[.int .i64 2, .string ⟨n.toArray⟩] 91)) := (Below.refl _ _).alloc (Nat.le_refl _) _
 have hT0 := hT.later hb0
 have hl0 := hT0.map.len (P := Tryz.prog) (t := 77) (ty := 3) Tryz.underlying77
 have HT := Lib.hid hT
 have HT0 := Lib.hid hT0
 clear hT hT0 hK h1 h2 h3 h4 hs
 have e5 : (p == 0) = false := by simp; omega
 go_enter Tryz.func35, Tryz.ntmps35
 go_wp2_with fail
 refine (has_any _ bt bm es HT0.out 3 n ⟨by simp, by unfold maxLen; simp; omega⟩).mono ?_
 rintro e w1 ⟨rfl, hc1⟩
 have hb1 := hb0.trans (hc1.mono hb0.size)
 have hT1 := HT.out.later hb1
 have hcell1 := hT1.cell
 have hk1 := hc1.cell (p := ⟨w.heap.size, 0, none⟩) (by simp)
 have hk1' := hc1.cell (p := ⟨w.heap.size, 1, none⟩) (by simp)
 have hl1 := hT1.map.len (P := Tryz.prog) (t := 77) (ty := 3) Tryz.underlying77
 have HT1 := Lib.hid hT1
 clear hT1
 simp only [World.cell?_alloc_new, List.getElem?_toArray, List.getElem?_cons_zero, List.getElem?_cons_succ] at hk1 hk1'
 go_wp2_with fail
 go_ret
 exact ⟨rfl, HT1.out, .of_below _ hb1⟩
set_option maxHeartbeats 400000 in
theorem op_del2 (w : World) (bt bm : Nat) (es : List (OpK × OpV)) (hT : TabAt w bt bm es) (hK : KindsAt w) (hbb : bt ≠ bm) (p : Int) (t : Nat) (n : List UInt8) (hn : n.length ≤ 1000) (hp : p = 0 ∧ True) (ht : 1 ≤ t ∧ t ≤ 7)
    (h1 : n ≠ [44]) (h2 : n ≠ [124]) (h3 : n ≠ [91, 93]) (h4 : n ≠ [123, 125]) (hs : kSort t = 2) :
    Calls Tryz.prog 35 #[.pointer (some ⟨bt, 0, none⟩), .int .i64 p, .int .i64 t, .string ⟨n.toArray⟩] w fun e w' =>
     e = .returned (.int .i64 0) ∧ TabAt w' bt bm (mdel es (2, n)) ∧ Fr (· = bm) w w' := by
 obtain ⟨k0, -, -⟩ := hK t ht.2
 obtain ⟨ht1, ht2⟩ := ht
 obtain ⟨rfl, -⟩ := hp
 have h8 : (t : Int) < 8 := by omega
 have hc := hT.cell
 have hlt := hT.lt
 have e1 := beq_str n _ h1
 have e2 := beq_str n _ h2
 have e3 := beq_str n _ h3
 have e4 := beq_str n _ h4
 have h0 : 0 < w.heap.size := hK.lt
 rw [hs] at k0
 have HS : Hid (kSort (t : Int) = 2) := hs
 have hmn := fun (u : World) => run_eql_map_nil (P := Tryz.prog) u 77 91 86 (some bm) Tryz.underlying77
 have hb0 : Below w.heap.size w (w.alloc (.cells #[.int .i64 2, .string ⟨n.toArray⟩] 91)) := (Below.refl _ _).alloc (Nat.le_refl _) _
 have hT0 := hT.later hb0
 have hl0 := hT0.map.len (P := Tryz.prog) (t := 77) (ty := 3) Tryz.underlying77
 have HT := Lib.hid hT
 have HT0 := Lib.hid hT0
 clear hT hT0 hK h1 h2 h3 h4 hs
 obtain ⟨w9, hup, hM, hG, -⟩ := MapAt.delete (P := Tryz.prog) (t := 77) (ty := 0) opKE Tryz.underlying77 HT0.out.map.drew HT.out.ok (k := (2, n)) ⟨by simp, by unfold maxLen; simp; omega⟩ 91
 rw [show opk (2, n) = .agg #[.int .i64 2, .string ⟨n.toArray⟩] from rfl] at hup
 have HM := Lib.hid hM
 have HF : Hid (Fr (· = bm) w w9) := (((Fr.of_below _ hb0).drew).grown hG (fun g hg => .inl (Option.some.inj hg).symm))
 clear hM hG
 go_enter Tryz.func35, Tryz.ntmps35
 go_wp2
 go_region
 go_wp2
 go_ret
 exact ⟨rfl, HT.out.changed HF.out hbb HM.out (fun x hx => HT.out.good x (mem_mdel hx)), HF.out⟩
set_option maxHeartbeats 400000 in
theorem op_ok30 (w : World) (bt bm : Nat) (es : List (OpK × OpV)) (hT : TabAt w bt bm es) (hK : KindsAt w) (hbb : bt ≠ bm) (p : Int) (t : Nat) (n : List UInt8) (hn : n.length ≤ 1000) (hp : 1 ≤ p ∧ p ≤ 1200) (ht : 1 ≤ t ∧ t ≤ 7)
    (h1 : n ≠ [44]) (h2 : n ≠ [124]) (h3 : n ≠ [91, 93]) (h4 : n ≠ [123, 125]) (hs : kSort t = 3) (hr : es.length < 256) (hq : (mget es (2, n)).isSome = false) :
    Calls Tryz.prog 35 #[.pointer (some ⟨bt, 0, none⟩), .int .i64 p, .int .i64 t, .string ⟨n.toArray⟩] w fun e w' =>
     e = .returned (.int .i64 0) ∧ TabAt w' bt bm (mput es (3, n) (p, (t : Int))) ∧ Fr (· = bm) w w' := by
 obtain ⟨k0, -, -⟩ := hK t ht.2
 obtain ⟨ht1, ht2⟩ := ht
 obtain ⟨hp1, hp2⟩ := hp
 have h8 : (t : Int) < 8 := by omega
 have hc := hT.cell
 have hlt := hT.lt
 have e1 := beq_str n _ h1
 have e2 := beq_str n _ h2
 have e3 := beq_str n _ h3
 have e4 := beq_str n _ h4
 have h0 : 0 < w.heap.size := hK.lt
 rw [hs] at k0
 have HS : Hid (kSort (t : Int) = 3) := hs
 have hmn := fun (u : World) => run_eql_map_nil (P := Tryz.prog) u 77 91 86 (some bm) Tryz.underlying77
 have hb0 : Below w.heap.size w (w.alloc (.cells #[.int .i64 3, .string ⟨n.toArray⟩] 91)) := (Below.refl _ _).alloc (Nat.le_refl _) _
 have hT0 := hT.later hb0
 have hl0 := hT0.map.len (P := Tryz.prog) (t := 77) (ty := 3) Tryz.underlying77
 have HT := Lib.hid hT
 have HT0 := Lib.hid hT0
 clear hT hT0 hK h1 h2 h3 h4 hs
 have e5 : (p == 0) = false := by simp; omega
 have HG : Hid (∀ x ∈ mput es (3, n) (p, (t : Int)), goodOp x) := by
  intro x hx
  rcases mem_mput hx with hx | rfl
  ·exact HT.out.good x hx
  ·exact ⟨HS.out.symm, hn, by simp only; omega, by simp only; omega, by simp only; omega, by simp only; omega⟩
 go_enter Tryz.func35, Tryz.ntmps35
 go_wp2_with fail
 refine (has_any _ bt bm es HT0.out 2 n ⟨by simp, by unfold maxLen; simp; omega⟩).mono ?_
 rintro e w1 ⟨rfl, hc1⟩
 have hb1 := hb0.trans (hc1.mono hb0.size)
 have hT1 := HT.out.later hb1
 have hcell1 := hT1.cell
 have hk1 := hc1.cell (p := ⟨w.heap.size, 0, none⟩) (by simp)
 have hk1' := hc1.cell (p := ⟨w.heap.size, 1, none⟩) (by simp)
 have hl1 := hT1.map.len (P := Tryz.prog) (t := 77) (ty := 3) Tryz.underlying77
 have HT1 := Lib.hid hT1
 clear hT1
 simp only [World.cell?_alloc_new, List.getElem?_toArray, List.getElem?_cons_zero, List.getElem?_cons_succ] at hk1 hk1'
 go_wp2_with fail
 obtain ⟨w9, hup, hM, hG, -⟩ := MapAt.update (P := Tryz.prog) (t := 77) opKE Tryz.underlying77 HT1.out.map.drew HT.out.ok (k := (3, n)) ⟨by simp, by unfold maxLen; simp; omega⟩ ((p, (t : Int)) : OpV)
 rw [show opk (3, n) = .agg #[.int .i64 3, .string ⟨n.toArray⟩] from rfl, show opv (p, (t : Int)) = .agg #[.int .i64 p, .int .i64 t] from rfl] at hup
 have HM := Lib.hid hM
 have HF : Hid (Fr (· = bm) w w9) := (((Fr.of_below _ hb1).drew).grown hG (fun g hg => .inl (Option.some.inj hg).symm))
 clear hM hG
 go_region
 go_wp2
 go_ret
 exact ⟨rfl, HT.out.changed HF.out hbb HM.out HG.out, HF.out⟩
set_option maxHeartbeats 400000 in
theorem op_ok31 (w : World) (bt bm : Nat) (es : List (OpK × OpV)) (hT : TabAt w bt bm es) (hK : KindsAt w) (hbb : bt ≠ bm) (p : Int) (t : Nat) (n : List UInt8) (hn : n.length ≤ 1000) (hp : 1 ≤ p ∧ p ≤ 1200) (ht : 1 ≤ t ∧ t ≤ 7)
    (h1 : n ≠ [44]) (h2 : n ≠ [124]) (h3 : n ≠ [91, 93]) (h4 : n ≠ [123, 125]) (hs : kSort t = 3) (hr : 256 ≤ es.length) (hh : (mget es (3, n)).isSome = true) (hq : (mget es (2, n)).isSome = false) :
    Calls Tryz.prog 35 #[.pointer (some ⟨bt, 0, none⟩), .int .i64 p, .int .i64 t, .string ⟨n.toArray⟩] w fun e w' =>
     e = .returned (.int .i64 0) ∧ TabAt w' bt bm (mput es (3, n) (p, (t : Int))) ∧ Fr (· = bm) w w' := by
 obtain ⟨k0, -, -⟩ := hK t ht.2
 obtain ⟨ht1, ht2⟩ := ht
 obtain ⟨hp1, hp2⟩ := hp
 have h8 : (t : Int) < 8 := by omega
 have hc := hT.cell
 have hlt := hT.lt
 have e1 := beq_str n _ h1
 have e2 := beq_str n _ h2
 have e3 := beq_str n _ h3
 have e4 := beq_str n _ h4
 have h0 : 0 < w.heap.size := hK.lt
 rw [hs] at k0
 have HS : Hid (kSort (t : Int) = 3) := hs
 have hmn := fun (u : World) => run_eql_map_nil (P := Tryz.prog) u 77 91 86 (some bm) Tryz.underlying77
 have hb0 : Below w.heap.size w (w.alloc (.cells #[.int .i64 3, .string ⟨n.toArray⟩] 91)) := (Below.refl _ _).alloc (Nat.le_refl _) _
 have hT0 := hT.later hb0
 have hl0 := hT0.map.len (P := Tryz.prog) (t := 77) (ty := 3) Tryz.underlying77
 have HT := Lib.hid hT
 have HT0 := Lib.hid hT0
 clear hT hT0 hK h1 h2 h3 h4 hs
 have e5 : (p == 0) = false := by simp; omega
 have HG : Hid (∀ x ∈ mput es (3, n) (p, (t : Int)), goodOp x) := by
  intro x hx
  rcases mem_mput hx with hx | rfl
  ·exact HT.out.good x hx
  ·exact ⟨HS.out.symm, hn, by simp only; omega, by simp only; omega, by simp only; omega, by simp only; omega⟩
 go_enter Tryz.func35, Tryz.ntmps35
 go_wp2_with fail
 refine (has_any _ bt bm es HT0.out 2 n ⟨by simp, by unfold maxLen; simp; omega⟩).mono ?_
 rintro e w1 ⟨rfl, hc1⟩
 have hb1 := hb0.trans (hc1.mono hb0.size)
 have hT1 := HT.out.later hb1
 have hcell1 := hT1.cell
 have hk1 := hc1.cell (p := ⟨w.heap.size, 0, none⟩) (by simp)
 have hk1' := hc1.cell (p := ⟨w.heap.size, 1, none⟩) (by simp)
 have hl1 := hT1.map.len (P := Tryz.prog) (t := 77) (ty := 3) Tryz.underlying77
 have HT1 := Lib.hid hT1
 clear hT1
 simp only [World.cell?_alloc_new, List.getElem?_toArray, List.getElem?_cons_zero, List.getElem?_cons_succ] at hk1 hk1'
 go_wp2_with fail
 refine (has_any _ bt bm es HT1.out 3 n ⟨by simp, by unfold maxLen; simp; omega⟩).mono ?_
 rintro e w2 ⟨rfl, hc2⟩
 have hb2 := hb1.trans (hc2.mono hb1.size)
 have hT2 := HT.out.later hb2
 have hcell2 := hT2.cell
 have hk2 := hc2.cell (p := ⟨w.heap.size, 0, none⟩) (World.block_lt_of_cell? w1 ⟨w.heap.size, 0, none⟩ hk1)
 have hk2' := hc2.cell (p := ⟨w.heap.size, 1, none⟩) (World.block_lt_of_cell? w1 ⟨w.heap.size, 0, none⟩ hk1)
 have hl2 := hT2.map.len (P := Tryz.prog) (t := 77) (ty := 3) Tryz.underlying77
 have HT2 := Lib.hid hT2
 clear hT2
 rw [hk1] at hk2
 rw [hk1'] at hk2'
 go_wp2_with fail
 obtain ⟨w9, hup, hM, hG, -⟩ := MapAt.update (P := Tryz.prog) (t := 77) opKE Tryz.underlying77 HT2.out.map.drew HT.out.ok (k := (3, n)) ⟨by simp, by unfold maxLen; simp; omega⟩ ((p, (t : Int)) : OpV)
 rw [show opk (3, n) = .agg #[.int .i64 3, .string ⟨n.toArray⟩] from rfl, show opv (p, (t : Int)) = .agg #[.int .i64 p, .int .i64 t] from rfl] at hup
 have HM := Lib.hid hM
 have HF : Hid (Fr (· = bm) w w9) := (((Fr.of_below _ hb2).drew).grown hG (fun g hg => .inl (Option.some.inj hg).symm))
 clear hM hG
 go_region
 go_wp2
 go_ret
 exact ⟨rfl, HT.out.changed HF.out hbb HM.out HG.out, HF.out⟩
set_option maxHeartbeats 400000 in
theorem op_full3 (w : World) (bt bm : Nat) (es : List (OpK × OpV)) (hT : TabAt w bt bm es) (hK : KindsAt w) (p : Int) (t : Nat) (n : List UInt8) (hn : n.length ≤ 1000) (hp : 1 ≤ p ∧ p ≤ 1200) (ht : 1 ≤ t ∧ t ≤ 7)
    (h1 : n ≠ [44]) (h2 : n ≠ [124]) (h3 : n ≠ [91, 93]) (h4 : n ≠ [123, 125]) (hs : kSort t = 3) (hr : 256 ≤ es.length) (hh : (mget es (3, n)).isSome = false) (hq : (mget es (2, n)).isSome = false) :
    Calls Tryz.prog 35 #[.pointer (some ⟨bt, 0, none⟩), .int .i64 p, .int .i64 t, .string ⟨n.toArray⟩] w fun e w' =>
     e = .returned (.int .i64 9) ∧ TabAt w' bt bm es ∧ Fr (· = bm) w w' := by
 obtain ⟨k0, -, -⟩ := hK t ht.2
 obtain ⟨ht1, ht2⟩ := ht
 obtain ⟨hp1, hp2⟩ := hp
 have h8 : (t : Int) < 8 := by omega
 have hc := hT.cell
 have hlt := hT.lt
 have e1 := beq_str n _ h1
 have e2 := beq_str n _ h2
 have e3 := beq_str n _ h3
 have e4 := beq_str n _ h4
 have h0 : 0 < w.heap.size := hK.lt
 rw [hs] at k0
 have HS : Hid (kSort (t : Int) = 3) := hs
 have hmn := fun (u : World) => run_eql_map_nil (P := Tryz.prog) u 77 91 86 (some bm) Tryz.underlying77
 have hb0 : Below w.heap.size w (w.alloc (.cells #[.int .i64 3, .string ⟨n.toArray⟩] 91)) := (Below.refl _ _).alloc (Nat.le_refl _) _
 have hT0 := hT.later hb0
 have hl0 := hT0.map.len (P := Tryz.prog) (t := 77) (ty := 3) Tryz.underlying77
 have HT := Lib.hid hT
 have HT0 := Lib.hid hT0
 clear hT hT0 hK h1 h2 h3 h4 hs
 have e5 : (p == 0) = false := by simp; omega
 go_enter Tryz.func35, Tryz.ntmps35
 go_wp2_with fail
 refine (has_any _ bt bm es HT0.out 2 n ⟨by simp, by unfold maxLen; simp; omega⟩).mono ?_
 rintro e w1 ⟨rfl, hc1⟩
 have hb1 := hb0.trans (hc1.mono hb0.size)
 have hT1 := HT.out.later hb1
 have hcell1 := hT1.cell
 have hk1 := hc1.cell (p := ⟨w.heap.size, 0, none⟩) (by simp)
 have hk1' := hc1.cell (p := ⟨w.heap.size, 1, none⟩) (by simp)
 have hl1 := hT1.map.len (P := Tryz.prog) (t := 77) (ty := 3) Tryz.underlying77
 have HT1 := Lib.hid hT1
 clear hT1
 simp only [World.cell?_alloc_new, List.getElem?_toArray, List.getElem?_cons_zero, List.getElem?_cons_succ] at hk1 hk1'
 go_wp2_with fail
 refine (has_any _ bt bm es HT1.out 3 n ⟨by simp, by unfold maxLen; simp; omega⟩).mono ?_
 rintro e w2 ⟨rfl, hc2⟩
 have hb2 := hb1.trans (hc2.mono hb1.size)
 have hT2 := HT.out.later hb2
 have hcell2 := hT2.cell
 have hk2 := hc2.cell (p := ⟨w.heap.size, 0, none⟩) (World.block_lt_of_cell? w1 ⟨w.heap.size, 0, none⟩ hk1)
 have hk2' := hc2.cell (p := ⟨w.heap.size, 1, none⟩) (World.block_lt_of_cell? w1 ⟨w.heap.size, 0, none⟩ hk1)
 have hl2 := hT2.map.len (P := Tryz.prog) (t := 77) (ty := 3) Tryz.underlying77
 have HT2 := Lib.hid hT2
 clear hT2
 rw [hk1] at hk2
 rw [hk1'] at hk2'
 go_wp2_with fail
 go_ret
 exact ⟨rfl, HT2.out, .of_below _ hb2⟩
set_option maxHeartbeats 400000 in
theorem op_conf3 (w : World) (bt bm : Nat) (es : List (OpK × OpV)) (hT : TabAt w bt bm es) (hK : KindsAt w) (p : Int) (t : Nat) (n : List UInt8) (hn : n.length ≤ 1000) (hp : 1 ≤ p ∧ p ≤ 1200) (ht : 1 ≤ t ∧ t ≤ 7)
    (h1 : n ≠ [44]) (h2 : n ≠ [124]) (h3 : n ≠ [91, 93]) (h4 : n ≠ [123, 125]) (hs : kSort t = 3) (hq : (mget es (2, n)).isSome = true) :
    Calls Tryz.prog 35 #[.pointer (some ⟨bt, 0, none⟩), .int .i64 p, .int .i64 t, .string ⟨n.toArray⟩] w fun e w' =>
     e = .returned (.int .i64 15) ∧ TabAt w' bt bm es ∧ Fr (· = bm) w w' := by
 obtain ⟨k0, -, -⟩ := hK t ht.2
 obtain ⟨ht1, ht2⟩ := ht
 obtain ⟨hp1, hp2⟩ := hp
 have h8 : (t : Int) < 8 := by omega
 have hc := hT.cell
 have hlt := hT.lt
 have e1 := beq_str n _ h1
 have e2 := beq_str n _ h2
 have e3 := beq_str n _ h3
 have e4 := beq_str n _ h4
 have h0 : 0 < w.heap.size := hK.lt
 rw [hs] at k0
 have HS : Hid (kSort (t : Int) = 3) := hs
 have hmn := fun (u : World) => run_eql_map_nil (P := Tryz.prog) u 77 91 86 (some bm) Tryz.underlying77
 have hb0 : Below w.heap.size w (w.alloc (.cells #[.int .i64 3, .string ⟨n.toArray⟩] 91)) := (Below.refl _ _).alloc (Nat.le_refl _) _
 have hT0 := hT.later hb0
 have hl0 := hT0.map.len (P := Tryz.prog) (t := 77) (ty := 3) Tryz.underlying77
 have HT := Lib.hid hT
 have HT0 := Lib.hid hT0
 clear hT hT0 hK h1 h2 h3 h4 hs
 have e5 : (p == 0) = false := by simp; omega
 go_enter Tryz.func35, Tryz.ntmps35
 go_wp2_with fail
 refine (has_any _ bt bm es HT0.out 2 n ⟨by simp, by unfold maxLen; simp; omega⟩).mono ?_
 rintro e w1 ⟨rfl, hc1⟩
 have hb1 := hb0.trans (hc1.mono hb0.size)
 have hT1 := HT.out.later hb1
 have hcell1 := hT1.cell
 have hk1 := hc1.cell (p := ⟨w.heap.size, 0, none⟩) (by simp)
 have hk1' := hc1.cell (p := ⟨w.heap.size, 1, none⟩) (by simp)
 have hl1 := hT1.map.len (P := Tryz.prog) (t := 77) (ty := 3) Tryz.underlying77
 have HT1 := Lib.hid hT1
 clear hT1
 simp only [World.cell?_alloc_new, List.getElem?_toArray, List.getElem?_cons_zero, List.getElem?_cons_succ] at hk1 hk1'
 go_wp2_with fail
 go_ret
 exact ⟨rfl, HT1.out, .of_below _ hb1⟩
set_option maxHeartbeats 400000 in
theorem op_del3 (w : World) (bt bm : Nat) (es : List (OpK × OpV)) (hT : TabAt w bt bm es) (hK : KindsAt w) (hbb : bt ≠ bm) (p : Int) (t : Nat) (n : List UInt8) (hn : n.length ≤ 1000) (hp : p = 0 ∧ True) (ht : 1 ≤ t ∧ t ≤ 7)
    (h1 : n ≠ [44]) (h2 : n ≠ [124]) (h3 : n ≠ [91, 93]) (h4 : n ≠ [123, 125]) (hs : kSort t = 3) :
    Calls Tryz.prog 35 #[.pointer (some ⟨bt, 0, none⟩), .int .i64 p, .int .i64 t, .string ⟨n.toArray⟩] w fun e w' =>
     e = .returned (.int .i64 0) ∧ TabAt w' bt bm (mdel es (3, n)) ∧ Fr (· = bm) w w' := by
 obtain ⟨k0, -, -⟩ := hK t ht.2
 obtain ⟨ht1, ht2⟩ := ht
 obtain ⟨rfl, -⟩ := hp
 have h8 : (t : Int) < 8 := by omega
 have hc := hT.cell
 have hlt := hT.lt
 have e1 := beq_str n _ h1
 have e2 := beq_str n _ h2
 have e3 := beq_str n _ h3
 have e4 := beq_str n _ h4
 have h0 : 0 < w.heap.size := hK.lt
 rw [hs] at k0
 have HS : Hid (kSort (t : Int) = 3) := hs
 have hmn := fun (u : World) => run_eql_map_nil (P := Tryz.prog) u 77 91 86 (some bm) Tryz.underlying77
 have hb0 : Below w.heap.size w (w.alloc (.cells #[.int .i64 3, .string ⟨n.toArray⟩] 91)) := (Below.refl _ _).alloc (Nat.le_refl _) _
 have hT0 := hT.later hb0
 have hl0 := hT0.map.len (P := Tryz.prog) (t := 77) (ty := 3) Tryz.underlying77
 have HT := Lib.hid hT
 have HT0 := Lib.hid hT0
 clear hT hT0 hK h1 h2 h3 h4 hs
 obtain ⟨w9, hup, hM, hG, -⟩ := MapAt.delete (P := Tryz.prog) (t := 77) (ty := 0) opKE Tryz.underlying77 HT0.out.map.drew HT.out.ok (k := (3, n)) ⟨by simp, by unfold maxLen; simp; omega⟩ 91
 rw [show opk (3, n) = .agg #[.int .i64 3, .string ⟨n.toArray⟩] from rfl] at hup
 have HM := Lib.hid hM
 have HF : Hid (Fr (· = bm) w w9) := (((Fr.of_below _ hb0).drew).grown hG (fun g hg => .inl (Option.some.inj hg).symm))
 clear hM hG
 go_enter Tryz.func35, Tryz.ntmps35
 go_wp2
 go_region
 go_wp2
 go_ret
 exact ⟨rfl, HT.out.changed HF.out hbb HM.out (fun x hx => HT.out.good x (mem_mdel hx)), HF.out⟩
open Go.RowKit
theorem below_call' {w E u : World} (h : Below w.heap.size w E) (hb : Below E.heap.size E u) : Below w.heap.size w u := h.trans (hb.mono h.size)
theorem below_alloc' {w E : World} (h : Below w.heap.size w E) (o : Obj) : Below w.heap.size w (E.alloc o) := h.alloc h.size o
theorem below_drewN' {w E : World} (h : Below w.heap.size w E) (n : Nat) : Below w.heap.size w (E.drewN n) := ⟨h.os, h.tape, h.output, h.size, h.block⟩
structure ToksAt (w : World) (B : Nat) (A : Option Addr) (n : Nat) (l : List Tok) : Prop where
 len : l.length = n
 at' : ∀ (i : Nat) (t : Tok), l[i]? = some t → ∃ b off, A = some ⟨b, off, none⟩ ∧ b < B ∧ w.cell? ⟨b, off + i * 6, none⟩ = some (.int .i64 t.kind) ∧ w.cell? ⟨b, off + i * 6 + 1, none⟩ = some (.int .i64 t.line) ∧ w.cell? ⟨b, off + i * 6 + 2, none⟩ = some (.int .i64 t.n) ∧
  w.cell? ⟨b, off + i * 6 + 3, none⟩ = some (.string ⟨t.s.toArray⟩) ∧ w.cell? ⟨b, off + i * 6 + 4, none⟩ = some (.bool t.opn) ∧ w.cell? ⟨b, off + i * 6 + 5, none⟩ = some (.bool t.tight)
theorem ToksAt.keep {w w' : World} {B : Nat} {A : Option Addr} {n : Nat} {l : List Tok} (h : ToksAt w B A n l) (hb : ∀ k, k < B → w'.heap[k]? = w.heap[k]?) : ToksAt w' B A n l :=
 ⟨h.len, fun i t ht => by
  obtain ⟨b, off, h1, h2, c0, c1, c2, c3, c4, c5⟩ := h.at' i t ht
  exact ⟨b, off, h1, h2, (World.cell?_of_block (a := ⟨b, off + i * 6, none⟩) (hb b h2)).trans c0, (World.cell?_of_block (a := ⟨b, off + i * 6 + 1, none⟩) (hb b h2)).trans c1, (World.cell?_of_block (a := ⟨b, off + i * 6 + 2, none⟩) (hb b h2)).trans c2,
   (World.cell?_of_block (a := ⟨b, off + i * 6 + 3, none⟩) (hb b h2)).trans c3, (World.cell?_of_block (a := ⟨b, off + i * 6 + 4, none⟩) (hb b h2)).trans c4, (World.cell?_of_block (a := ⟨b, off + i * 6 + 5, none⟩) (hb b h2)).trans c5⟩⟩
def tokW (t : Tok) : Value := .agg #[.int .i64 t.kind, .int .i64 t.line, .int .i64 t.n, .string ⟨t.s.toArray⟩, .bool t.opn, .bool t.tight]
structure RdV where
 A : Option Addr
 n : Nat
 c : Nat
 ob : Value
 bv : Value
 wv : Value
 x : TV
 vb : Value
 nv : Value
def rdCells (v : RdV) (s : RdS) : Array Value :=
 #[.slice v.A v.n v.c, .int .i64 (s.at' : Int), v.ob, v.bv, v.wv, .int .i64 s.most, .bool s.hv, .int .i64 v.x.k, .int .i64 v.x.n, .string ⟨v.x.s.toArray⟩, .slice v.x.A v.x.len v.x.cap, .int .i64 s.pri, v.vb, v.nv, .int .i64 s.cnt]
def RdB (u : World) (rb : Nat) (v : RdV) (s : RdS) : Prop := u.heap[rb]? = some (.cells (rdCells v s) 116 (0, 0))
theorem RdB.lt {u : World} {rb : Nat} {v : RdV} {s : RdS} (h : RdB u rb v s) : rb < u.heap.size := (Array.getElem?_eq_some_iff.1 h).1
theorem RdB.later {u u' : World} {rb : Nat} {v : RdV} {s : RdS} (h : RdB u rb v s) (hb : Below u.heap.size u u') : RdB u' rb v s := (hb.block _ h.lt).trans h
theorem RdB.cell {u : World} {rb : Nat} {v : RdV} {s : RdS} (h : RdB u rb v s) {i : Nat} {x : Value} (hx : (rdCells v s)[i]? = some x) : u.cell? ⟨rb, i, none⟩ = some x := by
 rw [cell_of_row u rb i _ _ (0, 0) h]
 exact hx
theorem RdB.free {u : World} {rb : Nat} {v : RdV} {s : RdS} (h : RdB u rb v s) (o : Nat) : u.frozen? ⟨rb, o, none⟩ = false := by simp [World.frozen?, show u.heap[rb]? = _ from h]
theorem RdB.put {u : World} {rb : Nat} {v v' : RdV} {s s' : RdS} (h : RdB u rb v s) (i : Nat) (x : Value) (he : (rdCells v s).setIfInBounds i x = rdCells v' s') : RdB (u.setCell ⟨rb, i, none⟩ x) rb v' s' := by
 have := blk_put (i := i) h x
 rw [he] at this
 exact this
structure RdAt (u : World) (rb : Nat) (v : RdV) (ts : List Tok) (s : RdS) (B : Nat) : Prop where
 blk : RdB u rb v s
 toks : ToksAt u B v.A v.n ts
 base : B ≤ rb
 few : ts.length ≤ 20000
 in' : s.at' ≤ ts.length
theorem RdAt.later {u u' : World} {rb : Nat} {v : RdV} {ts : List Tok} {s : RdS} {B : Nat} (h : RdAt u rb v ts s B) (hb : Below u.heap.size u u') : RdAt u' rb v ts s B :=
 ⟨h.blk.later hb, h.toks.keep fun k hk => hb.block k (by have := h.blk.lt; have := h.base; omega), h.base, h.few, h.in'⟩
theorem RdAt.put {u : World} {rb : Nat} {v v' : RdV} {ts : List Tok} {s s' : RdS} {B : Nat} (h : RdAt u rb v ts s B) (i : Nat) (x : Value) (he : (rdCells v s).setIfInBounds i x = rdCells v' s') (hA : v'.A = v.A) (hn : v'.n = v.n) (hi : s'.at' ≤ ts.length) : RdAt (u.setCell ⟨rb, i, none⟩ x) rb v' ts s' B :=
 ⟨h.blk.put i x he, by rw [hA, hn]; exact h.toks.keep fun k hk => Deep.blk_setCell_other _ _ _ _ (by have := h.base; show k ≠ rb; omega), h.base, h.few, hi⟩
theorem six_at {w1 : World} {b : Nat} {a0 a1 a2 a3 a4 a5 : Value} {t : TypeId} (h : w1.heap[b]? = some (.cells #[a0, a1, a2, a3, a4, a5] t (0, 0))) :
    w1.cell? ⟨b, 0, none⟩ = some a0 ∧ w1.cell? ⟨b, 1, none⟩ = some a1 ∧ w1.cell? ⟨b, 2, none⟩ = some a2 ∧ w1.cell? ⟨b, 3, none⟩ = some a3 ∧ w1.cell? ⟨b, 4, none⟩ = some a4 ∧ w1.cell? ⟨b, 5, none⟩ = some a5 ∧ (∀ o, w1.frozen? ⟨b, o, none⟩ = false) :=
 ⟨by rw [cell_of_row w1 b 0 _ t (0, 0) h]; rfl, by rw [cell_of_row w1 b 1 _ t (0, 0) h]; rfl, by rw [cell_of_row w1 b 2 _ t (0, 0) h]; rfl, by rw [cell_of_row w1 b 3 _ t (0, 0) h]; rfl, by rw [cell_of_row w1 b 4 _ t (0, 0) h]; rfl, by rw [cell_of_row w1 b 5 _ t (0, 0) h]; rfl, fun o => by simp [World.frozen?, h]⟩
set_option maxHeartbeats 4000000 in
theorem peek_any (u : World) (rb : Nat) (v : RdV) (ts : List Tok) (s : RdS) (B : Nat) (h : RdAt u rb v ts s B) (k : Nat) (hk : k ≤ 2) :
    Calls Tryz.prog 94 #[.pointer (some ⟨rb, 0, none⟩), .int .i64 k] u fun e u' => e = .returned (tokW (peekF ts (s.at' + k))) ∧ Below u.heap.size u u' := by
 have c0 : u.cell? ⟨rb, 0, none⟩ = some (.slice v.A v.n v.c) := h.blk.cell (i := 0) rfl
 have c1 : u.cell? ⟨rb, 1, none⟩ = some (.int .i64 (s.at' : Int)) := h.blk.cell (i := 1) rfl
 have hlt := h.blk.lt
 have hf := h.few
 have hin := h.in'
 have hln := h.toks.len
 have HT := Lib.hid h.toks
 have hlu : B ≤ u.heap.size := by have := h.base; omega
 obtain ⟨A, n, c, ob, bv, wv, x, vb, nv⟩ := v
 simp only at c0 hln HT
 clear h
 obtain ⟨a, ha⟩ : ∃ a, a = s.at' := ⟨_, rfl⟩
 rw [← ha] at c1 hin ⊢
 clear ha
 by_cases hlast : a + k < ts.length
 ·have hg := List.getElem?_eq_getElem hlast
  have hp : peekF ts (a + k) = ts[a + k] := by unfold peekF; rw [List.getD_eq_getElem?_getD, hg]; rfl
  rw [hp]
  generalize ts[a + k] = t at hg
  obtain ⟨b, off, e1, e2, d0, d1, d2, d3, d4, d5⟩ := HT.out.at' _ t hg
  subst e1
  have hbl : b < u.heap.size := by omega
  have hl1 : (a : Int) + (k : Int) < (n : Int) := by omega
  have hl0 : (0 : Int) ≤ (a : Int) + (k : Int) := by omega
  have hsum : (a : Int) + (k : Int) = ((a + k : Nat) : Int) := by omega
  have hl2 : ((a + k : Nat) : Int) < (n : Int) := by omega
  have hl3 : (0 : Int) ≤ ((a + k : Nat) : Int) := by omega
  clear hg hp hln
  generalize a + k = m at *
  have hwr : IntKind.i64.wrap ((a : Int) + (k : Int)) = (m : Int) := by rw [hsum]; exact IntWalk.i64_in _ (by omega)
  have hwm : IntKind.i64.wrap (m : Int) = (m : Int) := IntWalk.i64_in _ (by omega)
  clear hsum
  unfold tokW
  go_enter Tryz.func94, Tryz.ntmps94
  go_wp2_with fail
  go_quiet (fail)
  go_wp2_with fail
  have hbW : Below u.heap.size u ((u.alloc (.cells #[.int .i64 0, .int .i64 0, .int .i64 0, .string ⟨#[]⟩, .bool false, .bool false] 107)).drewN nq) := below_drewN' (below_alloc' (Below.refl _ _) _) nq
  have hnew : ((u.alloc (.cells #[.int .i64 0, .int .i64 0, .int .i64 0, .string ⟨#[]⟩, .bool false, .bool false] 107)).drewN nq).heap[u.heap.size]? = some (.cells #[.int .i64 0, .int .i64 0, .int .i64 0, .string ⟨#[]⟩, .bool false, .bool false] 107 (0, 0)) := heap_alloc_new u _
  generalize (u.alloc (.cells #[.int .i64 0, .int .i64 0, .int .i64 0, .string ⟨#[]⟩, .bool false, .bool false] 107)).drewN nq = W at hbW hnew ⊢
  have w0 := (hbW.cell (p := ⟨rb, 0, none⟩) hlt).trans c0
  have w1 := (hbW.cell (p := ⟨rb, 1, none⟩) hlt).trans c1
  have y0 := (hbW.cell (p := ⟨b, off + m * 6, none⟩) hbl).trans d0
  have y1 := (hbW.cell (p := ⟨b, off + m * 6 + 1, none⟩) hbl).trans d1
  have y2 := (hbW.cell (p := ⟨b, off + m * 6 + 2, none⟩) hbl).trans d2
  have y3 := (hbW.cell (p := ⟨b, off + m * 6 + 3, none⟩) hbl).trans d3
  have y4 := (hbW.cell (p := ⟨b, off + m * 6 + 4, none⟩) hbl).trans d4
  have y5 := (hbW.cell (p := ⟨b, off + m * 6 + 5, none⟩) hbl).trans d5
  obtain ⟨n0, n1, n2, n3, n4, n5, nf⟩ := six_at hnew
  have HBW := Lib.hid hbW
  clear c0 c1 d0 d1 d2 d3 d4 d5 hbW hnew
  (refine wp_region_still_tail 12 (by kernel_rfl) (by kernel_rfl) ?_; simp only [List.take_succ_cons, List.take_zero, List.drop_succ_cons, List.drop_zero]; repeat (with_reducible refine wpStill_step ?_; intro KK hKK; go_simp; with_reducible refine hKK _ ?_; clear hKK KK)); try (with_reducible refine wpStill_nil ?_)
  go_wp2_with fail
  have hul : u.heap.size < W.heap.size := World.block_lt_of_cell? W _ n0
  exact bodyPost_ret (v := .agg #[.int .i64 t.kind, .int .i64 t.line, .int .i64 t.n, .string ⟨t.s.toArray⟩, .bool t.opn, .bool t.tight]) (by simp [results, Tryz.results94, go_sem, n0, n1, n2, n3, n4, n5]) rfl
   ⟨rfl, ((((((HBW.out.setCell (p := ⟨u.heap.size, 0, none⟩) (Nat.le_refl _) _).setCell (p := ⟨u.heap.size, 1, none⟩) (Nat.le_refl _) _).setCell (p := ⟨u.heap.size, 2, none⟩) (Nat.le_refl _) _).setCell (p := ⟨u.heap.size, 3, none⟩) (Nat.le_refl _) _).setCell (p := ⟨u.heap.size, 4, none⟩) (Nat.le_refl _) _).setCell (p := ⟨u.heap.size, 5, none⟩) (Nat.le_refl _) _).drew⟩
 ·have hp : peekF ts (a + k) = noTok := by unfold peekF; rw [List.getD_eq_getElem?_getD, List.getElem?_eq_none (by omega)]; rfl
  rw [hp]
  have hl1 : ¬ ((a : Int) + (k : Int) < (n : Int)) := by omega
  have hsum : (a : Int) + (k : Int) = ((a + k : Nat) : Int) := by omega
  have hwr : IntKind.i64.wrap ((a : Int) + (k : Int)) = ((a + k : Nat) : Int) := by rw [hsum]; exact IntWalk.i64_in _ (by omega)
  have hwm : IntKind.i64.wrap ((a + k : Nat) : Int) = ((a + k : Nat) : Int) := IntWalk.i64_in _ (by omega)
  have hge : n ≤ a + k := by omega
  clear hp hsum
  generalize a + k = m at *
  unfold tokW noTok
  go_enter Tryz.func94, Tryz.ntmps94
  go_wp2_with fail
  go_quiet (fail)
  have hbW : Below u.heap.size u ((u.alloc (.cells #[.int .i64 0, .int .i64 0, .int .i64 0, .string ⟨#[]⟩, .bool false, .bool false] 107)).drewN nq) := below_drewN' (below_alloc' (Below.refl _ _) _) nq
  have hnew : ((u.alloc (.cells #[.int .i64 0, .int .i64 0, .int .i64 0, .string ⟨#[]⟩, .bool false, .bool false] 107)).drewN nq).heap[u.heap.size]? = some (.cells #[.int .i64 0, .int .i64 0, .int .i64 0, .string ⟨#[]⟩, .bool false, .bool false] 107 (0, 0)) := heap_alloc_new u _
  generalize (u.alloc (.cells #[.int .i64 0, .int .i64 0, .int .i64 0, .string ⟨#[]⟩, .bool false, .bool false] 107)).drewN nq = W at hbW hnew ⊢
  obtain ⟨n0, n1, n2, n3, n4, n5, nf⟩ := six_at hnew
  have HBW := Lib.hid hbW
  clear hbW hnew
  go_wp2_with fail
  have hul : u.heap.size < W.heap.size := World.block_lt_of_cell? W _ n0
  exact bodyPost_ret (v := .agg #[.int .i64 0, .int .i64 0, .int .i64 0, .string ⟨#[]⟩, .bool false, .bool false]) (by simp [results, Tryz.results94, go_sem, n0, n1, n2, n3, n4, n5]) rfl
   ⟨rfl, (((((HBW.out.setCell (p := ⟨u.heap.size, 0, none⟩) (Nat.le_refl _) _).setCell (p := ⟨u.heap.size, 1, none⟩) (Nat.le_refl _) _).setCell (p := ⟨u.heap.size, 2, none⟩) (Nat.le_refl _) _).setCell (p := ⟨u.heap.size, 3, none⟩) (Nat.le_refl _) _).setCell (p := ⟨u.heap.size, 4, none⟩) (Nat.le_refl _) _).setCell (p := ⟨u.heap.size, 5, none⟩) (Nat.le_refl _) _⟩
end Go.Proofs.YtcallkljcjimiaaGreatDoor
