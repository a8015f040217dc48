import Derived.Test.YtjdnigepnfeboaaGreatDoorJG03
import Derived.Shelf.Small.Strs
import Derived.Shelf.Small.Wraps
import Derived.Shelf.LaysM
import Derived.Shelf.Strings.Fields
import Derived.Deep.RegionHeld3
import Derived.Deep.DeepCutAuto
import Derived.StillTailTactics
namespace Go.Proofs
open Go.Shelf
def Tryz.lays106_ren : Go.Shelf.Ren := ⟨fun | 106 => 38 | 213 => 101 | 265 => 199 | n => n, fun | 9 => 9 | 3 => 3 | n => n, fun | n => n⟩
theorem Tryz.lays106 : Go.Proofs.Lays.n106 Tryz.prog Tryz.lays106_ren := {
 mixed := by kernel_rfl
 f106 := Tryz.func38.trans (congrArg some (by kernel_rfl))
 f213 := Tryz.func101.trans (congrArg some (by kernel_rfl))
 f265 := Tryz.func199.trans (congrArg some (by kernel_rfl))
 t3 := Tryz.underlying3
 a3 := Tryz.isAgg3
 z3 := Tryz.sizeOf3
 v3 := Tryz.zeroValue3
 t9 := Tryz.underlying9
 a9 := Tryz.isAgg9
 z9 := Tryz.sizeOf9
 v9 := Tryz.zeroValue9 }
open Go.RowKit in
theorem Tryz.strings_Compare (a b : ByteArray) (w : World) :
    Calls Tryz.prog 38 #[.string a, .string b] w fun e w' => e = .returned (.int .i64 (Lib.compareBytes a.data.toList b.data.toList)) ∧ w' = w := Any.strings_Compare Tryz.lays106 a b w
def Tryz.lays122_ren : Go.Shelf.Ren := ⟨fun | 122 => 39 | 215 => 102 | n => n, fun | 3 => 3 | 4 => 4 | n => n, fun | n => n⟩
theorem Tryz.lays122 : Go.Proofs.Lays.n122 Tryz.prog Tryz.lays122_ren := {
 mixed := by kernel_rfl
 f122 := Tryz.func39.trans (congrArg some (by kernel_rfl))
 f215 := Tryz.func102.trans (congrArg some (by kernel_rfl))
 t3 := Tryz.underlying3
 a3 := Tryz.isAgg3
 z3 := Tryz.sizeOf3
 v3 := Tryz.zeroValue3
 t4 := Tryz.underlying4
 a4 := Tryz.isAgg4
 z4 := Tryz.sizeOf4
 v4 := Tryz.zeroValue4 }
open Go.RowKit in
theorem Tryz.cmp_Compare_int (x y : Int) (w : World) :
    Calls Tryz.prog 39 #[.int .i64 x, .int .i64 y] w fun e w' => e = .returned (.int .i64 (Lib.compareInt x y)) ∧ w' = w := Any.cmp_Compare_int Tryz.lays122 x y w
def Tryz.lays157_ren : Go.Shelf.Ren := ⟨fun | 157 => 24 | 229 => 57 | 199 => 58 | 261 => 125 | 311 => 215 | 312 => 216 | n => n, fun | 9 => 9 | 31 => 78 | 3 => 3 | 5 => 5 | 4 => 4 | 119 => 140 | 0 => 0 | 40 => 142 | 152 => 199 | 21 => 21 | 154 => 201 | 51 => 202 | 141 => 204 | 196 => 305 | 193 => 302 | 198 => 308 | 49 => 306 | 194 => 303 | 201 => 311 | 226 => 404 | 46 => 178 | 227 => 405 | n => n, fun | 0 => 1 | 6 => 2 | n => n⟩
theorem Tryz.lays157 : Go.Proofs.Lays.n157 Tryz.prog Tryz.lays157_ren := {
 mixed := by kernel_rfl
 f157 := Tryz.func24.trans (congrArg some (by kernel_rfl))
 f199 := Tryz.func58.trans (congrArg some (by kernel_rfl))
 f229 := Tryz.func57.trans (congrArg some (by kernel_rfl))
 f261 := Tryz.func125.trans (congrArg some (by kernel_rfl))
 f311 := Tryz.func215.trans (congrArg some (by kernel_rfl))
 f312 := Tryz.func216.trans (congrArg some (by kernel_rfl))
 t0 := Tryz.underlying0
 a0 := Tryz.isAgg0
 z0 := Tryz.sizeOf0
 v0 := Tryz.zeroValue0
 t3 := Tryz.underlying3
 a3 := Tryz.isAgg3
 z3 := Tryz.sizeOf3
 v3 := Tryz.zeroValue3
 t4 := Tryz.underlying4
 a4 := Tryz.isAgg4
 z4 := Tryz.sizeOf4
 v4 := Tryz.zeroValue4
 t5 := Tryz.underlying5
 a5 := Tryz.isAgg5
 z5 := Tryz.sizeOf5
 v5 := Tryz.zeroValue5
 t9 := Tryz.underlying9
 a9 := Tryz.isAgg9
 z9 := Tryz.sizeOf9
 v9 := Tryz.zeroValue9
 t21 := Tryz.underlying21
 a21 := Tryz.isAgg21
 z21 := Tryz.sizeOf21
 v21 := Tryz.zeroValue21
 t31 := Tryz.underlying78
 a31 := Tryz.isAgg78
 z31 := Tryz.sizeOf78
 v31 := Tryz.zeroValue78
 t40 := Tryz.underlying142
 a40 := Tryz.isAgg142
 z40 := Tryz.sizeOf142
 v40 := Tryz.zeroValue142
 t46 := Tryz.underlying178
 a46 := Tryz.isAgg178
 z46 := Tryz.sizeOf178
 v46 := Tryz.zeroValue178
 t49 := Tryz.underlying306
 a49 := Tryz.isAgg306
 z49 := Tryz.sizeOf306
 v49 := Tryz.zeroValue306
 t51 := Tryz.underlying202
 a51 := Tryz.isAgg202
 z51 := Tryz.sizeOf202
 v51 := Tryz.zeroValue202
 t119 := Tryz.underlying140
 a119 := Tryz.isAgg140
 z119 := Tryz.sizeOf140
 t141 := Tryz.underlying204
 a141 := Tryz.isAgg204
 z141 := Tryz.sizeOf204
 v141 := Tryz.zeroValue204
 t152 := Tryz.underlying199
 a152 := Tryz.isAgg199
 z152 := Tryz.sizeOf199
 v152 := Tryz.zeroValue199
 t154 := Tryz.underlying201
 a154 := Tryz.isAgg201
 z154 := Tryz.sizeOf201
 v154 := Tryz.zeroValue201
 t193 := Tryz.underlying302
 a193 := Tryz.isAgg302
 z193 := Tryz.sizeOf302
 v193 := Tryz.zeroValue302
 t194 := Tryz.underlying303
 a194 := Tryz.isAgg303
 z194 := Tryz.sizeOf303
 v194 := Tryz.zeroValue303
 t196 := Tryz.underlying305
 a196 := Tryz.isAgg305
 z196 := Tryz.sizeOf305
 v196 := Tryz.zeroValue305
 t198 := Tryz.underlying308
 a198 := Tryz.isAgg308
 z198 := Tryz.sizeOf308
 v198 := Tryz.zeroValue308
 t201 := Tryz.underlying311
 a201 := Tryz.isAgg311
 z201 := Tryz.sizeOf311
 v201 := Tryz.zeroValue311
 t226 := Tryz.underlying404
 a226 := Tryz.isAgg404
 z226 := Tryz.sizeOf404
 v226 := Tryz.zeroValue404
 t227 := Tryz.underlying405
 a227 := Tryz.isAgg405
 z227 := Tryz.sizeOf405
 v227 := Tryz.zeroValue405
 g0 := by kernel_rfl
 g6 := by kernel_rfl }
open Go.RowKit Go.Lib in
theorem Tryz.strings_Fields (s : ByteArray) (w : World) (hs : s.size < 4294967281) (hascii : ∀ (j : Nat) b, s.data.toList[j]? = some b → b.toNat < 128) (htab : Lib.TabIs Tryz.prog w "strings.asciiSpace" .u8 Lib.asciiSpaceTab) :
    Calls Tryz.prog 24 #[.string s] w fun e w' =>
     e = .returned (.slice (some ⟨w.heap.size, 0, none⟩) (Lib.fields s.data.toList).length (Lib.fields s.data.toList).length) ∧ w' = w.alloc (.cells ((Lib.fields s.data.toList).map fun l => Value.string ⟨l.toArray⟩).toArray 9) := Any.strings_Fields Tryz.lays157 (by kernel_rfl) (by kernel_rfl) s w hs hascii htab
end Go.Proofs
namespace Go.Proofs.YtjdnigepnfeboaaGreatDoor
open Go.RowKit Go.Maps
set_option maxRecDepth 100000
variable [Base]
set_option linter.unusedSectionVars false
section
variable {sb room : Nat} {u u' : World} {cv bv : Value} {xs : List ScM} {cs : List Sc} {ys : List (Nat × Int)} {bs : List Nat}
theorem StAt.slice (h : StAt sb room u cv bv xs cs ys) : ∃ A c, cv = .slice A cs.length c := by
 obtain ⟨A, c, e⟩ := h.row.shape
 exact ⟨A, c, by rw [e, h.len]⟩
set_option maxHeartbeats 2000000 in
theorem there_any (h : StAt sb room u cv bv xs cs ys) (i : Int) : Calls Tryz.prog 244 #[.pointer (some ⟨sb, 0, none⟩), .int .i64 i] u fun e u' => e = .returned (.bool (decide (0 ≤ i ∧ i < (cs.length : Int)))) ∧ u = u' := by
 obtain ⟨A, c, rfl⟩ := h.slice
 obtain ⟨-, c1, -, -⟩ := h.cells
 have hl := h.lt
 clear h
 by_cases h0 : 0 ≤ i
 ·by_cases h1 : i < (cs.length : Int)
  ·rw [decide_eq_true ⟨h0, h1⟩]
   go_enter Tryz.func244, Tryz.ntmps244
   go_wp2_with fail
   go_ret
   exact ⟨rfl, rfl⟩
  ·rw [decide_eq_false (fun e => h1 e.2)]
   go_enter Tryz.func244, Tryz.ntmps244
   go_wp2_with fail
   go_ret
   exact ⟨rfl, rfl⟩
 ·rw [decide_eq_false (fun e => h0 e.1)]
  go_enter Tryz.func244, Tryz.ntmps244
  go_wp2_with fail
  go_ret
  exact ⟨rfl, rfl⟩
inductive RootN (cs : List Sc) : Nat → Nat → Nat → Prop
 | here {i : Nat} {c : Sc} (h : cs[i]? = some c) (ht : c.to = none) : RootN cs 0 i i
 | step {n i j r : Nat} {c : Sc} (h : cs[i]? = some c) (ht : c.to = some j) (hr : RootN cs n j r) : RootN cs (n + 1) i r
omit [Base] in
theorem Root.count {i j : Nat} (h : Root cs i j) : ∃ n, RootN cs n i j := by
 induction h with
 | here h ht => exact ⟨0, .here h ht⟩
 | step h ht _ ih =>
  obtain ⟨n, hn⟩ := ih
  exact ⟨n + 1, .step h ht hn⟩
set_option maxHeartbeats 2000000 in
theorem follow_any (h : StAt sb room u cv bv xs cs ys) {i j : Nat} (hr : Root cs i j) : Calls Tryz.prog 245 #[.pointer (some ⟨sb, 0, none⟩), .int .i64 (i : Nat)] u fun e u' => e = .returned (.int .i64 (j : Nat)) ∧ u = u' := by
 obtain ⟨n, hn⟩ := hr.count
 have HN := Lib.hid hn
 have H := Lib.hid h
 obtain ⟨-, c1, -, -⟩ := h.cells
 have hl := h.lt
 clear h hn hr
 go_enter Tryz.func245, Tryz.ntmps245
 go_wp2_with fail
 go_loopg [1] n (fun gk v wr => ∃ k : Nat, v = .int .i64 (k : Nat) ∧ u = wr ∧ Hid (RootN cs gk k j))
 case atStart => exact ⟨i, rfl, rfl, HN⟩
 case round =>
  obtain ⟨k, rfl, rfl, HR⟩ := hrel
  clear HN
  obtain ⟨c, hc⟩ : ∃ c, cs[k]? = some c := by cases HR.out <;> exact ⟨_, by assumption⟩
  obtain ⟨g, cap, x, e1, -, -, -, -, -, -, -, -, -, d4, -⟩ := H.out.at hc
  have hk1 : (k : Int) < (cs.length : Int) := by have := (List.getElem?_eq_some_iff.1 hc).1; omega
  have hk0 : (0 : Int) ≤ (k : Int) := by omega
  rw [e1] at c1
  cases ht : c.to with
  | none =>
   rw [ht] at d4
   have hkj : k = j := by
    cases HR.out with
    | here => rfl
    | step h2 h3 _ =>
     rw [hc] at h2
     injection h2 with h2
     subst h2
     rw [ht] at h3
     cases h3
   have d4' : u.cell? ⟨g, k * 6 + 4, none⟩ = some (.int .i64 (-1)) := d4
   subst hkj
   clear d4 ht e1
   go_wp2_with fail
   go_ret
   exact ⟨rfl, rfl⟩
  | some k' =>
   rw [ht] at d4
   have d4' : u.cell? ⟨g, k * 6 + 4, none⟩ = some (.int .i64 (k' : Nat)) := d4
   have hkk : (0 : Int) ≤ (k' : Int) := by omega
   have HNX : Hid (gk - 1 < gk ∧ RootN cs (gk - 1) k' j) := by
    cases HR.out with
    | here h2 h3 =>
     rw [hc] at h2
     injection h2 with h2
     subst h2
     rw [ht] at h3
     cases h3
    | step h2 h3 h4 =>
     rw [hc] at h2
     injection h2 with h2
     subst h2
     rw [ht] at h3
     injection h3 with h3
     subst h3
     exact Lib.hid ⟨by omega, h4⟩
   clear d4 ht e1
   go_wp2_with fail
   go_roundg (gk - 1)
   case measure => exact HNX.out.1
   case rel => exact ⟨k', rfl, rfl, Lib.hid HNX.out.2⟩
set_option maxHeartbeats 2000000 in
theorem Follow_any (h : StAt sb room u cv bv xs cs ys) {i j : Nat} (hr : Root cs i j) : Calls Tryz.prog 183 #[.pointer (some ⟨sb, 0, none⟩), .int .i64 (i : Nat)] u fun e u' => e = .returned (.int .i64 (j : Nat)) ∧ u = u' := by
 have H := Lib.hid h
 have HR := Lib.hid hr
 have hd : decide (0 ≤ (i : Int) ∧ (i : Int) < (cs.length : Int)) = true := decide_eq_true ⟨by omega, by have := hr.lt; omega⟩
 have HD := Lib.hid hd
 clear h hr hd
 go_enter Tryz.func183, Tryz.ntmps183
 go_wp2_with fail
 refine (there_any H.out _).mono ?_
 rintro e w1 ⟨rfl, rfl⟩
 rw [HD.out]
 go_wp2_with fail
 refine (follow_any H.out HR.out).mono ?_
 rintro e w1 ⟨rfl, rfl⟩
 go_wp2_with fail
 go_ret
 exact ⟨rfl, rfl⟩
set_option maxHeartbeats 2000000 in
theorem mark_any (h : StAt sb room u cv bv xs cs ys) : Calls Tryz.prog 141 #[.pointer (some ⟨sb, 0, none⟩)] u fun e u' => e = .returned (.int .i64 (ys.length : Nat)) ∧ u = u' := by
 obtain ⟨A, c, rfl⟩ := h.bonds.shape
 obtain ⟨-, -, c2, -⟩ := h.cells
 have hl := h.lt
 clear h
 go_enter Tryz.func141, Tryz.ntmps141
 go_wp2_with fail
 go_ret
 exact ⟨rfl, rfl⟩
def shF (j : Nat) (c : Sc) : TV := if c.k = 1 then ⟨1, j, [], none, 0, 0⟩ else ⟨c.k, c.n, c.s, none, 0, 0⟩
set_option maxHeartbeats 4000000 in
theorem shell_any (h : StAt sb room u cv bv xs cs ys) {j : Nat} {c : Sc} (hc : cs[j]? = some c) : Calls Tryz.prog 246 #[.pointer (some ⟨sb, 0, none⟩), .int .i64 (j : Nat)] u fun e u' => e = .returned (tvV (shF j c)) ∧ Below u.heap.size u u' := by
 obtain ⟨g, cap, x, rfl, h1, h2, -, -, -, d0, d1, d2, -, -, -⟩ := h.at hc
 obtain ⟨-, c1, -, -⟩ := h.cells
 have hl := h.lt
 have hk1 : (j : Int) < (cs.length : Int) := by have := (List.getElem?_eq_some_iff.1 hc).1; omega
 have hk0 : (0 : Int) ≤ (j : Int) := by omega
 clear h hc
 obtain ⟨k, n, s, l, t⟩ := c
 simp only at d0 d1 d2
 unfold shF tvV
 by_cases hk : k = 1
 ·subst hk
  simp only [if_true]
  go_enter Tryz.func246, Tryz.ntmps246
  go_wp2_with fail
  obtain ⟨z0, z1, z2, z3, -⟩ := four_at (heap_alloc_new u (.cells #[.int .i64 1, .int .i64 (j : Nat), .string ⟨#[]⟩, .slice none 0 0] 27))
  exact bodyPost_ret (v := .agg #[.int .i64 1, .int .i64 (j : Nat), .string ⟨#[]⟩, .slice none 0 0]) (by simp [results, Tryz.results246, go_sem, z0, z1, z2, z3]) rfl ⟨rfl, (Below.refl _ _).alloc (Nat.le_refl _) _⟩
 ·simp only [if_neg hk]
  have hb : (k == 1) = false := beq_eq_false_iff_ne.2 hk
  go_enter Tryz.func246, Tryz.ntmps246
  go_upto_region 4 with fail
  obtain ⟨W, hW⟩ : ∃ W, W = u.alloc (.cells #[.int .i64 0, .int .i64 0, .string ⟨#[]⟩, .slice none 0 0] 27) := ⟨_, rfl⟩
  have hb : Below u.heap.size u W := by rw [hW]; exact (Below.refl _ _).alloc (Nat.le_refl _) _
  have hz : W.heap[u.heap.size]? = some (.cells #[.int .i64 0, .int .i64 0, .string ⟨#[]⟩, .slice none 0 0] 27 (0, 0)) := by rw [hW]; exact heap_alloc_new _ _
  rw [← hW]
  obtain ⟨z0, z1, z2, z3, zf⟩ := four_at hz
  have HB := Lib.hid hb
  have q0 := (hb.cell (p := ⟨g, j * 6, none⟩) h2).trans d0
  have q1 := (hb.cell (p := ⟨g, j * 6 + 1, none⟩) h2).trans d1
  have q2 := (hb.cell (p := ⟨g, j * 6 + 2, none⟩) h2).trans d2
  clear hW hb d0 d1 d2 c1
  go_still_tail 13, (by kernel_rfl)
  go_wp2_with fail
  obtain ⟨WF, hWF⟩ : ∃ WF, WF = ((((W.setCell ⟨u.heap.size, 0, none⟩ (.int .i64 k)).setCell ⟨u.heap.size, 1, none⟩ (.int .i64 n)).setCell ⟨u.heap.size, 2, none⟩ (.string ⟨s.toArray⟩)).setCell ⟨u.heap.size, 3, none⟩ (.slice none 0 0)) := ⟨_, rfl⟩
  have hf := blk_set4 hz rfl (.int .i64 k) (.int .i64 n) (.string ⟨s.toArray⟩) (.slice none 0 0)
  have hbf : Below u.heap.size u WF := by rw [hWF]; exact (((HB.out.setCell (p := ⟨u.heap.size, 0, none⟩) (Nat.le_refl _) _).setCell (p := ⟨u.heap.size, 1, none⟩) (Nat.le_refl _) _).setCell (p := ⟨u.heap.size, 2, none⟩) (Nat.le_refl _) _).setCell (p := ⟨u.heap.size, 3, none⟩) (Nat.le_refl _) _
  rw [← hWF] at hf ⊢
  clear hWF z0 z1 z2 z3 zf
  obtain ⟨z0, z1, z2, z3, -⟩ := four_at hf
  exact bodyPost_ret (v := .agg #[.int .i64 k, .int .i64 n, .string ⟨s.toArray⟩, .slice none 0 0]) (by simp [results, Tryz.results246, go_sem, z0, z1, z2, z3]) rfl ⟨rfl, hbf.drew⟩
end
end Go.Proofs.YtjdnigepnfeboaaGreatDoor
namespace Go.Proofs.YtjdnigepnfeboaaGreatDoor
open Go.RowKit Go.Maps
set_option maxRecDepth 100000
variable [Base]
set_option linter.unusedSectionVars false
omit [Base] in
theorem int_info : ∃ i z, Tryz.prog.info? 3 = some i ∧ i.zero = some z ∧ i.size = 1 ∧ i.bytes = 8 ∧ z.cells.size = 1 := by
 refine ⟨_, _, rfl, rfl, ?_, ?_, ?_⟩ <;> kernel_rfl
omit [Base] in
theorem flat_ints : ∀ l : List Nat, l.flatMap encN = l.map fun a => (.int .i64 (a : Nat) : Value)
 | [] => rfl
 | a :: r => by rw [List.flatMap_cons, flat_ints r]; rfl
omit [Base] in
set_option maxHeartbeats 2000000 in
theorem clone_any (u : World) (A : Option Addr) (c : Nat) (l : List Nat) (h : ArgsAt u A l) (hn : l.length ≤ 100000) :
    Calls Tryz.prog 247 #[.slice A l.length c] u fun e u' => ∃ A' c', e = .returned (.slice A' l.length c') ∧ ArgsAt u' A' l ∧ (∀ b off, A' = some ⟨b, off, none⟩ → u.heap.size ≤ b ∧ b < u'.heap.size) ∧ Below u.heap.size u u' := by
 have H := Lib.hid h
 obtain ⟨i0, z0, hi0, hz0, hz1, hz2, hz3⟩ := int_info
 have q22 : ∀ (w : World) (a : Option Addr) (n c n' c' : Nat), (binOp .eql 157 (.slice a n c) (.slice none n' c')).run Tryz.prog w = .ok (.bool a.isNone) w := fun w a n c n' c' => Lib.run_eql_slice_nil w _ _ a n c n' c' Tryz.underlying157
 by_cases hl : l = []
 ·subst hl
  obtain rfl := h.nil rfl
  clear h
  go_enter Tryz.func247, Tryz.ntmps247
  go_wp2_with fail
  go_ret
  exact ⟨none, 0, rfl, H.out, fun b off e => (by cases e), Below.refl _ _⟩
 ·obtain ⟨a, ha⟩ : ∃ a, l[0]? = some a := by
   cases l with
   | nil => exact absurd rfl hl
   | cons a r => exact ⟨a, rfl⟩
  obtain ⟨b, off, rfl, hb, -⟩ := h.at' 0 a ha
  have hbl := hb.lt
  clear h ha hb
  have hcell : ∀ (j : Nat) v, (l.flatMap encN)[j]? = some v → u.cell? ⟨b, off + j, none⟩ = some v := fun j v hv => by
   have e : l.flatMap encN = l.map fun a => (.int .i64 (a : Nat) : Value) := flat_ints l
   rw [e, List.getElem?_map] at hv
   cases hj : l[j]? with
   | none => rw [hj] at hv; cases hv
   | some x =>
    rw [hj] at hv
    injection hv with hv
    obtain ⟨b', off', e1, -, e3⟩ := H.out.at' j x hj
    injection e1 with e1
    injection e1 with e1 e2
    subst e1 e2
    rw [e3, ← hv]
  have HC := Lib.hid hcell
  clear hcell
  go_enter Tryz.func247, Tryz.ntmps247
  go_wp2_with (at_builtin; refine wpList_rows rfl _ _ 157 rfl _ u.heap.size 3 i0 z0 1 8 encN Tryz.underlying157 hi0 hz0 hz1 hz2 hz3 (by decide) encN_len encN_one _ [] l rfl ⟨World.ownsRow_made u #[] 0 (Nat.le_refl _) (Nat.zero_le _) rfl⟩ b off c rfl (fun j v hv => (Lib.cell?_alloc_some _ (HC.out j v hv))) (by unfold maxLen; simp only [List.length_nil]; omega) (by simp only [List.length_nil]; omega) (by simp) ?_)
  intro v' w1 hr hg
  obtain ⟨A', c', rfl⟩ := hr.shape
  have HA := Lib.hid (ArgsAt.row hr hl)
  have HL : Hid (∀ b off, A' = some ⟨b, off, none⟩ → u.heap.size ≤ b ∧ b < w1.heap.size) := Lib.hid fun b off e => by
   obtain ⟨g, cap, e1, e2, e3, -, -⟩ := hr.cells encN_len hl
   injection e1 with e1
   rw [e] at e1
   injection e1 with e1
   injection e1 with e1
   subst e1
   exact ⟨e2, e3⟩
  have HB : Hid (Below u.heap.size u w1) := Lib.hid (((Below.refl _ u).alloc (Nat.le_refl _) _).grown hg (by simp) (by intro k hk; simp [Value.ownBlock] at hk; omega))
  clear hr hg
  go_wp2_with fail
  go_ret
  exact ⟨A', c', rfl, HA.out, HL.out, HB.out⟩
omit [Base] in
theorem fr_set4 {S : Nat → Prop} {w W : World} (h : Fr S w W) {b : Nat} (hb : S b) (a0 a1 a2 a3 : Value) : Fr S w ((((W.setCell ⟨b, 0, none⟩ a0).setCell ⟨b, 1, none⟩ a1).setCell ⟨b, 2, none⟩ a2).setCell ⟨b, 3, none⟩ a3) :=
 (((h.setCell (p := ⟨b, 0, none⟩) (.inl hb) _).setCell (p := ⟨b, 1, none⟩) (.inl hb) _).setCell (p := ⟨b, 2, none⟩) (.inl hb) _).setCell (p := ⟨b, 3, none⟩) (.inl hb) _
section
variable {sb room : Nat} {u u' : World} {cv bv : Value} {xs : List ScM} {cs : List Sc} {ys : List (Nat × Int)} {bs : List Nat}
theorem StAt.few' (h : StAt sb room u cv bv xs cs ys) : cs.length ≤ 16777216 := Nat.le_trans h.few h.room.1
set_option maxHeartbeats 8000000 in
theorem look_st (h : StAt sb room u cv bv xs cs ys) {i j : Nat} {c : Sc} (hr : Root cs i j) (hc : cs[j]? = some c) (ha : c.args.length ≤ 100000) :
    Calls Tryz.prog 147 #[.pointer (some ⟨sb, 0, none⟩), .int .i64 (i : Nat)] u fun e u' => ∃ A' c', e = .returned (.tuple #[tvV (shF j c), .slice A' c.args.length c']) ∧ ArgsAt u' A' c.args ∧ (∀ b off, A' = some ⟨b, off, none⟩ → u.heap.size ≤ b ∧ b < u'.heap.size) ∧ Below u.heap.size u u' := by
 have H := Lib.hid h
 have HR := Lib.hid hr
 have HC := Lib.hid hc
 have hd : decide (0 ≤ (i : Int) ∧ (i : Int) < (cs.length : Int)) = true := decide_eq_true ⟨by omega, by have := hr.lt; omega⟩
 have HD := Lib.hid hd
 have hjl := (List.getElem?_eq_some_iff.1 hc).1
 obtain ⟨W, hW⟩ : ∃ W, W = u.alloc (.cells #[.int .i64 0, .int .i64 0, .string ⟨#[]⟩, .slice none 0 0] 27) := ⟨_, rfl⟩
 have hbW : Below u.heap.size u W := by rw [hW]; exact (Below.refl _ _).alloc (Nat.le_refl _) _
 have hz : W.heap[u.heap.size]? = some (.cells #[.int .i64 0, .int .i64 0, .string ⟨#[]⟩, .slice none 0 0] 27 (0, 0)) := by rw [hW]; exact heap_alloc_new _ _
 obtain ⟨g, cap, x, hcv, g1, g2, -, ho, -, -, -, -, d3, -, -⟩ := (h.later hbW).at hc
 subst hcv
 obtain ⟨-, c1, -, -⟩ := (h.later hbW).cells
 have HW := Lib.hid (h.later hbW)
 have HA := Lib.hid ho.args
 have HZ := Lib.hid hz
 have HB := Lib.hid hbW
 have hk0 : (0 : Int) ≤ (j : Int) := by omega
 have hk1 : (j : Int) < (cs.length : Int) := by omega
 have hsl := (h.later hbW).lt
 clear h hr hc hd hbW hz ho
 obtain ⟨P, hP⟩ : ∃ P : Ending → World → Prop, P = fun e u' => ∃ A' c', e = .returned (.tuple #[tvV (shF j c), .slice A' c.args.length c']) ∧ ArgsAt u' A' c.args ∧ (∀ b off, A' = some ⟨b, off, none⟩ → u.heap.size ≤ b ∧ b < u'.heap.size) ∧ Below u.heap.size u u' := ⟨_, rfl⟩
 rw [← hP]
 have HP := Lib.hid hP
 clear hP
 go_enter Tryz.func147, Tryz.ntmps147
 go_upto_region 1 with fail
 rw [← hW]
 clear hW
 go_wp2_with fail
 refine (there_any HW.out _).mono ?_
 rintro e w1 ⟨rfl, rfl⟩
 rw [HD.out]
 go_wp2_with fail
 refine (follow_any HW.out HR.out).mono ?_
 rintro e w1 ⟨rfl, rfl⟩
 have hrl : u.heap.size < W.heap.size := (Array.getElem?_eq_some_iff.1 HZ.out).1
 have HSV : Hid (∀ v, Fr (· = u.heap.size) W v → v.cell? ⟨sb, 1, none⟩ = some (.slice (some ⟨g, 0, none⟩) cs.length cap) ∧ v.cell? ⟨g, j * 6 + 3, none⟩ = some (.slice x.A c.args.length x.c)) := Lib.hid fun v hv => by
  have h1 := (HW.out.row.lt g rfl)
  have h2 : sb < u.heap.size := H.out.lt
  have h3 : TyB W 366 g := HW.out.row.ty rfl
  exact ⟨(hv.cell (p := ⟨sb, 1, none⟩) hsl (by show sb ≠ _; omega)).trans c1, (hv.cell (p := ⟨g, j * 6 + 3, none⟩) g2 (h3.ne ⟨_, HZ.out⟩ (by decide))).trans d3⟩
 have HS4 : Hid (∀ v, Fr (· = u.heap.size) W v → ((((v.setCell ⟨u.heap.size, 0, none⟩ (.int .i64 (shF j c).k)).setCell ⟨u.heap.size, 1, none⟩ (.int .i64 (shF j c).n)).setCell ⟨u.heap.size, 2, none⟩ (.string ⟨(shF j c).s.toArray⟩)).setCell ⟨u.heap.size, 3, none⟩ (.slice (shF j c).A (shF j c).len (shF j c).cap)).cell? ⟨sb, 1, none⟩ = some (.slice (some ⟨g, 0, none⟩) cs.length cap) ∧ ((((v.setCell ⟨u.heap.size, 0, none⟩ (.int .i64 (shF j c).k)).setCell ⟨u.heap.size, 1, none⟩ (.int .i64 (shF j c).n)).setCell ⟨u.heap.size, 2, none⟩ (.string ⟨(shF j c).s.toArray⟩)).setCell ⟨u.heap.size, 3, none⟩ (.slice (shF j c).A (shF j c).len (shF j c).cap)).cell? ⟨g, j * 6 + 3, none⟩ = some (.slice x.A c.args.length x.c)) := Lib.hid fun v hv => HSV.out _ (fr_set4 hv rfl _ _ _ _)
 have HSH : Hid (∀ v, Below W.heap.size W v → Calls Tryz.prog 246 #[.pointer (some ⟨sb, 0, none⟩), .int .i64 (j : Nat)] v fun e u' => e = .returned (tvV (shF j c)) ∧ Below v.heap.size v u' ∧ Below W.heap.size W u') := Lib.hid fun v hv => (shell_any (HW.out.later hv) HC.out).mono (by
  rintro e u' ⟨rfl, hb⟩
  exact ⟨rfl, hb, hv.trans (hb.mono hv.size)⟩)
 have HCL : Hid (∀ v, Fr (· = u.heap.size) W v → Calls Tryz.prog 247 #[.slice x.A c.args.length x.c] v fun e u' => ∃ A' c', e = .returned (.slice A' c.args.length c') ∧ ArgsAt u' A' c.args ∧ (∀ b off, A' = some ⟨b, off, none⟩ → v.heap.size ≤ b ∧ b < u'.heap.size) ∧ Below v.heap.size v u' ∧ u'.heap[u.heap.size]? = v.heap[u.heap.size]?) := Lib.hid fun v hv => (clone_any v x.A x.c c.args (HA.out.keep fun b hb => hv.block b hb.lt (hb.ne ⟨_, HZ.out⟩ (by decide))) ha).mono (by
  rintro e u' ⟨A', c', rfl, h1, h0, h2⟩
  exact ⟨A', c', rfl, h1, h0, h2, h2.block _ (Nat.lt_of_lt_of_le hrl hv.size)⟩)
 have hb0 := Below.refl W.heap.size W
 have hbd : Below W.heap.size W W.drew := hb0.drew
 unfold tvV at HSH
 obtain ⟨z0, z1, z2, z3, zf⟩ := four_at HZ.out
 clear HW HA c1 d3
 go_upto_region 4 with fail
 go_region_held3 (fun v => v.cell? ⟨sb, 1, none⟩ = some (.slice (some ⟨g, 0, none⟩) cs.length cap) ∧ v.cell? ⟨g, j * 6 + 3, none⟩ = some (.slice x.A c.args.length x.c))
  (first | (with_reducible exact HSV.out _ (Fr.refl _ _)) | (with_reducible exact HSV.out _ (Fr.drew (Fr.refl _ _))) | (with_reducible exact HSV.out _ (Fr.step (Fr.drew (Fr.refl _ _)) hv1)) | (with_reducible exact HSV.out _ (Fr.step (Fr.step (Fr.drew (Fr.refl _ _)) hv1) hv2)) | (with_reducible exact HS4.out _ (Fr.step (Fr.step (Fr.drew (Fr.refl _ _)) hv1) hv2)) | (with_reducible exact HS4.out _ (Fr.step (Fr.drew (Fr.refl _ _)) hv1)) | (with_reducible exact HSV.out _ (Fr.step (fr_set4 (Fr.step (Fr.drew (Fr.refl _ _)) hv1) rfl _ _ _ _) hv2)))
  (first | (go_at_call 246; with_reducible refine (HSH.out _ (by first | assumption | exact Below.drew (by assumption))).mono ?_; rintro e w1 ⟨rfl, hv1, hb1⟩; have hz1 := (hb1.block _ hrl).trans HZ.out; have HZ1 := Lib.hid hz1; obtain ⟨y0, y1, y2, y3, yf⟩ := four_at hz1; clear hz1) | (go_at_call 247; with_reducible refine (HCL.out _ (by (repeat (first | exact Fr.refl _ _ | refine Fr.setCell ?_ (.inl rfl) _ | refine Fr.drew ?_ | refine Fr.step ?_ hv1)))).mono ?_; rintro e w2 ⟨A', c', rfl, ha2, hn2, hv2, hk2⟩; (first | (have hz2 := hk2.trans HZ1.out; have HZ2 := Lib.hid hz2; obtain ⟨y0, y1, y2, y3, yf⟩ := four_at hz2; clear hz2) | (have hz2 := hk2.trans HZ.out; have HZ2 := Lib.hid hz2; obtain ⟨y0, y1, y2, y3, yf⟩ := four_at hz2; clear hz2) | skip)))
 all_goals
  go_wp2_with fail
  rw [HP.out]
  have hf := blk_set4 HZ2.out rfl (.int .i64 (shF j c).k) (.int .i64 (shF j c).n) (.string ⟨(shF j c).s.toArray⟩) (.slice (shF j c).A (shF j c).len (shF j c).cap)
  have hB := ((((HB.out.trans ((hb1.trans (hv2.mono hb1.size)).mono HB.out.size)).setCell (p := ⟨u.heap.size, 0, none⟩) (Nat.le_refl _) (.int .i64 (shF j c).k)).setCell (p := ⟨u.heap.size, 1, none⟩) (Nat.le_refl _) (.int .i64 (shF j c).n)).setCell (p := ⟨u.heap.size, 2, none⟩) (Nat.le_refl _) (.string ⟨(shF j c).s.toArray⟩)).setCell (p := ⟨u.heap.size, 3, none⟩) (Nat.le_refl _) (.slice (shF j c).A (shF j c).len (shF j c).cap)
  have hNW0 : ∀ b off, A' = some ⟨b, off, none⟩ → u.heap.size ≤ b ∧ b < w2.heap.size := fun b off e => ⟨Nat.le_trans HB.out.size (Nat.le_trans hb1.size (hn2 b off e).1), (hn2 b off e).2⟩
  obtain ⟨WF, hWF⟩ : ∃ WF, WF = ((((w2.setCell ⟨u.heap.size, 0, none⟩ (.int .i64 (shF j c).k)).setCell ⟨u.heap.size, 1, none⟩ (.int .i64 (shF j c).n)).setCell ⟨u.heap.size, 2, none⟩ (.string ⟨(shF j c).s.toArray⟩)).setCell ⟨u.heap.size, 3, none⟩ (.slice (shF j c).A (shF j c).len (shF j c).cap)) := ⟨_, rfl⟩
  have hA : ArgsAt WF A' c.args := ha2.keep fun b hb => by rw [hWF]; exact blk_set4_ne _ _ _ _ (hb.ne ⟨_, HZ2.out⟩ (by decide))
  have hNW : ∀ b off, A' = some ⟨b, off, none⟩ → u.heap.size ≤ b ∧ b < WF.heap.size := by rw [hWF]; simpa [World.setCell] using hNW0
  rw [← hWF] at hf hB ⊢
  clear hWF
  obtain ⟨f0, f1, f2, f3, -⟩ := four_at hf
  exact bodyPost_ret (v := .tuple #[tvV (shF j c), .slice A' c.args.length c']) (by simp [results, Tryz.results147, go_sem, f0, f1, f2, f3, tvV]) rfl ⟨A', c', rfl, hA, hNW, hB⟩
end
end Go.Proofs.YtjdnigepnfeboaaGreatDoor
namespace Go.Proofs.YtjdnigepnfeboaaGreatDoor
open Go.RowKit Go.Maps
set_option maxRecDepth 100000
variable [Base]
set_option linter.unusedSectionVars false
section
variable {sb room : Nat} {u u' : World} {cv bv : Value} {xs : List ScM} {cs : List Sc} {ys : List (Nat × Int)} {bs : List Nat}
theorem StAt.put {g cap : Nat} (h : StAt sb room u (.slice (some ⟨g, 0, none⟩) cs.length cap) bv xs cs ys) {i : Nat} {x : ScM} {c : Sc} (hx : xs[i]? = some x) (hc : cs[i]? = some c) (t : Option Nat) (hf : Flw (putTo cs i c t)) :
    StAt sb room (u.setCell ⟨g, i * 6 + 4, none⟩ (.int .i64 (toI t))) (.slice (some ⟨g, 0, none⟩) cs.length cap) bv (xs.set i { x with «to» := toI t }) (putTo cs i c t) ys := by
 have hg : TyB u 366 g := h.row.ty rfl
 have hk : ∀ {b t'}, TyB u t' b → t' ≠ 366 → (u.setCell ⟨g, i * 6 + 4, none⟩ (.int .i64 (toI t))).heap[b]? = u.heap[b]? := fun hb hn => Below.heap_setCell _ _ _ _ (hb.ne hg hn)
 refine ⟨(hk ⟨_, h.blk⟩ (by decide)).trans h.blk, h.row.put encM_len hx (by decide) rfl, h.bonds.keep fun k hk' => hk (h.bonds.ty hk') (by decide), by rw [List.length_set, putTo_len]; exact h.len, fun j y d hy hd => ?_, by rw [putTo_len]; exact h.few, h.room, hf, fun j d hd a ha => ?_, fun j d hd => ?_, fun y hy => by rw [putTo_len]; exact h.bnd y hy, h.many⟩
 ·by_cases e : j = i
  ·subst e
   rw [List.getElem?_set_self (List.getElem?_eq_some_iff.1 hx).1] at hy
   rw [putTo_at hc] at hd
   injection hy with hy
   injection hd with hd
   subst hy hd
   have ho := h.ok j x c hx hc
   exact ⟨ho.k, ho.n, ho.s, rfl, ho.m, ho.args.keep fun b hb => hk hb (by decide), ho.short, ho.top⟩
  ·rw [List.getElem?_set_ne (Ne.symm e)] at hy
   rw [putTo_ne c t e] at hd
   have ho := h.ok j y d hy hd
   exact ⟨ho.k, ho.n, ho.s, ho.to, ho.m, ho.args.keep fun b hb => hk hb (by decide), ho.short, ho.top⟩
 ·rw [putTo_len]
  by_cases e : j = i
  ·subst e
   rw [putTo_at hc] at hd
   injection hd with hd
   subst hd
   exact h.args j c hc a ha
  ·rw [putTo_ne c t e] at hd
   exact h.args j d hd a ha
 ·by_cases e : j = i
  ·subst e
   rw [putTo_at hc] at hd
   injection hd with hd
   subst hd
   exact h.ar j c hc
  ·rw [putTo_ne c t e] at hd
   exact h.ar j d hd
theorem StAt.pop {gb cap : Nat} {y : Nat × Int} (h : StAt sb room u cv (.slice (some ⟨gb, 0, none⟩) (ys.length + 1) cap) xs cs (ys ++ [y])) : StAt sb room (u.setCell ⟨sb, 2, none⟩ (.slice (some ⟨gb, 0, none⟩) ys.length cap)) cv (.slice (some ⟨gb, 0, none⟩) ys.length cap) xs cs ys := by
 have hs : TyB u 171 sb := ⟨_, h.blk⟩
 have hk : ∀ {b t'}, TyB u t' b → t' ≠ 171 → (u.setCell ⟨sb, 2, none⟩ (.slice (some ⟨gb, 0, none⟩) ys.length cap)).heap[b]? = u.heap[b]? := fun hb hn => Below.heap_setCell _ _ _ _ (hb.ne hs hn)
 refine ⟨blk_put h.blk _, h.row.keep fun k hk' => hk (h.row.ty hk') (by decide), ?_, h.len, fun j x c hx hc => ?_, h.few, h.room, h.flw, h.args, h.ar, fun z hz => h.bnd z (List.mem_append_left _ hz), by have := h.many; simp at this; omega⟩
 ·exact (Row.front encD_len h.bonds).keep fun k hk' => hk ((Row.front encD_len h.bonds).ty hk') (by decide)
 ·have ho := h.ok j x c hx hc
  exact ⟨ho.k, ho.n, ho.s, ho.to, ho.m, ho.args.keep fun b hb => hk hb (by decide), ho.short, ho.top⟩
def freeF (cs : List Sc) (v : Nat) : List Sc := match cs[v]? with | some c => putTo cs v c none | none => cs
set_option maxHeartbeats 4000000 in
theorem loose_any {y : Nat × Int} (h : StAt sb room u cv bv xs cs (ys ++ [y])) :
    Calls Tryz.prog 255 #[.pointer (some ⟨sb, 0, none⟩)] u fun e u' => e = .returned (.tuple #[]) ∧ (∃ bv' xs', StAt sb room u' cv bv' xs' (freeF cs y.1) ys) ∧ TF stT u u' := by
 have hy := h.bnd y (List.mem_append_right _ (List.mem_singleton.2 rfl))
 have hc := List.getElem?_eq_getElem hy.1
 generalize cs[y.1] = c at hc
 obtain ⟨g, cap, x, rfl, g1, g2, hx, -, gf, -, -, -, -, d4, -⟩ := h.at hc
 obtain ⟨-, c1, c2, cf⟩ := h.cells
 obtain ⟨gb, capb, e1, b1, b2, b3, b4⟩ := h.bonds.cells encD_len (by simp)
 rw [List.length_append, List.length_singleton] at e1 b3
 subst e1
 have q0 := (b4 ys.length y (by simp) 0 _ rfl).1
 rw [Nat.add_zero] at q0
 have hw : IntKind.i64.wrap (((ys.length + 1 : Nat) : Int) - 1) = (ys.length : Int) := by rw [IntWalk.i64_in _ (by have := h.many; simp at this; omega)]; omega
 have hw2 : IntKind.i64.wrap (ys.length : Int) = (ys.length : Int) := IntWalk.i64_in _ (by have := h.many; simp at this; omega)
 have hl := h.lt
 have HF := Lib.hid (h.flw.loose hc)
 have H := Lib.hid h
 have HX := Lib.hid hx
 have HC := Lib.hid hc
 have hy1 : ((y.1 : Nat) : Int) < (cs.length : Int) := by omega
 have hy0 : (0 : Int) ≤ ((y.1 : Nat) : Int) := by omega
 have hn0 : (0 : Int) ≤ (ys.length : Int) := by omega
 have hn1 : (ys.length : Int) < ((ys.length + 1 : Nat) : Int) := by omega
 have hn2 : (ys.length : Int) < (ys.length : Int) + 1 := by omega
 have hn3 : ys.length < ys.length + 1 := by omega
 have hy2 : y.1 < cs.length := hy.1
 clear h hx hc b4 hy
 obtain ⟨v, tp⟩ := y
 simp only at q0 d4 hy1 hy0
 go_enter Tryz.func255, Tryz.ntmps255
 go_upto_region 1 with fail
 (refine wp_region_still_tail 14 (by kernel_rfl) (by kernel_rfl) ?_; simp only [List.take_succ_cons, List.take_zero, List.drop_succ_cons, List.drop_zero]; repeat (with_reducible refine wpStill_step ?_; intro KK hKK; go_simp; with_reducible refine hKK _ ?_; clear hKK KK)); try (with_reducible refine wpStill_nil ?_)
 go_wp2_with fail
 have h1 : StAt sb room (u.setCell ⟨g, v * 6 + 4, none⟩ (.int .i64 (-1))) _ _ _ (putTo cs v c none) (ys ++ [(v, tp)]) := H.out.put HX.out HC.out none HF.out
 have h2 := h1.pop.later (Below.refl _ _).drew
 have h3 := h2
 have ef : freeF cs v = putTo cs v c none := by unfold freeF; rw [HC.out]
 rw [← ef] at h3
 exact bodyPost_end (v := .tuple #[]) (by simp [results, Tryz.results255, go_sem]) rfl ⟨rfl, ⟨_, _, h3⟩, (((TF.refl stT u).set (p := ⟨g, v * 6 + 4, none⟩) (t := 366) (H.out.row.ty rfl) (by decide) (H.out.rowge rfl) _).set (p := ⟨sb, 2, none⟩) (t := 171) ⟨_, h1.blk⟩ (by decide) H.out.ge _).drew⟩
def undoF (cs : List Sc) (l : List Nat) : List Sc := l.foldr (fun v cs => freeF cs v) cs
omit [Base] in
theorem undoF_snoc (cs : List Sc) (l : List Nat) (v : Nat) : undoF cs (l ++ [v]) = undoF (freeF cs v) l := by
 unfold undoF
 rw [List.foldr_append]
 rfl
set_option maxHeartbeats 4000000 in
theorem undo_any (h : StAt sb room u cv bv xs cs ys) (m : Nat) (hm : m ≤ ys.length) :
    Calls Tryz.prog 161 #[.pointer (some ⟨sb, 0, none⟩), .int .i64 (m : Nat)] u fun e u' => e = .returned (.tuple #[]) ∧ (∃ bv' xs', StAt sb room u' cv bv' xs' (undoF cs ((ys.drop m).map (·.1))) (ys.take m)) ∧ TF stT u u' := by
 have H := Lib.hid h
 have hmx : max (m : Int) 0 = (m : Int) := by omega
 have hl := h.lt
 clear h
 obtain ⟨P, hP⟩ : ∃ P : Ending → World → Prop, P = fun e u' => e = .returned (.tuple #[]) ∧ (∃ bv' xs', StAt sb room u' cv bv' xs' (undoF cs ((ys.drop m).map (·.1))) (ys.take m)) ∧ TF stT u u' := ⟨_, rfl⟩
 rw [← hP]
 have HP := Lib.hid hP
 clear hP
 go_enter Tryz.func161, Tryz.ntmps161
 go_wp2_with fail
 go_loopg [] (ys.length - m) (fun gk wr => ∃ (cs' : List Sc) (bv' : Value) (xs' : List ScM), Hid (StAt sb room wr cv bv' xs' cs' (ys.take (m + gk)) ∧ TF stT u wr ∧ m + gk ≤ ys.length ∧ undoF cs' (((ys.take (m + gk)).drop m).map (·.1)) = undoF cs ((ys.drop m).map (·.1))))
 case atStart => exact ⟨cs, bv, xs, Lib.hid ⟨by rw [show m + (ys.length - m) = ys.length by omega, List.take_length]; exact H.out, TF.refl _ _, by omega, by rw [show m + (ys.length - m) = ys.length by omega, List.take_length]⟩⟩
 case round =>
  obtain ⟨cs', bv', xs', HI⟩ := hrel
  clear H
  have hle := HI.out.2.2.1
  obtain ⟨A2, d2, rfl⟩ := HI.out.1.bonds.shape
  obtain ⟨-, -, c2, -⟩ := HI.out.1.cells
  have hlw := HI.out.1.lt
  have hlen : (ys.take (m + gk)).length = m + gk := by rw [List.length_take]; omega
  rw [hlen] at c2 HI
  obtain _ | gk := gk
  ·have hng : ¬ ((m + 0 : Nat) : Int) > (m : Int) := by omega
   have HQ : Hid (undoF cs' [] = undoF cs ((ys.drop m).map (·.1))) := Lib.hid (by
    have := HI.out.2.2.2
    rwa [Nat.add_zero, List.drop_eq_nil_of_le (by rw [List.length_take]; omega)] at this)
   rw [Nat.add_zero] at c2
   clear hle hlen hng
   go_wp2_with fail
   have h3 : StAt sb room wr cv _ xs' (undoF cs' []) (ys.take (m + 0)) := HI.out.1
   rw [HQ.out] at h3
   exact bodyPost_end (v := .tuple #[]) (by simp [results, Tryz.results161, go_sem]) rfl (by rw [HP.out]; exact ⟨rfl, ⟨_, _, h3⟩, HI.out.2.1⟩)
  ·obtain ⟨y, hy⟩ : ∃ y, ys[m + gk]? = some y := ⟨_, List.getElem?_eq_getElem (by omega)⟩
   have htk : ys.take (m + (gk + 1)) = ys.take (m + gk) ++ [y] := by
    rw [← Nat.add_assoc, List.take_add_one, hy]
    rfl
   have hgt : (m : Int) < ((m + (gk + 1) : Nat) : Int) := by omega
   have hgt2 : (m : Int) < (m : Int) + ((gk : Int) + 1) := by omega
   rw [htk] at HI
   have HG := Lib.hid (show m + gk ≤ ys.length by omega)
   clear hle hlen hy htk
   go_wp2_with fail
   refine (loose_any HI.out.1).mono ?_
   rintro e w2 ⟨rfl, ⟨bv2, xs2, h2⟩, hf2⟩
   have HNX := Lib.hid (And.intro h2 (HI.out.2.1.trans hf2))
   clear h2 hf2 c2
   go_wp2_with fail
   go_roundg gk
   case measure => exact Nat.lt_succ_self _
   case rel =>
    refine ⟨_, _, _, Lib.hid ⟨HNX.out.1, HNX.out.2, HG.out, ?_⟩⟩
    rw [← HI.out.2.2.2, List.drop_append_of_le_length (by rw [List.length_take]; have := HG.out; omega), List.map_append]
    exact (undoF_snoc cs' _ y.1).symm
end
end Go.Proofs.YtjdnigepnfeboaaGreatDoor
namespace Go.Proofs.YtjdnigepnfeboaaGreatDoor
open Go.RowKit Go.Maps
set_option maxRecDepth 100000
variable [Base]
set_option linter.unusedSectionVars false
omit [Base] in
theorem bond_info : ∃ i z, Tryz.prog.info? 458 = some i ∧ i.zero = some z ∧ i.size = 2 ∧ i.bytes = 16 ∧ z.cells.size = 2 := by
 refine ⟨_, _, rfl, rfl, ?_, ?_, ?_⟩ <;> kernel_rfl
section
variable {sb room : Nat} {u u' : World} {cv bv : Value} {xs : List ScM} {cs : List Sc} {ys : List (Nat × Int)} {bs : List Nat}
theorem StAt.push {u1 u2 : World} {bv' : Value} {y : Nat × Int} {o : Obj} (h : StAt sb room u cv bv xs cs ys) (hr : Row u2 (sb + 1) 458 2 encD bv' (ys ++ [y])) (hg : (u.alloc o).grownBy u2 bv.ownBlock) (h1 : u1 = u2.setCell ⟨sb, 2, none⟩ bv') (hy : y.1 < cs.length ∧ -1 ≤ y.2 ∧ y.2 ≤ 100000000) (hm : ys.length + 1 ≤ 100000000) :
    StAt sb room u1 cv bv' xs cs (ys ++ [y]) ∧ TF stT u u1 := by
 have hk : ∀ {b t'}, TyB u t' b → t' ≠ 458 → u2.heap[b]? = u.heap[b]? := fun {b t'} hb hn => by
  rw [hg.block b (by rw [World.size_alloc]; have := hb.lt; omega) fun e => hn (hb.same (h.bonds.ty e.symm)), Below.heap_alloc _ _ _ hb.lt]
 have hs : TyB u 171 sb := ⟨_, h.blk⟩
 have hs2 : u2.heap[sb]? = _ := (hk hs (by decide)).trans h.blk
 have hf2 : TF stT u u2 := ((TF.refl stT u).alloc o).grown hg fun g e => by
  obtain ⟨cs0, h0⟩ := h.bonds.ty e
  exact .inl ⟨h.bdge e, 458, by decide, cs0, by rw [Below.heap_alloc _ _ _ (Array.getElem?_eq_some_iff.1 h0).1]; exact h0⟩
 subst h1
 have hk2 : ∀ {b t'}, TyB u t' b → t' ≠ 458 → t' ≠ 171 → (u2.setCell ⟨sb, 2, none⟩ bv').heap[b]? = u.heap[b]? := fun {b t'} hb hn hn' => (Below.heap_setCell _ _ _ _ (hb.ne hs hn')).trans (hk hb hn)
 refine ⟨⟨blk_put hs2 _, h.row.keep fun k hk' => hk2 (h.row.ty hk') (by decide) (by decide), ?_, h.len, fun j x c hx hc => ?_, h.few, h.room, h.flw, h.args, h.ar, fun z hz => ?_, by rw [List.length_append]; exact hm⟩, hf2.set (p := ⟨sb, 2, none⟩) (t := 171) ⟨_, hs2⟩ (by decide) h.ge _⟩
 ·exact hr.keep fun k hk' => Below.heap_setCell _ _ _ _ ((hr.ty hk').ne (t' := 171) ⟨_, hs2⟩ (by decide))
 ·have ho := h.ok j x c hx hc
  exact ⟨ho.k, ho.n, ho.s, ho.to, ho.m, ho.args.keep fun b hb => hk2 hb (by decide) (by decide), ho.short, ho.top⟩
 ·rcases List.mem_append.1 hz with hz | hz
  ·exact h.bnd z hz
  ·rw [List.mem_singleton] at hz
   rw [hz]
   exact hy
theorem StAt.grown_blk {u2 : World} {o : Obj} (h : StAt sb room u cv bv xs cs ys) (hg : (u.alloc o).grownBy u2 bv.ownBlock) : u2.heap[sb]? = some (.cells #[.int .i64 (room : Nat), cv, bv] 171 (0, 0)) := by
 rw [hg.block sb (by rw [World.size_alloc]; have := h.lt; omega) fun e => (show 458 ≠ 171 by decide) ((h.bonds.ty e.symm).same ⟨_, h.blk⟩), Below.heap_alloc _ _ _ h.lt]
 exact h.blk
set_option maxHeartbeats 8000000 in
theorem bind_any (h : StAt sb room u cv bv xs cs ys) {v t : Nat} {c : Sc} (hv : Root cs v v) (ht : Root cs t t) (hne : v ≠ t) (hc : cs[v]? = some c) (hk : c.k = 1) (hm : ys.length + 1 ≤ 100000000) :
    Calls Tryz.prog 406 #[.pointer (some ⟨sb, 0, none⟩), .int .i64 (v : Nat), .int .i64 (t : Nat)] u fun e u' => e = .returned (.int .i64 0) ∧ (∃ bv' xs' tp, StAt sb room u' cv bv' xs' (putTo cs v c (some t)) (ys ++ [(v, tp)])) ∧ TF stT u u' := by
 obtain ⟨i0, z0, hi0, hz0, hz1, hz2, hz3⟩ := bond_info
 have hc0 : c.to = none := by
  obtain ⟨d, h1, h2⟩ := hv.free
  rw [hc] at h1
  injection h1 with h1
  rw [h1]
  exact h2
 have hdv : decide (0 ≤ (v : Int) ∧ (v : Int) < (cs.length : Int)) = true := decide_eq_true ⟨by omega, by have := hv.lt; omega⟩
 have hdt : decide (0 ≤ (t : Int) ∧ (t : Int) < (cs.length : Int)) = true := decide_eq_true ⟨by omega, by have := ht.lt; omega⟩
 obtain ⟨g, cap, x, hcv, g1, g2, hx, -, gf, d0, -, -, -, d4, -⟩ := h.at hc
 subst hcv
 obtain ⟨-, c1, -, cf⟩ := h.cells
 have H := Lib.hid h
 have HV := Lib.hid hv
 have HT := Lib.hid ht
 have HD := Lib.hid (And.intro hdv hdt)
 have hv0 : (0 : Int) ≤ (v : Int) := by omega
 have hv1 : (v : Int) < (cs.length : Int) := by have := hv.lt; omega
 have hl := h.lt
 have hvt : ((v : Int) == (t : Int)) = false := beq_eq_false_iff_ne.2 (by omega)
 have hput : StAt sb room (u.setCell ⟨g, v * 6 + 4, none⟩ (.int .i64 (t : Nat))) _ bv _ (putTo cs v c (some t)) ys := h.put hx hc (some t) (h.flw.bind hc hc0 ht hne)
 have HF := Lib.hid (((TF.refl stT u).set (p := ⟨g, v * 6 + 4, none⟩) (t := 366) (h.row.ty rfl) (by decide) (h.rowge rfl) (.int .i64 (t : Nat))))
 have HP := Lib.hid hput
 have hfew := h.few'
 have HLV := Lib.hid (And.intro hv.lt ht.lt)
 rw [hk] at d0
 rw [hc0] at d4
 have d4' : u.cell? ⟨g, v * 6 + 4, none⟩ = some (.int .i64 (-1)) := d4
 clear d4
 clear h hv ht hdv hdt hx hc0 hput
 have HC := Lib.hid (And.intro hc hk)
 clear hc hk
 obtain ⟨PP, hPP⟩ : ∃ P : Ending → World → Prop, P = fun e u' => e = .returned (.int .i64 0) ∧ (∃ bv' xs' tp, StAt sb room u' (.slice (some ⟨g, 0, none⟩) cs.length cap) bv' xs' (putTo cs v c (some t)) (ys ++ [(v, tp)])) ∧ TF stT u u' := ⟨_, rfl⟩
 rw [← hPP]
 have HPP := Lib.hid hPP
 clear hPP
 go_enter Tryz.func406, Tryz.ntmps406
 go_wp2_with fail
 refine (there_any H.out _).mono ?_
 rintro e w1 ⟨rfl, rfl⟩
 rw [HD.out.1]
 go_wp2_with fail
 refine (there_any H.out _).mono ?_
 rintro e w1 ⟨rfl, rfl⟩
 rw [HD.out.2]
 go_wp2_with fail
 refine (follow_any H.out HV.out).mono ?_
 rintro e w1 ⟨rfl, rfl⟩
 go_wp2_with fail
 refine (follow_any H.out HT.out).mono ?_
 rintro e w1 ⟨rfl, rfl⟩
 go_upto_region 11 with fail
 obtain ⟨V, hV⟩ : ∃ V, V = u.setCell ⟨g, v * 6 + 4, none⟩ (.int .i64 (t : Nat)) := ⟨_, rfl⟩
 rw [← hV] at HP HF ⊢
 clear hV c1 cf gf d0 d4'
 obtain ⟨-, c1, c2, cf⟩ := HP.out.cells
 have hlV := HP.out.lt
 obtain ⟨T1, hT1⟩ : ∃ z : Int, max (v : Int) (t : Int) = z := ⟨_, rfl⟩
 have HT1 : Hid (0 ≤ T1 ∧ T1 ≤ 16777216) := Lib.hid (by have := HLV.out; omega)
 by_cases hys : ys = []
 ·subst hys
  obtain ⟨A2, cap2, rfl⟩ := HP.out.bonds.shape
  go_wp2_with (at_builtin; refine wpList_row rfl _ _ 169 rfl _ (sb + 1) 458 i0 z0 2 16 encD Tryz.underlying169 hi0 hz0 hz1 hz2 hz3 (by decide) encD_len encD_one _ [] (v, T1) rfl (HP.out.bonds.alloc _) _ 1 rfl (fun j w hw => by rw [cell_made _ _ _ j w (by rw [← Array.getElem?_toList]; exact hw)]) (by unfold maxLen; simp) (by simp) (by simp; omega) ?_)
  intro v' w2 hr hg
  obtain ⟨A3, c3, rfl⟩ := hr.shape
  have hb2 := HP.out.grown_blk hg
  have s2 : w2.cell? ⟨sb, 2, none⟩ = some (.slice A2 0 cap2) := by rw [cell_of_row w2 sb 2 _ _ (0, 0) hb2]; rfl
  have sf : ∀ o, w2.frozen? ⟨sb, o, none⟩ = false := fun o => by simp [World.frozen?, hb2]
  have hls : sb < w2.heap.size := (Array.getElem?_eq_some_iff.1 hb2).1
  have HPU := Lib.hid (HP.out.push (y := (v, T1)) hr hg rfl ⟨by rw [putTo_len]; exact HLV.out.1, by have := HT1.out; simp only; omega, by have := HT1.out; simp only; omega⟩ (by simp))
  clear hr hg hb2
  go_wp2_with fail
  show PP _ _
  rw [HPP.out]
  exact ⟨rfl, ⟨_, _, T1, HPU.out.1⟩, HF.out.trans HPU.out.2⟩
 ·obtain ⟨ys0, y, rfl⟩ : ∃ ys0 y, ys = ys0 ++ [y] := ⟨_, _, (List.dropLast_concat_getLast hys).symm⟩
  obtain ⟨gb, capb, e1, b1, b2, b3, b4⟩ := HP.out.bonds.cells encD_len hys
  rw [List.length_append, List.length_singleton] at e1 b3 hm
  subst e1
  have q1 := (b4 ys0.length y (by simp) 1 _ rfl).1
  have hby := (HP.out.bnd y (List.mem_append_right _ (List.mem_singleton.2 rfl)))
  have hw : IntKind.i64.wrap (ys0.length : Int) = (ys0.length : Int) := IntWalk.i64_in _ (by omega)
  have hn0 : (0 : Int) ≤ (ys0.length : Int) := by omega
  have hn1 : (0 : Int) < (ys0.length : Int) + 1 := by omega
  have hn2 : (ys0.length : Int) < (ys0.length : Int) + 1 := by omega
  obtain ⟨ty, hty⟩ : ∃ z : Int, z = y.2 := ⟨_, rfl⟩
  rw [← hty] at q1 hby
  obtain ⟨T2, hT2⟩ : ∃ z : Int, max T1 ty = z := ⟨_, rfl⟩
  have HT2 : Hid (-1 ≤ T2 ∧ T2 ≤ 100000000) := Lib.hid (by have := HT1.out; omega)
  clear b4 hys hby hty
  go_wp2_with (at_builtin; refine wpList_row rfl _ _ 169 rfl _ (sb + 1) 458 i0 z0 2 16 encD Tryz.underlying169 hi0 hz0 hz1 hz2 hz3 (by decide) encD_len encD_one _ (ys0 ++ [y]) (v, T2) rfl (HP.out.bonds.alloc _) _ 1 rfl (fun j w hw => by rw [cell_made _ _ _ j w (by rw [← Array.getElem?_toList]; exact hw)]) (by unfold maxLen; simp; omega) (by simp; omega) (by simp; omega) ?_)
  intro v' w2 hr hg
  obtain ⟨A3, c3, rfl⟩ := hr.shape
  have hb2 := HP.out.grown_blk hg
  have s2 : w2.cell? ⟨sb, 2, none⟩ = some (.slice (some ⟨gb, 0, none⟩) (ys0.length + 1) capb) := by rw [cell_of_row w2 sb 2 _ _ (0, 0) hb2]; rfl
  have sf : ∀ o, w2.frozen? ⟨sb, o, none⟩ = false := fun o => by simp [World.frozen?, hb2]
  have hls : sb < w2.heap.size := (Array.getElem?_eq_some_iff.1 hb2).1
  have hr2 : Row w2 (sb + 1) 458 2 encD (.slice A3 (ys0 ++ [y, (v, T2)]).length c3) (ys0 ++ [y] ++ [(v, T2)]) := by rw [List.append_assoc]; exact hr
  have hlen9 : (ys0 ++ [y, (v, T2)]).length = ys0.length + 2 := by simp
  rw [hlen9] at hr2 ⊢
  clear hlen9
  have HPU := Lib.hid (HP.out.push (y := (v, T2)) hr2 hg rfl ⟨by rw [putTo_len]; exact HLV.out.1, HT2.out⟩ (by simp; omega))
  clear hr hr2 hg hb2
  go_wp2_with fail
  show PP _ _
  rw [HPP.out]
  exact ⟨rfl, ⟨_, _, T2, HPU.out.1⟩, HF.out.trans HPU.out.2⟩
end
end Go.Proofs.YtjdnigepnfeboaaGreatDoor
namespace Go.Proofs.YtjdnigepnfeboaaGreatDoor
open Go.RowKit Go.Maps
set_option maxRecDepth 100000
theorem Root.more {cs : List Sc} (d : List Sc) {i j : Nat} (h : Root cs i j) : Root (cs ++ d) i j := by
 induction h with
 | here h ht => exact .here (by rw [List.getElem?_append_left (List.getElem?_eq_some_iff.1 h).1]; exact h) ht
 | step h ht _ ih => exact .step (by rw [List.getElem?_append_left (List.getElem?_eq_some_iff.1 h).1]; exact h) ht ih
theorem Flw.snoc {cs : List Sc} (h : Flw cs) {c : Sc} (hc : c.to = none) : Flw (cs ++ [c]) := fun i hi => by
 by_cases hl : i < cs.length
 ·obtain ⟨j, hj⟩ := h i hl
  exact ⟨j, hj.more _⟩
 ·rw [List.length_append, List.length_singleton] at hi
  have e : i = cs.length := by omega
  exact ⟨i, .here (c := c) (by rw [e, List.getElem?_append_right (Nat.le_refl _), Nat.sub_self]; rfl) hc⟩
theorem abs_snoc {xs : List ScM} {b : Nat} {k n t9 tp : Int} {s : List UInt8} {m c : Nat} (h : ABs (xs ++ [⟨k, n, s, none, m, c, t9, tp⟩]) b) : ABs xs b := by
 obtain ⟨x, hx, off, e⟩ := h
 rcases List.mem_append.1 hx with hx | hx
 ·exact ⟨x, hx, off, e⟩
 ·rw [List.mem_singleton] at hx
  rw [hx] at e
  cases e
theorem cell_info : ∃ i z, Tryz.prog.info? 366 = some i ∧ i.zero = some z ∧ i.size = 6 ∧ i.bytes = 72 ∧ z.cells.size = 6 := by
 refine ⟨_, _, rfl, rfl, ?_, ?_, ?_⟩ <;> kernel_rfl
def stP : List TypeId := [171, 366]
theorem below_then {w E u : World} (h : Below w.heap.size w E) (hb : Below E.heap.size E u) : Below w.heap.size w u := h.trans (hb.mono h.size)
variable [Base]
set_option linter.unusedSectionVars false
section
variable {sb room : Nat} {u u' : World} {cv bv : Value} {xs : List ScM} {cs : List Sc} {ys : List (Nat × Int)}
theorem StAt.behind {W' w9 : World} (h : StAt sb room u cv bv xs cs ys) (hb : Below u.heap.size u W') (hg : W'.grownBy w9 cv.ownBlock) : w9.heap[sb]? = some (.cells #[.int .i64 (room : Nat), cv, bv] 171 (0, 0)) := by
 rw [hg.block sb (Nat.lt_of_lt_of_le h.lt hb.size) fun e => (show 366 ≠ 171 by decide) ((h.row.ty e.symm).same ⟨_, h.blk⟩), hb.block _ h.lt]
 exact h.blk
theorem StAt.snoc {W' w9 : World} {nv : Value} (h : StAt sb room u cv bv xs cs ys) (hb : Below u.heap.size u W') (hg : W'.grownBy w9 cv.ownBlock) (k n : Int) (s : List UInt8) (tp : Int)
    (hown : w9.ownsRow (sb + 1) 366 6 nv (xs.length + 1) (xs.flatMap encM ++ encM ⟨k, n, s, none, 0, 0, -1, tp⟩)) (hroom : cs.length + 1 ≤ room) (hs : s.length ≤ maxLen) (htp : -1 ≤ tp ∧ tp ≤ 100000000) :
    StAt sb room (w9.setCell ⟨sb, 1, none⟩ nv) nv bv (xs ++ [⟨k, n, s, none, 0, 0, -1, tp⟩]) (cs ++ [⟨k, n, s, [], none⟩]) ys ∧ TF stP u (w9.setCell ⟨sb, 1, none⟩ nv) := by
 have hr : Row w9 (sb + 1) 366 6 encM nv (xs ++ [⟨k, n, s, none, 0, 0, -1, tp⟩]) := ⟨by rw [List.length_append, List.flatMap_append]; simpa using hown⟩
 have hb9 := h.behind hb hg
 have hS : TyB w9 171 sb := ⟨_, hb9⟩
 have hk : ∀ {b t'}, TyB u t' b → t' ≠ 366 → t' ≠ 171 → (w9.setCell ⟨sb, 1, none⟩ nv).heap[b]? = u.heap[b]? := fun {b t'} ht hn hn' => by
  rw [Below.heap_setCell _ _ _ _ (ht.ne (t' := 171) ⟨_, h.blk⟩ hn'), hg.block b (Nat.lt_of_lt_of_le ht.lt hb.size) fun e => hn (ht.same (h.row.ty e.symm)), hb.block _ ht.lt]
 refine ⟨⟨blk_put hb9 _, hr.keep fun k hk' => Below.heap_setCell _ _ _ _ ((hr.ty hk').ne hS (by decide)), h.bonds.keep fun k hk' => hk (h.bonds.ty hk') (by decide) (by decide), by simp [h.len], fun i x c hx hc => ?_, by simpa using hroom, h.room, h.flw.snoc rfl, fun i c hc a ha => ?_, fun i c hc => ?_, fun y hy => ?_, h.many⟩, ?_⟩
 ·by_cases hi : i < cs.length
  ·rw [List.getElem?_append_left (by rw [h.len]; exact hi)] at hx
   rw [List.getElem?_append_left hi] at hc
   have ho := h.ok i x c hx hc
   exact ⟨ho.k, ho.n, ho.s, ho.to, ho.m, ho.args.keep fun b hb' => hk hb' (by decide) (by decide), ho.short, ho.top⟩
  ·have e : i = cs.length := by have := (List.getElem?_eq_some_iff.1 hc).1; simp at this; omega
   subst e
   rw [← h.len, List.getElem?_append_right (Nat.le_refl _), Nat.sub_self] at hx
   rw [List.getElem?_append_right (Nat.le_refl _), Nat.sub_self] at hc
   injection hx with hx
   injection hc with hc
   subst hx hc
   exact ⟨rfl, rfl, rfl, rfl, rfl, ⟨fun _ => rfl, fun i a ha => by simp at ha⟩, hs, htp⟩
 ·rw [List.length_append, List.length_singleton]
  by_cases hi : i < cs.length
  ·rw [List.getElem?_append_left hi] at hc
   have := h.args i c hc a ha
   omega
  ·have e : i = cs.length := by have := (List.getElem?_eq_some_iff.1 hc).1; simp at this; omega
   subst e
   rw [List.getElem?_append_right (Nat.le_refl _), Nat.sub_self] at hc
   injection hc with hc
   subst hc
   cases ha
 ·by_cases hi : i < cs.length
  ·rw [List.getElem?_append_left hi] at hc
   exact h.ar i c hc
  ·have e : i = cs.length := by have := (List.getElem?_eq_some_iff.1 hc).1; simp at this; omega
   subst e
   rw [List.getElem?_append_right (Nat.le_refl _), Nat.sub_self] at hc
   injection hc with hc
   subst hc
   simp
 ·rw [List.length_append]
  have := h.bnd y hy
  omega
 ·refine TFB.set (t := 171) ?_ (p := ⟨sb, 1, none⟩) hS (by decide) h.ge _
  exact ((TF.refl stP u).later hb).grown hg fun g e => .inl ⟨h.rowge e, 366, by decide, (h.row.ty e).keep (hb.block _ (h.row.ty e).lt)⟩
set_option maxHeartbeats 8000000 in
theorem add_st (h : StAt sb room u cv bv xs cs ys) (k n : Int) (s : List UInt8) (hroom : cs.length + 1 ≤ room) (hs : s.length ≤ maxLen) :
    Calls Tryz.prog 330 #[.pointer (some ⟨sb, 0, none⟩), .agg #[.int .i64 k, .int .i64 n, .string ⟨s.toArray⟩, .slice none 0 0, .int .i64 0, .int .i64 0]] u fun e u' => e = .returned (.int .i64 (cs.length : Nat)) ∧ (∃ cv' xs', StAt sb room u' cv' bv xs' (cs ++ [⟨k, n, s, [], none⟩]) ys ∧ ∀ b, ABs xs' b → ABs xs b) ∧ TF stP u u' := by
 obtain ⟨P, hP⟩ : ∃ P : Ending → World → Prop, P = fun e u' => e = .returned (.int .i64 (cs.length : Nat)) ∧ (∃ cv' xs', StAt sb room u' cv' bv xs' (cs ++ [⟨k, n, s, [], none⟩]) ys ∧ ∀ b, ABs xs' b → ABs xs b) ∧ TF stP u u' := ⟨_, rfl⟩
 rw [← hP]
 have HP := Lib.hid hP
 obtain ⟨i0, z0, hi0, hz0, hz1, hz2, hz3⟩ := cell_info
 have hfew := h.few'
 have hxl := h.len
 obtain ⟨A, cap, hcv⟩ := h.slice
 subst hcv
 have hl := h.lt
 obtain ⟨-, c1, -, cf⟩ := h.cells
 by_cases hnil : cs = []
 case' pos =>
  subst hnil
  obtain ⟨W1, hW1⟩ : ∃ W1, W1 = u.alloc (.cells #[.int .i64 k, .int .i64 n, .string ⟨s.toArray⟩, .slice none 0 0, .int .i64 (-1), .int .i64 (-1)] 366) := ⟨_, rfl⟩
  have hnew := hW1
  have HR : Hid (∀ v, Below u.heap.size u v → v.ownsRow (sb + 1) 366 6 (.slice A 0 cap) 0 (xs.flatMap encM)) := Lib.hid fun v hb => by
   have := (h.later hb).row.own
   rw [hxl] at this
   exact this
  have HC : Hid (∀ v, Below u.heap.size u v → v.cell? ⟨sb, 1, none⟩ = some (.slice A 0 cap)) := Lib.hid fun v hb => (h.later hb).cells.2.1
  have HB : Hid (∀ v v9, Below u.heap.size u v → v.grownBy v9 (Value.slice A 0 cap).ownBlock → v9.cell? ⟨sb, 1, none⟩ = some (.slice A 0 cap) ∧ v9.frozen? ⟨sb, 1, none⟩ = false) := Lib.hid fun v v9 hb hg => ⟨by rw [cell_of_row v9 sb 1 _ _ (0, 0) (h.behind hb hg)]; rfl, by simp [World.frozen?, h.behind hb hg]⟩
  have HF : Hid (∀ v v9 nv, Below u.heap.size u v → v.grownBy v9 (Value.slice A 0 cap).ownBlock → v9.ownsRow (sb + 1) 366 6 nv (0 + 1) (xs.flatMap encM ++ encM ⟨k, n, s, none, 0, 0, -1, -1⟩) → P (.returned (.int .i64 0)) (v9.setCell ⟨sb, 1, none⟩ nv)) := Lib.hid fun v v9 nv hb hg ho => by
   rw [HP.out]
   obtain ⟨q1, q2⟩ := h.snoc hb hg k n s (-1) (by rw [hxl]; exact ho) hroom hs ⟨by omega, by omega⟩
   exact ⟨rfl, ⟨_, _, q1, fun b hb => abs_snoc hb⟩, q2⟩
  have hbx : W1.heap[u.heap.size]? = some (.cells #[.int .i64 k, .int .i64 n, .string ⟨s.toArray⟩, .slice none 0 0, .int .i64 (-1), .int .i64 (-1)] 366 (0, 0)) := by rw [hnew]; exact heap_alloc_new _ _
 case' neg =>
  obtain ⟨cs0, c0, rfl⟩ : ∃ l0 p, cs = l0 ++ [p] := ⟨_, _, (List.dropLast_concat_getLast hnil).symm⟩
  obtain ⟨g, cap', x0, hcv, g1, g2, hx, ho, -, -, -, -, -, -, d5⟩ := h.at (i := cs0.length) (c := c0) (by simp)
  injection hcv with hA hn hc
  subst hA hc
  clear hn
  obtain ⟨tp, htp⟩ : ∃ z, z = x0.top := ⟨_, rfl⟩
  have htb := ho.top
  rw [← htp] at d5 htb
  rw [List.length_append, List.length_singleton] at hfew hroom hxl c1
  have hw1 : IntKind.i64.wrap (((cs0.length + 1 : Nat) : Int) - 1) = (cs0.length : Int) := by rw [IntWalk.i64_in _ (by omega)]; omega
  have hw2 : IntKind.i64.wrap (cs0.length : Int) = (cs0.length : Int) := IntWalk.i64_in _ (by omega)
  have hn0 : (0 : Int) ≤ (cs0.length : Int) := by omega
  have hn1 : (0 : Int) < (cs0.length : Int) + 1 := by omega
  have hn2 : (cs0.length : Int) < (cs0.length : Int) + 1 := by omega
  obtain ⟨W1, hW1⟩ : ∃ W1, W1 = u.alloc (.cells #[.int .i64 k, .int .i64 n, .string ⟨s.toArray⟩, .slice none 0 0, .int .i64 (-1), .int .i64 tp] 366) := ⟨_, rfl⟩
  have hnew := hW1
  have hll : (cs0 ++ [c0]).length = cs0.length + 1 := by simp
  rw [hll] at h
  have HR : Hid (∀ v, Below u.heap.size u v → v.ownsRow (sb + 1) 366 6 (.slice (some ⟨g, 0, none⟩) (cs0.length + 1) cap) (cs0.length + 1) (xs.flatMap encM)) := Lib.hid fun v hb => by
   have := (h.later hb).row.own
   rw [hxl] at this
   exact this
  have HC : Hid (∀ v, Below u.heap.size u v → v.cell? ⟨sb, 1, none⟩ = some (.slice (some ⟨g, 0, none⟩) (cs0.length + 1) cap)) := Lib.hid fun v hb => (h.later hb).cells.2.1
  have HB : Hid (∀ v v9, Below u.heap.size u v → v.grownBy v9 (Value.slice (some ⟨g, 0, none⟩) (cs0.length + 1) cap).ownBlock → v9.cell? ⟨sb, 1, none⟩ = some (.slice (some ⟨g, 0, none⟩) (cs0.length + 1) cap) ∧ v9.frozen? ⟨sb, 1, none⟩ = false) := Lib.hid fun v v9 hb hg => ⟨by rw [cell_of_row v9 sb 1 _ _ (0, 0) (h.behind hb hg)]; rfl, by simp [World.frozen?, h.behind hb hg]⟩
  have HF : Hid (∀ v v9 nv, Below u.heap.size u v → v.grownBy v9 (Value.slice (some ⟨g, 0, none⟩) (cs0.length + 1) cap).ownBlock → v9.ownsRow (sb + 1) 366 6 nv (cs0.length + 1 + 1) (xs.flatMap encM ++ encM ⟨k, n, s, none, 0, 0, -1, tp⟩) → P (.returned (.int .i64 ((cs0.length : Int) + 1))) (v9.setCell ⟨sb, 1, none⟩ nv)) := Lib.hid fun v v9 nv hb hg ho => by
   rw [HP.out]
   obtain ⟨q1, q2⟩ := h.snoc hb hg k n s tp (by rw [hxl]; exact ho) (by rw [hll]; exact hroom) hs htb
   exact ⟨by rw [hll]; rfl, ⟨_, _, q1, fun b hb => abs_snoc hb⟩, q2⟩
  clear hx ho hnil htp htb
  have hbx : W1.heap[u.heap.size]? = some (.cells #[.int .i64 k, .int .i64 n, .string ⟨s.toArray⟩, .slice none 0 0, .int .i64 (-1), .int .i64 tp] 366 (0, 0)) := by rw [hnew]; exact heap_alloc_new _ _
 all_goals
  have hb1 : Below u.heap.size u W1 := by rw [hnew]; exact (Below.refl _ _).alloc (Nat.le_refl _) _
  have hsz : W1.heap.size = u.heap.size + 1 := by rw [hnew]; simp
  obtain ⟨x0, x1, x2, x3, x4, x5, -⟩ := six_at hbx
  have HB1 := Lib.hid hb1
  have hlW : sb < W1.heap.size := by omega
  have hlB : u.heap.size < W1.heap.size := by omega
  have cW := HC.out _ hb1
  have cfW : ∀ o, W1.frozen? ⟨sb, o, none⟩ = false := fun o => (World.frozen?_of_block (w := u) (a := ⟨sb, o, none⟩) (hb1.block _ hl)).trans (cf o)
  clear h hP hnew hbx hb1
  go_enter Tryz.func330, Tryz.ntmps330
  go_upto_region 5 with fail
  rw [← hW1]
  clear hW1 c1 cf
  go_region_law
   ((refine step_append_lies _ (by rfl) _ _ _ (by rfl) (sb + 1) 366 i0 _ 6 72 Tryz.underlying168 hi0 hz0 hz1 hz2 hz3 (by omega) _ _ (xs.flatMap encM) (by rfl) (HR.out _ (below_then HB1.out (by (repeat (first | exact Below.refl _ _ | refine Below.drew ?_ | refine Below.alloc ?_ (Nat.le_refl _) _)))))
       ⟨u.heap.size + 1, 0, none⟩ 1 1 (encM ⟨k, n, s, none, 0, 0, -1, _⟩) (by rfl) (by rfl) (World.news_of_block (cs := (encM ⟨k, n, s, none, 0, 0, -1, _⟩).toArray) (t := 366) (fr := (0, 0)) (by rw [← hsz]; exact heap_alloc_new W1 _)) (encM_one _)
       (by omega) (by unfold maxLen; omega) (by omega) (by simp; omega) (u.heap.size + 2) (by simp [hsz]) ?_; intro gg cap2 w9 hown9 hgrow hat9 hlt9; obtain ⟨hc9, hf9⟩ : w9.cell? ⟨sb, 1, none⟩ = _ ∧ w9.frozen? ⟨sb, 1, none⟩ = false := HB.out _ _ (below_then HB1.out (by (repeat (first | exact Below.refl _ _ | refine Below.drew ?_ | refine Below.alloc ?_ (Nat.le_refl _) _)))) hgrow))
 all_goals
  have HQ := Lib.hid (HF.out _ _ _ (below_then HB1.out (by (repeat (first | exact Below.refl _ _ | refine Below.drew ?_ | refine Below.alloc ?_ (Nat.le_refl _) _)))) hgrow hown9)
  clear hgrow hown9
  go_wp2_with fail
  exact HQ.out
end
end Go.Proofs.YtjdnigepnfeboaaGreatDoor
namespace Go.Proofs.YtjdnigepnfeboaaGreatDoor
open Go.RowKit Go.Maps
set_option maxRecDepth 100000
def cmpZ (a b : Int) : Int := if a < b then -1 else if b < a then 1 else 0
theorem cmpZ_eq (a b : Int) : cmpZ a b = 0 ↔ a = b := by
 unfold cmpZ
 split
 ·constructor
  ·intro h; cases h
  ·intro h; omega
 ·split
  ·constructor
   ·intro h; cases h
   ·intro h; omega
  ·constructor
   ·intro _; omega
   ·intro _; rfl
theorem bytes_eq : ∀ (a b : List UInt8), Lib.compareBytes a b = 0 ↔ a = b
 | [], [] => by simp [Lib.compareBytes]
 | [], _ :: _ => by simp [Lib.compareBytes]
 | _ :: _, [] => by simp [Lib.compareBytes]
 | a :: r, b :: q => by
  rw [Lib.compareBytes]
  by_cases h1 : a < b
  ·rw [if_pos h1]
   constructor
   ·intro h; cases h
   ·intro h
    injection h with h
    subst h
    exact absurd h1 (by simp)
  ·rw [if_neg h1]
   by_cases h2 : b < a
   ·rw [if_pos h2]
    constructor
    ·intro h; cases h
    ·intro h
     injection h with h
     subst h
     exact absurd h2 (by simp)
   ·rw [if_neg h2, bytes_eq r q]
    have : a = b := by
     have h3 : ¬ a.toNat < b.toNat := h1
     have h4 : ¬ b.toNat < a.toNat := h2
     exact UInt8.toNat_inj.1 (by omega)
    subst this
    simp
set_option maxHeartbeats 2000000 in
theorem nan_int (w : World) (x : Int) : Calls Tryz.prog 102 #[.int .i64 x] w fun e w' => e = .returned (.bool false) ∧ w = w' := by
 have h : (x != x) = false := bne_self_eq_false _
 go_enter Tryz.func102, Tryz.ntmps102
 go_wp2_with fail
 go_ret
 exact ⟨rfl, rfl⟩
set_option maxHeartbeats 2000000 in
theorem nan_i64 (w : World) (x : Int) : Calls Tryz.prog 368 #[.int .i64 x] w fun e w' => e = .returned (.bool false) ∧ w = w' := by
 have h : (x != x) = false := bne_self_eq_false _
 go_enter Tryz.func368, Tryz.ntmps368
 go_wp2_with fail
 go_ret
 exact ⟨rfl, rfl⟩
set_option maxHeartbeats 2000000 in
theorem cmp_int (w : World) (x y : Int) : Calls Tryz.prog 39 #[.int .i64 x, .int .i64 y] w fun e w' => e = .returned (.int .i64 (cmpZ x y)) ∧ w = w' := by
 unfold cmpZ
 by_cases h1 : x < y
 ·rw [if_pos h1]
  go_enter Tryz.func39, Tryz.ntmps39
  go_wp2_with (go_at_call 102; refine (nan_int _ _).mono ?_; rintro e w1 ⟨rfl, rfl⟩)
  go_ret
  exact ⟨rfl, rfl⟩
 ·rw [if_neg h1]
  by_cases h2 : y < x
  ·rw [if_pos h2]
   go_enter Tryz.func39, Tryz.ntmps39
   go_wp2_with (go_at_call 102; refine (nan_int _ _).mono ?_; rintro e w1 ⟨rfl, rfl⟩)
   go_ret
   exact ⟨rfl, rfl⟩
  ·rw [if_neg h2]
   go_enter Tryz.func39, Tryz.ntmps39
   go_wp2_with (go_at_call 102; refine (nan_int _ _).mono ?_; rintro e w1 ⟨rfl, rfl⟩)
   go_ret
   exact ⟨rfl, rfl⟩
set_option maxHeartbeats 2000000 in
theorem cmp_i64 (w : World) (x y : Int) : Calls Tryz.prog 340 #[.int .i64 x, .int .i64 y] w fun e w' => e = .returned (.int .i64 (cmpZ x y)) ∧ w = w' := by
 unfold cmpZ
 by_cases h1 : x < y
 ·rw [if_pos h1]
  go_enter Tryz.func340, Tryz.ntmps340
  go_wp2_with (go_at_call 368; refine (nan_i64 _ _).mono ?_; rintro e w1 ⟨rfl, rfl⟩)
  go_ret
  exact ⟨rfl, rfl⟩
 ·rw [if_neg h1]
  by_cases h2 : y < x
  ·rw [if_pos h2]
   go_enter Tryz.func340, Tryz.ntmps340
   go_wp2_with (go_at_call 368; refine (nan_i64 _ _).mono ?_; rintro e w1 ⟨rfl, rfl⟩)
   go_ret
   exact ⟨rfl, rfl⟩
  ·rw [if_neg h2]
   go_enter Tryz.func340, Tryz.ntmps340
   go_wp2_with (go_at_call 368; refine (nan_i64 _ _).mono ?_; rintro e w1 ⟨rfl, rfl⟩)
   go_ret
   exact ⟨rfl, rfl⟩
set_option maxHeartbeats 4000000 in
theorem heads_any (w : World) (x y : TV) : Calls Tryz.prog 303 #[tvV x, tvV y] w fun e w' => ∃ c : Int, e = .returned (.int .i64 c) ∧ (c = 0 ↔ x.k = y.k ∧ x.len = y.len ∧ x.n = y.n ∧ x.s = y.s) ∧ Below w.heap.size w w' := by
 obtain ⟨P, hP⟩ : ∃ P : Ending → World → Prop, P = fun e w' => ∃ c : Int, e = .returned (.int .i64 c) ∧ (c = 0 ↔ x.k = y.k ∧ x.len = y.len ∧ x.n = y.n ∧ x.s = y.s) ∧ Below w.heap.size w w' := ⟨_, rfl⟩
 rw [← hP]
 have HP := Lib.hid hP
 clear hP
 obtain ⟨xk, xn, xs, xA, xl, xc⟩ := x
 obtain ⟨yk, yn, ys, yA, yl, yc⟩ := y
 simp only at HP
 obtain ⟨U, hU⟩ : ∃ U, U = (w.alloc (.cells #[.int .i64 xk, .int .i64 xn, .string ⟨xs.toArray⟩, .slice xA xl xc] 27)).alloc (.cells #[.int .i64 yk, .int .i64 yn, .string ⟨ys.toArray⟩, .slice yA yl yc] 27) := ⟨_, rfl⟩
 have HB : Hid (Below w.heap.size w U) := Lib.hid (by rw [hU]; exact ((Below.refl _ _).alloc (Nat.le_refl _) _).alloc (by simp) _)
 have hx : U.heap[w.heap.size]? = some (.cells #[.int .i64 xk, .int .i64 xn, .string ⟨xs.toArray⟩, .slice xA xl xc] 27 (0, 0)) := by
  rw [hU, Below.heap_alloc _ _ _ (by simp)]
  exact heap_alloc_new _ _
 have hy : U.heap[w.heap.size + 1]? = some (.cells #[.int .i64 yk, .int .i64 yn, .string ⟨ys.toArray⟩, .slice yA yl yc] 27 (0, 0)) := by
  rw [hU]
  have := heap_alloc_new (w.alloc (.cells #[.int .i64 xk, .int .i64 xn, .string ⟨xs.toArray⟩, .slice xA xl xc] 27)) (.cells #[.int .i64 yk, .int .i64 yn, .string ⟨ys.toArray⟩, .slice yA yl yc] 27)
  rwa [World.size_alloc] at this
 obtain ⟨x0, x1, x2, x3, -⟩ := four_at hx
 obtain ⟨y0, y1, y2, y3, -⟩ := four_at hy
 have hlx : w.heap.size < U.heap.size := (Array.getElem?_eq_some_iff.1 hx).1
 have hly : w.heap.size + 1 < U.heap.size := (Array.getElem?_eq_some_iff.1 hy).1
 have HF : Hid (∀ c : Int, (c = 0 ↔ xk = yk ∧ xl = yl ∧ xn = yn ∧ xs = ys) → P (.returned (.int .i64 c)) U) := Lib.hid fun c hc => by
  rw [HP.out]
  exact ⟨c, rfl, hc, HB.out⟩
 clear hx hy
 unfold tvV
 by_cases hk : xk = yk
 case neg =>
  have b1 : (cmpZ xk yk == 0) = false := beq_eq_false_iff_ne.2 fun e => hk ((cmpZ_eq _ _).1 e)
  have HQ := Lib.hid (HF.out (cmpZ xk yk) ⟨fun e => absurd ((cmpZ_eq _ _).1 e) hk, fun e => absurd e.1 hk⟩)
  clear hk
  go_enter Tryz.func303, Tryz.ntmps303
  go_upto_region 1 with fail
  rw [← hU]
  clear hU
  go_wp2_with (first | (go_at_call 39; refine (cmp_int _ _ _).mono ?_; rintro e w1 ⟨rfl, rfl⟩) | (go_at_call 340; refine (cmp_i64 _ _ _).mono ?_; rintro e w1 ⟨rfl, rfl⟩) | (go_at_call 38; refine (Tryz.strings_Compare ⟨xs.toArray⟩ ⟨ys.toArray⟩ _).mono ?_; rintro e w1 ⟨rfl, h9⟩; subst h9))
  exact HQ.out
 have b1 : (cmpZ xk yk == 0) = true := beq_iff_eq.2 ((cmpZ_eq _ _).2 hk)
 by_cases hl : xl = yl
 case neg =>
  have b2 : (cmpZ (xl : Int) (yl : Int) == 0) = false := beq_eq_false_iff_ne.2 fun e => hl (by have := (cmpZ_eq _ _).1 e; omega)
  have HQ := Lib.hid (HF.out (cmpZ (xl : Int) (yl : Int)) ⟨fun e => absurd (by have := (cmpZ_eq _ _).1 e; omega) hl, fun e => absurd e.2.1 hl⟩)
  clear hk hl
  go_enter Tryz.func303, Tryz.ntmps303
  go_upto_region 1 with fail
  rw [← hU]
  clear hU
  go_wp2_with (first | (go_at_call 39; refine (cmp_int _ _ _).mono ?_; rintro e w1 ⟨rfl, rfl⟩) | (go_at_call 340; refine (cmp_i64 _ _ _).mono ?_; rintro e w1 ⟨rfl, rfl⟩) | (go_at_call 38; refine (Tryz.strings_Compare ⟨xs.toArray⟩ ⟨ys.toArray⟩ _).mono ?_; rintro e w1 ⟨rfl, h9⟩; subst h9))
  exact HQ.out
 have b2 : (cmpZ (xl : Int) (yl : Int) == 0) = true := beq_iff_eq.2 ((cmpZ_eq _ _).2 (by rw [hl]))
 by_cases hn : xn = yn
 case neg =>
  have b3 : (cmpZ xn yn == 0) = false := beq_eq_false_iff_ne.2 fun e => hn ((cmpZ_eq _ _).1 e)
  have HQ := Lib.hid (HF.out (cmpZ xn yn) ⟨fun e => absurd ((cmpZ_eq _ _).1 e) hn, fun e => absurd e.2.2.1 hn⟩)
  clear hk hl hn
  go_enter Tryz.func303, Tryz.ntmps303
  go_upto_region 1 with fail
  rw [← hU]
  clear hU
  go_wp2_with (first | (go_at_call 39; refine (cmp_int _ _ _).mono ?_; rintro e w1 ⟨rfl, rfl⟩) | (go_at_call 340; refine (cmp_i64 _ _ _).mono ?_; rintro e w1 ⟨rfl, rfl⟩) | (go_at_call 38; refine (Tryz.strings_Compare ⟨xs.toArray⟩ ⟨ys.toArray⟩ _).mono ?_; rintro e w1 ⟨rfl, h9⟩; subst h9))
  exact HQ.out
 have b3 : (cmpZ xn yn == 0) = true := beq_iff_eq.2 ((cmpZ_eq _ _).2 hn)
 have HQ := Lib.hid (HF.out (Lib.compareBytes xs ys) ⟨fun e => ⟨hk, hl, hn, (bytes_eq _ _).1 e⟩, fun e => (bytes_eq _ _).2 e.2.2.2⟩)
 clear hk hl hn
 go_enter Tryz.func303, Tryz.ntmps303
 go_upto_region 1 with fail
 rw [← hU]
 clear hU
 go_wp2_with (first | (go_at_call 39; refine (cmp_int _ _ _).mono ?_; rintro e w1 ⟨rfl, rfl⟩) | (go_at_call 340; refine (cmp_i64 _ _ _).mono ?_; rintro e w1 ⟨rfl, rfl⟩) | (go_at_call 38; refine (Tryz.strings_Compare ⟨xs.toArray⟩ ⟨ys.toArray⟩ _).mono ?_; rintro e w1 ⟨rfl, h9⟩; subst h9))
 exact HQ.out
end Go.Proofs.YtjdnigepnfeboaaGreatDoor
