import Derived.Test.YtiffopheamnngaaGreatDoorJT36
import Derived.Deep.RegionHeld3
import Derived.Shelf.Small.Strs
import Derived.Shelf.Strings.Shaped
import Derived.Shelf.Strings.Prefix
namespace Go.Proofs.YtiffopheamnngaaGreatDoor
open Go.RowKit
set_option maxRecDepth 100000
theorem below_two' {w u w1 : World} {o1 o2 : Obj} (hb : Below u.heap.size u w1) (hu : u.heap = ((w.alloc o1).alloc o2).heap) : w1.heap[w.heap.size]? = some o1 ∧ w1.heap[w.heap.size + 1]? = some o2 := by
 have e1 : u.heap.size = w.heap.size + 1 + 1 := by rw [hu]; simp
 have e2 : (w.alloc o1).heap.size = w.heap.size + 1 := by simp
 refine ⟨?_, ?_⟩
 ·rw [hb.block _ (by omega), hu, Below.heap_alloc _ _ _ (by omega)]
  exact heap_alloc_new w o1
 ·rw [hb.block _ (by omega), hu, ← e2]
  exact heap_alloc_new (w.alloc o1) o2
theorem below_one' {w u w1 : World} {o1 : Obj} (hb : Below u.heap.size u w1) (hu : u.heap = (w.alloc o1).heap) : w1.heap[w.heap.size]? = some o1 := by
 have e1 : u.heap.size = w.heap.size + 1 := by rw [hu]; simp
 rw [hb.block _ (by omega), hu]
 exact heap_alloc_new w o1
set_option maxHeartbeats 2000000 in
theorem stop_any (w : World) (xv : Value) (l : List UInt8) (c : UInt8) (r : List UInt8) (hlc : l = c :: r) (hl : (l.length : Int) ≤ 1000000) :
    Calls Tryz.prog 18 #[xv, .string ⟨l.toArray⟩] w fun e w' => e = .returned (tryV (if c = 46 ∧ (r = [] ∨ r.headD 0 = 37 ∨ bsort (r.headD 0) = 1) then some (some ⟨7, 0, [], 1⟩) else none)) ∧ Below w.heap.size w w' := by
 have hlen : 0 < l.length := by rw [hlc]; simp
 have hx : (⟨l.toArray⟩ : ByteArray)[0]'(by show 0 < l.toArray.size; simpa using hlen) = c := by subst hlc; rfl
 by_cases h46 : c = 46
 ·have t46 : ((c.toNat : Int) == 46) = true := byte_eq h46
  by_cases h1 : (l.length : Int) = 1
  ·have t1 : ((l.length : Int) == 1) = true := by rw [h1]; rfl
   rw [if_pos ⟨h46, .inl (List.eq_nil_of_length_eq_zero (by rw [hlc] at h1; simp at h1; omega))⟩]
   clear h1 h46 hlc
   go_enter Tryz.func18, Tryz.ntmps18
   go_wp2_with fail
   refine bodyPost_ret (v := tryV (some (some ⟨7, 0, [], 1⟩))) (by simp [results, Tryz.results18, go_sem, tryV, tokV]) rfl ⟨rfl, ?_⟩
   repeat (refine Below.setCell ?_ (by simp) _)
   exact (Below.refl _ _).alloc (Nat.le_refl _) _
  ·have t1 : ((l.length : Int) == 1) = false := beq_eq_false_iff_ne.2 h1
   have h1l : 1 < l.length := by omega
   have h1' : (1 : Int) < (l.length : Int) := by omega
   obtain ⟨d, hd, hx1, -⟩ := byte_at l 1 h1l
   have hr : r = d :: l.drop (1 + 1) := by rw [← hd, hlc]; rfl
   have hrd : r.headD 0 = d := by rw [hr]; rfl
   have hrn : r ≠ [] := by rw [hr]; simp
   rw [hrd]
   clear hr hrd hd h1
   by_cases h37 : d = 37
   ·have t37 : ((d.toNat : Int) == 37) = true := byte_eq h37
    rw [if_pos ⟨h46, .inr (.inl h37)⟩]
    clear h37 h46 hlc hrn
    go_enter Tryz.func18, Tryz.ntmps18
    go_wp2_with fail
    refine bodyPost_ret (v := tryV (some (some ⟨7, 0, [], 1⟩))) (by simp [results, Tryz.results18, go_sem, tryV, tokV]) rfl ⟨rfl, ?_⟩
    repeat (refine Below.setCell ?_ (by simp) _)
    exact (Below.refl _ _).alloc (Nat.le_refl _) _
   ·have t37 : ((d.toNat : Int) == 37) = false := byte_ne h37
    by_cases hb : bsort d = 1
    ·rw [if_pos ⟨h46, .inr (.inr hb)⟩]
     clear h37 h46 hlc hrn
     go_enter Tryz.func18, Tryz.ntmps18
     go_wp2_with fail
     refine (sort_byte _ d).mono ?_
     rintro e w' ⟨rfl, rfl⟩
     go_wp2_with fail
     refine bodyPost_ret (v := tryV (some (some ⟨7, 0, [], 1⟩))) (by simp [results, Tryz.results18, go_sem, tryV, tokV]) rfl ⟨rfl, ?_⟩
     repeat (refine Below.setCell ?_ (by simp) _)
     exact (Below.refl _ _).alloc (Nat.le_refl _) _
    ·have tb : (bsort d == 1) = false := beq_eq_false_iff_ne.2 hb
     rw [if_neg (fun h => h.2.elim hrn (fun h => h.elim h37 hb))]
     clear h37 h46 hlc hrn hb
     go_enter Tryz.func18, Tryz.ntmps18
     go_wp2_with fail
     refine (sort_byte _ d).mono ?_
     rintro e w' ⟨rfl, rfl⟩
     go_wp2_with fail
     refine bodyPost_ret (v := tryV none) (by simp [results, Tryz.results18, go_sem, tryV, tokV]) rfl ⟨rfl, ?_⟩
     repeat (refine Below.setCell ?_ (by simp) _)
     exact (Below.refl _ _).alloc (Nat.le_refl _) _
 ·have t46 : ((c.toNat : Int) == 46) = false := byte_ne h46
  rw [if_neg (fun h => h46 h.1)]
  clear h46 hlc
  go_enter Tryz.func18, Tryz.ntmps18
  go_wp2_with fail
  refine bodyPost_ret (v := tryV none) (by simp [results, Tryz.results18, go_sem, tryV, tokV]) rfl ⟨rfl, ?_⟩
  repeat (refine Below.setCell ?_ (by simp) _)
  exact (Below.refl _ _).alloc (Nat.le_refl _) _
set_option maxHeartbeats 2000000 in
theorem quoted_any (w : World) (xv : Value) (l : List UInt8) (c : UInt8) (r : List UInt8) (hlc : l = c :: r) (hl : (l.length : Int) ≤ 1000000) :
    Calls Tryz.prog 22 #[xv, .string ⟨l.toArray⟩] w fun e w' => e = .returned (tryV (if c = 39 then some ((getQ 39 r).map fun x => ⟨2, 0, x.1, x.2 + 1⟩) else if c = 34 then some ((getQ 34 r).map fun x => ⟨5, 0, x.1, x.2 + 1⟩) else none)) ∧ Below w.heap.size w w' := by
 have hlen : 0 < l.length := by rw [hlc]; simp
 have hx : (⟨l.toArray⟩ : ByteArray)[0]'(by show 0 < l.toArray.size; simpa using hlen) = c := by subst hlc; rfl
 have hs : (⟨l.toArray⟩ : ByteArray).extract 1 l.length = ⟨r.toArray⟩ := by rw [slice_end, hlc]; rfl
 have hrl : (r.length : Int) + 1 ≤ 1000000 := by rw [hlc] at hl; simpa using hl
 have hl1 : (1 : Int) ≤ (l.length : Int) := by omega
 clear hlc
 by_cases h39 : c = 39
 ·rw [if_pos h39]
  subst h39
  have hbd : ∀ x, getQ 39 r = some x → x.2 ≤ r.length := fun x h => getQ_le h
  have HBD := Lib.hid hbd
  clear hbd
  cases hG : getQ 39 r with
  | none =>
   have HG := Lib.hid hG
   clear hG
   simp only [Option.map_none]
   go_enter Tryz.func22, Tryz.ntmps22
   go_wp2_with fail
   go_region_held3 (fun _ => True) (trivial) (first | (go_at_call 47; refine (get_any _ r 39 39 rfl (by omega)).mono ?_; rintro e w1 ⟨rfl, hb⟩; rw [HG.out]; simp only [getRes]))
   obtain ⟨hA, hB⟩ := below_two' (w := w) hb rfl
   obtain ⟨⟨a0, a1, a2, a3, a4, a5⟩, hfa⟩ := six_cells hA
   obtain ⟨⟨b0, b1, b2, b3, b4, b5⟩, hfb⟩ := six_cells hB
   have hz : w.heap.size + 2 ≤ w1.heap.size := by have := hb.size; simp at this; omega
   have HB := Lib.hid hb
   clear hb hA hB
   go_wp2_with fail
   refine bodyPost_ret (v := tryV (some none)) (by simp [results, Tryz.results22, go_sem, tryV, tokV, a0, a1, a2, a3, a4, a5]) rfl ⟨rfl, ?_⟩
   repeat (refine Below.setCell ?_ (by simp) _)
   exact ((((Below.refl _ _).alloc (Nat.le_refl _) _).alloc (by simp) _).drew.trans (HB.out.mono (by simp; omega)))
  | some x =>
   obtain ⟨x1, x2⟩ := x
   have HG := Lib.hid hG
   have hx2 := HBD.out _ hG
   simp only at hx2
   have hx2' : (x2 : Int) ≤ 1000000 := by omega
   clear hG hx2
   simp only [Option.map_some]
   go_enter Tryz.func22, Tryz.ntmps22
   go_wp2_with fail
   go_region_held3 (fun _ => True) (trivial) (first | (go_at_call 47; refine (get_any _ r 39 39 rfl (by omega)).mono ?_; rintro e w1 ⟨rfl, hb⟩; rw [HG.out]; simp only [getRes]))
   obtain ⟨hA, hB⟩ := below_two' (w := w) hb rfl
   obtain ⟨⟨a0, a1, a2, a3, a4, a5⟩, hfa⟩ := six_cells hA
   obtain ⟨⟨b0, b1, b2, b3, b4, b5⟩, hfb⟩ := six_cells hB
   have hz : w.heap.size + 2 ≤ w1.heap.size := by have := hb.size; simp at this; omega
   have HB := Lib.hid hb
   clear hb hA hB
   go_wp2_with fail
   refine bodyPost_ret (v := tryV (some (some ⟨2, 0, x1, x2 + 1⟩))) (by simp [results, Tryz.results22, go_sem, tryV, tokV, a0, a1, a2, a3, a4, a5]) rfl ⟨rfl, ?_⟩
   repeat (refine Below.setCell ?_ (by simp) _)
   exact ((((Below.refl _ _).alloc (Nat.le_refl _) _).alloc (by simp) _).drew.trans (HB.out.mono (by simp; omega)))
 rw [if_neg h39]
 have t39 : ((c.toNat : Int) == 39) = false := byte_ne h39
 by_cases h34 : c = 34
 ·rw [if_pos h34]
  subst h34
  have hbd : ∀ x, getQ 34 r = some x → x.2 ≤ r.length := fun x h => getQ_le h
  have HBD := Lib.hid hbd
  clear hbd
  cases hG : getQ 34 r with
  | none =>
   have HG := Lib.hid hG
   clear hG
   simp only [Option.map_none]
   go_enter Tryz.func22, Tryz.ntmps22
   go_wp2_with fail
   go_region_held3 (fun _ => True) (trivial) (first | (go_at_call 47; refine (get_any _ r 34 34 rfl (by omega)).mono ?_; rintro e w1 ⟨rfl, hb⟩; rw [HG.out]; simp only [getRes]))
   obtain ⟨hA, hB⟩ := below_two' (w := w) hb rfl
   obtain ⟨⟨a0, a1, a2, a3, a4, a5⟩, hfa⟩ := six_cells hA
   obtain ⟨⟨b0, b1, b2, b3, b4, b5⟩, hfb⟩ := six_cells hB
   have hz : w.heap.size + 2 ≤ w1.heap.size := by have := hb.size; simp at this; omega
   have HB := Lib.hid hb
   clear hb hA hB
   go_wp2_with fail
   refine bodyPost_ret (v := tryV (some none)) (by simp [results, Tryz.results22, go_sem, tryV, tokV, a0, a1, a2, a3, a4, a5]) rfl ⟨rfl, ?_⟩
   repeat (refine Below.setCell ?_ (by simp) _)
   exact ((((Below.refl _ _).alloc (Nat.le_refl _) _).alloc (by simp) _).drew.trans (HB.out.mono (by simp; omega)))
  | some x =>
   obtain ⟨x1, x2⟩ := x
   have HG := Lib.hid hG
   have hx2 := HBD.out _ hG
   simp only at hx2
   have hx2' : (x2 : Int) ≤ 1000000 := by omega
   clear hG hx2
   simp only [Option.map_some]
   go_enter Tryz.func22, Tryz.ntmps22
   go_wp2_with fail
   go_region_held3 (fun _ => True) (trivial) (first | (go_at_call 47; refine (get_any _ r 34 34 rfl (by omega)).mono ?_; rintro e w1 ⟨rfl, hb⟩; rw [HG.out]; simp only [getRes]))
   obtain ⟨hA, hB⟩ := below_two' (w := w) hb rfl
   obtain ⟨⟨a0, a1, a2, a3, a4, a5⟩, hfa⟩ := six_cells hA
   obtain ⟨⟨b0, b1, b2, b3, b4, b5⟩, hfb⟩ := six_cells hB
   have hz : w.heap.size + 2 ≤ w1.heap.size := by have := hb.size; simp at this; omega
   have HB := Lib.hid hb
   clear hb hA hB
   go_wp2_with fail
   refine bodyPost_ret (v := tryV (some (some ⟨5, 0, x1, x2 + 1⟩))) (by simp [results, Tryz.results22, go_sem, tryV, tokV, a0, a1, a2, a3, a4, a5]) rfl ⟨rfl, ?_⟩
   repeat (refine Below.setCell ?_ (by simp) _)
   exact ((((Below.refl _ _).alloc (Nat.le_refl _) _).alloc (by simp) _).drew.trans (HB.out.mono (by simp; omega)))
 rw [if_neg h34]
 have t34 : ((c.toNat : Int) == 34) = false := byte_ne h34
 clear h39 h34
 go_enter Tryz.func22, Tryz.ntmps22
 go_wp2_with fail
 refine bodyPost_ret (v := tryV none) (by simp [results, Tryz.results22, go_sem, tryV, tokV]) rfl ⟨rfl, ?_⟩
 repeat (refine Below.setCell ?_ (by simp) _)
 exact ((Below.refl _ _).alloc (Nat.le_refl _) _).alloc (by simp) _
end Go.Proofs.YtiffopheamnngaaGreatDoor
namespace Go.Proofs
open Go.Shelf
def Tryz.lays137_ren : Go.Shelf.Ren := ⟨fun | 137 => 49 | 217 => 78 | 266 => 103 | n => n, fun | 9 => 9 | 5 => 5 | 3 => 3 | n => n, fun | n => n⟩
theorem Tryz.lays137 : Go.Proofs.Lays.n137 Tryz.prog Tryz.lays137_ren := {
 mixed := by kernel_rfl
 f137 := Tryz.func49.trans (congrArg some (by kernel_rfl))
 f217 := Tryz.func78.trans (congrArg some (by kernel_rfl))
 f266 := Tryz.func103.trans (congrArg some (by kernel_rfl))
 t3 := Tryz.underlying3
 a3 := Tryz.isAgg3
 z3 := Tryz.sizeOf3
 v3 := Tryz.zeroValue3
 t5 := Tryz.underlying5
 a5 := Tryz.isAgg5
 z5 := Tryz.sizeOf5
 v5 := Tryz.zeroValue5
 t9 := Tryz.underlying9
 a9 := Tryz.isAgg9
 z9 := Tryz.sizeOf9
 v9 := Tryz.zeroValue9 }
open Go.RowKit in
theorem Tryz.strings_IndexByte (s : ByteArray) (c : Int) (w : World) :
    Calls Tryz.prog 49 #[.string s, .int .u8 c] w fun e w' => e = .returned (.int .i64 (Lib.indexByte s.data.toList c.toNat.toUInt8)) ∧ w' = w := Any.strings_IndexByte Tryz.lays137 s c w
def Tryz.lays143_ren : Go.Shelf.Ren := ⟨fun | 143 => 51 | 219 => 80 | 217 => 78 | 225 => 104 | 224 => 105 | 267 => 106 | 266 => 103 | 314 => 113 | n => n, fun | 9 => 9 | 3 => 3 | 4 => 4 | 5 => 5 | 46 => 162 | 146 => 179 | 51 => 155 | n => n, fun | 1 => 3 | n => n⟩
theorem Tryz.lays143 : Go.Proofs.Lays.n143 Tryz.prog Tryz.lays143_ren := {
 mixed := by kernel_rfl
 f143 := Tryz.func51.trans (congrArg some (by kernel_rfl))
 f217 := Tryz.func78.trans (congrArg some (by kernel_rfl))
 f219 := Tryz.func80.trans (congrArg some (by kernel_rfl))
 f224 := Tryz.func105.trans (congrArg some (by kernel_rfl))
 f225 := Tryz.func104.trans (congrArg some (by kernel_rfl))
 f266 := Tryz.func103.trans (congrArg some (by kernel_rfl))
 f267 := Tryz.func106.trans (congrArg some (by kernel_rfl))
 f314 := Tryz.func113.trans (congrArg some (by kernel_rfl))
 t3 := Tryz.underlying3
 a3 := Tryz.isAgg3
 z3 := Tryz.sizeOf3
 v3 := Tryz.zeroValue3
 t4 := Tryz.underlying4
 a4 := Tryz.isAgg4
 z4 := Tryz.sizeOf4
 v4 := Tryz.zeroValue4
 t5 := Tryz.underlying5
 a5 := Tryz.isAgg5
 z5 := Tryz.sizeOf5
 v5 := Tryz.zeroValue5
 t9 := Tryz.underlying9
 a9 := Tryz.isAgg9
 z9 := Tryz.sizeOf9
 v9 := Tryz.zeroValue9
 t46 := Tryz.underlying162
 a46 := Tryz.isAgg162
 z46 := Tryz.sizeOf162
 v46 := Tryz.zeroValue162
 t51 := Tryz.underlying155
 a51 := Tryz.isAgg155
 z51 := Tryz.sizeOf155
 v51 := Tryz.zeroValue155
 t146 := Tryz.underlying179
 a146 := Tryz.isAgg179
 z146 := Tryz.sizeOf179
 v146 := Tryz.zeroValue179
 g1 := by kernel_rfl }
open Go.RowKit Go.Lib in
theorem Tryz.strings_Index (s sub : ByteArray) (m : Int) (w : World) (hs : s.size < 4294967281) (hm : w.cell? ⟨3, 0, none⟩ = some (.int .i64 m)) :
    Calls Tryz.prog 51 #[.string s, .string sub] w fun e w' => e = .returned (.int .i64 (Lib.index s.data.toList sub.data.toList)) ∧ w' = w := Any.strings_Index Tryz.lays143 s sub m w hs hm
def Tryz.lays138_ren : Go.Shelf.Ren := ⟨fun | 138 => 77 | 195 => 101 | 218 => 102 | 143 => 51 | 219 => 80 | 217 => 78 | 225 => 104 | 224 => 105 | 267 => 106 | 266 => 103 | 314 => 113 | n => n, fun | 9 => 9 | 3 => 3 | 4 => 4 | 5 => 5 | 0 => 0 | 46 => 162 | 146 => 179 | 51 => 155 | n => n, fun | 1 => 3 | n => n⟩
theorem Tryz.lays138 : Go.Proofs.Lays.n138 Tryz.prog Tryz.lays138_ren := {
 mixed := by kernel_rfl
 f138 := Tryz.func77.trans (congrArg some (by kernel_rfl))
 f143 := Tryz.func51.trans (congrArg some (by kernel_rfl))
 f195 := Tryz.func101.trans (congrArg some (by kernel_rfl))
 f217 := Tryz.func78.trans (congrArg some (by kernel_rfl))
 f218 := Tryz.func102.trans (congrArg some (by kernel_rfl))
 f219 := Tryz.func80.trans (congrArg some (by kernel_rfl))
 f224 := Tryz.func105.trans (congrArg some (by kernel_rfl))
 f225 := Tryz.func104.trans (congrArg some (by kernel_rfl))
 f266 := Tryz.func103.trans (congrArg some (by kernel_rfl))
 f267 := Tryz.func106.trans (congrArg some (by kernel_rfl))
 f314 := Tryz.func113.trans (congrArg some (by kernel_rfl))
 t0 := Tryz.underlying0
 a0 := Tryz.isAgg0
 z0 := Tryz.sizeOf0
 v0 := Tryz.zeroValue0
 t3 := Tryz.underlying3
 a3 := Tryz.isAgg3
 z3 := Tryz.sizeOf3
 v3 := Tryz.zeroValue3
 t4 := Tryz.underlying4
 a4 := Tryz.isAgg4
 z4 := Tryz.sizeOf4
 v4 := Tryz.zeroValue4
 t5 := Tryz.underlying5
 a5 := Tryz.isAgg5
 z5 := Tryz.sizeOf5
 v5 := Tryz.zeroValue5
 t9 := Tryz.underlying9
 a9 := Tryz.isAgg9
 z9 := Tryz.sizeOf9
 v9 := Tryz.zeroValue9
 t46 := Tryz.underlying162
 a46 := Tryz.isAgg162
 z46 := Tryz.sizeOf162
 v46 := Tryz.zeroValue162
 t51 := Tryz.underlying155
 a51 := Tryz.isAgg155
 z51 := Tryz.sizeOf155
 v51 := Tryz.zeroValue155
 t146 := Tryz.underlying179
 a146 := Tryz.isAgg179
 z146 := Tryz.sizeOf179
 v146 := Tryz.zeroValue179
 g1 := by kernel_rfl }
open Go.RowKit Go.Lib in
theorem Tryz.strings_Count_one (s : ByteArray) (c : UInt8) (w : World) :
    Calls Tryz.prog 77 #[.string s, .string ⟨#[c]⟩] w fun e w' => e = .returned (.int .i64 (Lib.countByte s.data.toList c)) ∧ w' = w := Any.strings_Count_one Tryz.lays138 s c w
end Go.Proofs
namespace Go.Proofs
open Go.Shelf
def Tryz.lays99_ren : Go.Shelf.Ren := ⟨fun | 99 => 50 | 206 => 79 | n => n, fun | 9 => 9 | 4 => 4 | 3 => 3 | n => n, fun | n => n⟩
theorem Tryz.lays99 : Go.Proofs.Lays.n99 Tryz.prog Tryz.lays99_ren := {
 mixed := by kernel_rfl
 f99 := Tryz.func50.trans (congrArg some (by kernel_rfl))
 f206 := Tryz.func79.trans (congrArg some (by kernel_rfl))
 t3 := Tryz.underlying3
 a3 := Tryz.isAgg3
 z3 := Tryz.sizeOf3
 v3 := Tryz.zeroValue3
 t4 := Tryz.underlying4
 a4 := Tryz.isAgg4
 z4 := Tryz.sizeOf4
 v4 := Tryz.zeroValue4
 t9 := Tryz.underlying9
 a9 := Tryz.isAgg9
 z9 := Tryz.sizeOf9
 v9 := Tryz.zeroValue9 }
open Go.RowKit Go.Lib in
theorem Tryz.strings_HasPrefix (s p : ByteArray) (w : World) :
    Calls Tryz.prog 50 #[.string s, .string p] w fun e w' => e = .returned (.bool (Lib.hasPrefix s.data.toList p.data.toList)) ∧ w' = w := Any.strings_HasPrefix Tryz.lays99 s p w
end Go.Proofs
