import Derived.Test.YtjdnigepnfeboaaGreatDoorJG03
import Derived.Laws.DeepStrings4
import Derived.Deep.DeepCutAuto
namespace Go.Proofs.YtjdnigepnfeboaaGreatDoor
def bsortI (c : Int) : Int :=
 if (9 ≤ c ∧ c ≤ 13) ∨ c = 32 then 1
 else if 97 ≤ c ∧ c ≤ 122 then 2
 else if (65 ≤ c ∧ c ≤ 90) ∨ c = 95 then 3
 else if 48 ≤ c ∧ c ≤ 57 then 4
 else if c = 43 ∨ c = 45 ∨ c = 42 ∨ c = 47 ∨ c = 92 ∨ c = 94 ∨ c = 60 ∨ c = 62 ∨ c = 61 ∨ c = 126 ∨ c = 58 ∨ c = 46 ∨ c = 63 ∨ c = 64 ∨ c = 35 ∨ c = 38 ∨ c = 36 then 5
 else if c = 33 ∨ c = 59 then 6
 else if c = 40 ∨ c = 41 ∨ c = 91 ∨ c = 93 ∨ c = 123 ∨ c = 125 ∨ c = 44 ∨ c = 124 ∨ c = 37 then 7
 else if c = 39 ∨ c = 34 ∨ c = 96 then 8
 else 0
def bsort (c : UInt8) : Int := bsortI c.toNat
structure Tok where
 kind : Int
 line : Int
 n : Int
 s : List UInt8
 opn : Bool
 tight : Bool
def spanN (p : UInt8 → Bool) (l : List UInt8) : Nat := (l.takeWhile p).length
structure TokIs where
 kind : Int
 n : Int
 s : List UInt8
 len : Nat
def endOf : List UInt8 → Option Nat
 | [] => none
 | c :: r => if c = 42 ∧ r.head? = some 47 then some 0 else (endOf r).map (· + 1)
def skipF : Nat → List UInt8 → List UInt8 × Bool
 | 0, l => (l, true)
 | _ + 1, [] => ([], true)
 | f + 1, c :: r =>
  if bsort c = 1 then skipF f r
  else if c = 37 then skipF f (r.drop (spanN (fun c => decide (c ≠ 10)) r))
  else if c = 47 ∧ r.head? = some 42 then
   match endOf r.tail with
   | none => (c :: r, false)
   | some n => skipF f (r.tail.drop (n + 2))
  else (c :: r, true)
def lines (l : List UInt8) : Nat := l.count 10
open Go.RowKit
set_option maxRecDepth 100000
theorem byte_ne {c d : UInt8} (h : c ≠ d) : ((c.toNat : Int) == (d.toNat : Int)) = false := by
 rw [beq_eq_false_iff_ne]
 intro e
 exact h (UInt8.toNat_inj.1 (by omega))
theorem byte_at (l : List UInt8) (k : Nat) (h : k < l.length) : ∃ c, l.drop k = c :: l.drop (k + 1) ∧ (⟨l.toArray⟩ : ByteArray)[k]'(by show k < l.toArray.size; simpa using h) = c ∧ l[k]? = some c :=
 ⟨l[k], List.drop_eq_getElem_cons h, rfl, List.getElem?_eq_getElem h⟩
open Go.RowKit Go.Maps
theorem slice_end (l : List UInt8) (k : Nat) : (⟨l.toArray⟩ : ByteArray).extract k l.length = ⟨(l.drop k).toArray⟩ := by
 apply ByteArray.ext
 rw [ByteArray.data_extract]
 apply Array.ext'
 rw [Array.toList_extract]
 simp only [List.extract]
 rw [List.take_of_length_le (by simp)]
theorem slice_mid (l : List UInt8) (a b : Nat) : (⟨l.toArray⟩ : ByteArray).extract a b = ⟨((l.drop a).take (b - a)).toArray⟩ := by
 apply ByteArray.ext
 rw [ByteArray.data_extract]
 apply Array.ext'
 rw [Array.toList_extract]
def encBy (c : UInt8) : List Value := [.int .u8 (c.toNat : Int)]
theorem encB_len (c : UInt8) : (encBy c).length = 1 := rfl
theorem Row.string {P : Program} {w : World} {B : Nat} {src dst e : TypeId} (hs : P.underlying src = some (.slice e)) (he : P.underlying e = some (.int .u8)) (hd : P.underlying dst = some .string)
    {v : Value} {l : List UInt8} (h : Row w B e 1 encBy v l) : (convert src dst v).run P w = .ok (.string ⟨l.toArray⟩) w := by
 rcases Classical.em (l = []) with rfl | hne
 ·obtain ⟨A, cap, rfl⟩ := h.shape
  cases A with
  | none => exact run_convert_bytes_nil w src e hs he _ _ dst hd
  | some a => exact run_convert_bytes_back w src dst e a cap [] hs he hd (fun j hj => by simp at hj)
 ·obtain ⟨g, cap, rfl, _, _, _, hc⟩ := h.cells encB_len hne
  refine run_convert_bytes_back w src dst e _ cap l hs he hd (fun j hj => ?_)
  have := (hc j l[j] (List.getElem?_eq_getElem hj) 0 _ rfl).1
  have hplain : (⟨g, 0, none⟩ : Addr).add j = ⟨g, j, none⟩ := by unfold Addr.add; split <;> simp_all
  rw [hplain]
  simpa using this
theorem cell_alloc1 (w : World) (cs : Array Value) (t : TypeId) (i : Nat) (u : Value) (h : cs[i]? = some u) : (w.alloc (.cells cs t)).cell? ⟨w.heap.size, i, none⟩ = some u := by
 rw [World.cell?_alloc_at _ _ _ _ rfl]
 exact h
section
variable {q c : UInt8} {f i k : Nat} {l r b : List UInt8}
end
end Go.Proofs.YtjdnigepnfeboaaGreatDoor
namespace Go.Proofs.YtjdnigepnfeboaaGreatDoor
open Go.RowKit
set_option maxRecDepth 100000
def tokV (t : TokIs) : Value := .agg #[.int .i64 t.kind, .int .i64 0, .int .i64 t.n, .string ⟨t.s.toArray⟩, .bool false, .bool false]
def tryV : Option (Option TokIs) → Value
 | none => .tuple #[tokV ⟨0, 0, [], 0⟩, .int .i64 0, .int .i64 0]
 | some none => .tuple #[tokV ⟨0, 0, [], 0⟩, .int .i64 0, .int .i64 5]
 | some (some t) => .tuple #[tokV t, .int .i64 (t.len : Int), .int .i64 0]
inductive Suf : List UInt8 → TokIs → Prop
 | a0 : Suf [112, 40, 88, 41, 32, 46] ⟨1, 0, [112], 1⟩
 | a1 : Suf [40, 88, 41, 32, 46] ⟨6, 0, [40], 1⟩
 | a2 : Suf [88, 41, 32, 46] ⟨4, 0, [88], 1⟩
 | a3 : Suf [41, 32, 46] ⟨6, 0, [41], 1⟩
 | a4 : Suf [46] ⟨7, 0, [], 1⟩
 | b0 : Suf [112, 40, 49, 41, 46, 32, 112, 40, 50, 41, 46] ⟨1, 0, [112], 1⟩
 | b1 : Suf [40, 49, 41, 46, 32, 112, 40, 50, 41, 46] ⟨6, 0, [40], 1⟩
 | b2 : Suf [49, 41, 46, 32, 112, 40, 50, 41, 46] ⟨3, 1, [], 1⟩
 | b3 : Suf [41, 46, 32, 112, 40, 50, 41, 46] ⟨6, 0, [41], 1⟩
 | b4 : Suf [46, 32, 112, 40, 50, 41, 46] ⟨7, 0, [], 1⟩
 | b6 : Suf [112, 40, 50, 41, 46] ⟨1, 0, [112], 1⟩
 | b7 : Suf [40, 50, 41, 46] ⟨6, 0, [40], 1⟩
 | b8 : Suf [50, 41, 46] ⟨3, 2, [], 1⟩
 | b9 : Suf [41, 46] ⟨6, 0, [41], 1⟩
theorem sort_c (w : World) (b : UInt8) (k : Int) (h : (b = 112 ∧ k = 2) ∨ (b = 88 ∧ k = 3) ∨ (b = 49 ∧ k = 4) ∨ (b = 50 ∧ k = 4) ∨ (b = 40 ∧ k = 7) ∨ (b = 41 ∧ k = 7) ∨ (b = 46 ∧ k = 5) ∨ (b = 32 ∧ k = 1)) : Calls Tryz.prog 103 #[.int .u8 b.toNat] w fun e w' => e = .returned (.int .i64 k) ∧ w' = w := by
 rcases h with ⟨rfl, rfl⟩ | ⟨rfl, rfl⟩ | ⟨rfl, rfl⟩ | ⟨rfl, rfl⟩ | ⟨rfl, rfl⟩ | ⟨rfl, rfl⟩ | ⟨rfl, rfl⟩ | ⟨rfl, rfl⟩
 all_goals
  show Calls _ _ #[.int .u8 _] _ _
  go_enter Tryz.func103, Tryz.ntmps103
  go_wp2_with fail
  go_ret
  exact ⟨rfl, rfl⟩
theorem digit_c (w : World) (b : UInt8) (k : Int) (h : (b = 49 ∧ k = 1) ∨ (b = 50 ∧ k = 2) ∨ (b = 41 ∧ k = 36)) : Calls Tryz.prog 277 #[.int .u8 b.toNat] w fun e w' => e = .returned (.int .i64 k) ∧ w' = w := by
 rcases h with ⟨rfl, rfl⟩ | ⟨rfl, rfl⟩ | ⟨rfl, rfl⟩
 all_goals
  show Calls _ _ #[.int .u8 _] _ _
  go_enter Tryz.func277, Tryz.ntmps277
  go_wp2_with fail
  go_ret
  exact ⟨rfl, rfl⟩
theorem parse_c (w : World) (s : ByteArray) (v e : Int) (h : (s = ⟨#[49]⟩ ∧ v = 1 ∧ e = 0) ∨ (s = ⟨#[50]⟩ ∧ v = 2 ∧ e = 0) ∨ (s = ⟨#[41]⟩ ∧ v = 0 ∧ e = 6)) : Calls Tryz.prog 200 #[.string s, .int .i64 10] w fun x w' => x = .returned (.tuple #[.int .i64 v, .int .i64 e]) ∧ w' = w := by
 rcases h with ⟨rfl, hv, he⟩ | ⟨rfl, hv, he⟩ | ⟨rfl, hv, he⟩
 all_goals
  have HV := Lib.hid (And.intro hv he)
  clear hv he
  go_enter Tryz.func200, Tryz.ntmps200
  go_wp2_with fail
  go_loop [6, 7, 8] (fun x o i => o = .bool false ∧ ((i = .int .i64 0 ∧ x = .int .u64 0) ∨ (i = .int .i64 1 ∧ x = .int .u64 v ∧ Hid (e = 0)))) (fun _ _ i => 1 - (intOf i).toNat)
  case atStart => exact ⟨rfl, .inl ⟨rfl, rfl⟩⟩
  case round =>
   obtain ⟨rfl, ⟨rfl, rfl⟩ | ⟨rfl, rfl, HE⟩⟩ := hrel
   ·go_wp2_with fail
    first
     | refine (digit_c _ _ 1 (by decide)).mono ?_
     | refine (digit_c _ _ 2 (by decide)).mono ?_
     | refine (digit_c _ _ 36 (by decide)).mono ?_
    rintro y w1 ⟨rfl, rfl⟩
    go_wp2_with fail
    first
     | exact ⟨⟨rfl, .inr ⟨rfl, by rw [HV.out.1], Lib.hid HV.out.2⟩⟩, by decide⟩
     | (go_ret2
        exact ⟨by rw [HV.out.1, HV.out.2]; rfl, rfl⟩)
   ·have hv := HV.out
    rw [HE.out] at hv
    first
     | exact absurd hv.2 (by decide)
     | (obtain ⟨rfl, -⟩ := hv
        go_wp2_with fail
        go_ret2
        exact ⟨by rw [HE.out]; rfl, rfl⟩)
theorem word_c (w : World) (s : List UInt8) (t : TokIs) (h : Suf s t) (ht : t.kind = 1 ∨ t.kind = 4) : Calls Tryz.prog 104 #[.string ⟨s.toArray⟩] w fun e w' => e = .returned (.int .i64 1) ∧ w' = w := by
 cases h <;> first | (exact absurd ht (by decide)) | skip
 all_goals
  clear ht
  go_enter Tryz.func104, Tryz.ntmps104
  go_wp2_with fail
  go_loop [3] (fun i => i = .int .i64 0 ∨ i = .int .i64 1) (fun i => 1 - (intOf i).toNat)
  case atStart => exact .inl rfl
  case round =>
   rcases hrel with rfl | rfl
   ·go_wp2_with fail
    first
     | refine (sort_c _ _ 2 (by decide)).mono ?_
     | refine (sort_c _ _ 3 (by decide)).mono ?_
    rintro y w1 ⟨rfl, rfl⟩
    go_wp2_with fail
    exact ⟨.inr rfl, by decide⟩
   ·go_wp2_with fail
    refine (sort_c _ _ 7 (by decide)).mono ?_
    rintro y w1 ⟨rfl, rfl⟩
    go_wp2_with fail
    go_ret
    exact ⟨rfl, rfl⟩
end Go.Proofs.YtjdnigepnfeboaaGreatDoor
