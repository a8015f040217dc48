import Derived.Test.YtjdnigepnfeboaaGreatDoorJG07
import Derived.Shelf.SlSortCmp.NoneTotal
import Derived.Shelf.Strings.Builder1
import Derived.Test.YtjdnigepnfeboaaGreatDoorRows
import Derived.Lib.SmallJoins
namespace Go.Proofs.YtjdnigepnfeboaaGreatDoor
open Go.RowKit
set_option maxRecDepth 100000
theorem tok_cells {w1 : World} {b : Nat} {a0 a1 a2 a3 a4 a5 : Value} {t : TypeId} (h : w1.heap[b]? = some (.cells #[a0, a1, a2, a3, a4, a5] t (0, 0))) :
    w1.cell? ⟨b, 0, none⟩ = some a0 ∧ w1.cell? ⟨b, 1, none⟩ = some a1 ∧ w1.cell? ⟨b, 2, none⟩ = some a2 ∧ w1.cell? ⟨b, 3, none⟩ = some a3 ∧ w1.cell? ⟨b, 4, none⟩ = some a4 ∧ w1.cell? ⟨b, 5, none⟩ = some a5 ∧ ∀ o, w1.frozen? ⟨b, o, none⟩ = false := by
 have hc := fun k => cell_of_row w1 b k _ _ _ h
 exact ⟨(hc 0).trans rfl, (hc 1).trans rfl, (hc 2).trans rfl, (hc 3).trans rfl, (hc 4).trans rfl, (hc 5).trans rfl, fun o => by simp [World.frozen?, h]⟩
abbrev numC (n : Int) : Array Value := #[.int .i64 3, .int .i64 0, .int .i64 n, .string ⟨#[]⟩, .bool false, .bool false]
def numV (n : Int) : Value := .tuple #[.agg #[.int .i64 3, .int .i64 0, .int .i64 n, .string ⟨#[]⟩, .bool false, .bool false], .int .i64 1, .int .i64 0]
theorem num_put (a0 a1 a2 a3 a4 a5 : Value) (n : Int) : putAll #[a0, a1, a2, a3, a4, a5] 0 (numC n).toList = numC n := by kernel_rfl
theorem num_blk {w1 : World} {b : Nat} {a0 a1 a2 a3 a4 a5 : Value} {t : TypeId} (h : w1.heap[b]? = some (.cells #[a0, a1, a2, a3, a4, a5] t (0, 0))) (n : Int) : (w1.setCells b 0 (numC n).toList).heap[b]? = some (.cells (numC n) t (0, 0)) := by
 have := blk_setCells (numC n).toList w1 0 _ h
 rwa [num_put] at this
section
variable (w : World) {s : List UInt8} {t : TokIs} (h : Suf s t)
include h
set_option maxHeartbeats 4000000 in
theorem digits_c (ht : t.kind = 3) : Calls Tryz.prog 105 #[.string ⟨s.toArray⟩, .int .i64 0, .int .i64 10] w fun e w' => e = .returned (tryV (some (some t))) ∧ Below w.heap.size w w' := by
 cases h <;> first | (exact absurd ht (by decide)) | skip
 all_goals
  clear ht
  go_enter Tryz.func105, Tryz.ntmps105
  go_wp2_with fail
  go_loop [9] (fun i => i = .int .i64 0 ∨ i = .int .i64 1) (fun i => 1 - (intOf i).toNat)
  case atStart => exact .inl rfl
  case round =>
   rcases hrel with rfl | rfl
   ·go_wp2_with fail
    first
     | refine (parse_c _ _ 1 0 (.inl ⟨by rfl, rfl, rfl⟩)).mono ?_
     | refine (parse_c _ _ 2 0 (.inr (.inl ⟨by rfl, rfl, rfl⟩))).mono ?_
    rintro y w1 ⟨rfl, rfl⟩
    go_wp2_with fail
    exact ⟨.inr rfl, by decide⟩
   ·go_wp2_with fail
    refine (parse_c _ _ 0 6 (.inr (.inr ⟨by rfl, rfl, rfl⟩))).mono ?_
    rintro y w1 ⟨rfl, rfl⟩
    go_wp2_with fail
    first
     | refine (parse_c _ _ 1 0 (.inl ⟨by rfl, rfl, rfl⟩)).mono ?_
     | refine (parse_c _ _ 2 0 (.inr (.inl ⟨by rfl, rfl, rfl⟩))).mono ?_
    rintro y w1 ⟨rfl, rfl⟩
    go_wp2_with fail
    refine bodyPost_ret ?_ rfl ⟨rfl, (Below.refl _ _).alloc (Nat.le_refl _) _⟩
    simp [results, Tryz.results105, go_sem, tryV, tokV]
set_option maxHeartbeats 4000000 in
theorem number_c (x : Value) (ht : t.kind ≠ 7) : Calls Tryz.prog 43 #[x, .string ⟨s.toArray⟩] w fun e w' => e = .returned (tryC 3 t) ∧ Below w.heap.size w w' := by
 obtain ⟨W, hW⟩ : ∃ W, W = w.alloc (.cells #[.int .i64 0, .int .i64 0, .int .i64 0, .string ⟨#[]⟩, .bool false, .bool false] 127) := ⟨_, rfl⟩
 have hb : Below w.heap.size w W := by rw [hW]; exact (Below.refl _ _).alloc (Nat.le_refl _) _
 have hz : W.heap[w.heap.size]? = some (.cells #[.int .i64 0, .int .i64 0, .int .i64 0, .string ⟨#[]⟩, .bool false, .bool false] 127 (0, 0)) := by rw [hW]; exact heap_alloc_new _ _
 by_cases hk : t.kind = 3
 ·obtain ⟨n, hT⟩ : ∃ n, tryV (some (some t)) = numV n := by cases h <;> first | (exact absurd hk (by decide)) | exact ⟨_, rfl⟩
  have HD : Hid (Calls Tryz.prog 105 #[.string ⟨s.toArray⟩, .int .i64 0, .int .i64 10] W fun e w' => e = .returned (numV n) ∧ Below W.heap.size W w') := Lib.hid (by rw [← hT]; exact digits_c W h hk)
  have HB := Lib.hid (And.intro hb hz)
  have hT2 : tryC 3 t = numV n := by unfold tryC; rw [if_pos hk, hT]
  rw [hT2]
  clear hT hT2
  cases h <;> first | (exact absurd hk (by decide)) | skip
  all_goals
   clear ht hk hb hz
   go_enter Tryz.func43, Tryz.ntmps43
   go_upto_region 1 with fail
   rw [← hW]
   clear hW
   go_wp2_with fail
   refine (sort_c _ _ 4 (by decide)).mono ?_
   rintro y w1 ⟨rfl, rfl⟩
   go_wp2_with fail
   refine HD.out.mono ?_
   rintro y w2 ⟨rfl, hb2⟩
   have hz2 := (hb2.block _ (Array.getElem?_eq_some_iff.1 HB.out.2).1).trans HB.out.2
   obtain ⟨y0, y1, y2, y3, y4, y5, yf⟩ := tok_cells hz2
   have hl2 := (Array.getElem?_eq_some_iff.1 hz2).1
   have HB2 := Lib.hid (And.intro (HB.out.1.trans (hb2.mono HB.out.1.size)) hz2)
   clear hb2 hz2
   unfold numV
   go_wp2_with fail
   obtain ⟨WF, hWF⟩ : ∃ WF, WF = w2.setCells w.heap.size 0 (numC n).toList := ⟨_, rfl⟩
   show bodyPost _ _ _ _ _ (w2.setCells w.heap.size 0 (numC n).toList)
   rw [← hWF]
   have hbF : Below w.heap.size w WF := by
    rw [hWF]
    exact HB2.out.1.trans ((fr_setCells (S := (· = w.heap.size)) (w := w2) (.inl rfl) _ w2 0 (Fr.refl _ _)).below HB2.out.1.size fun k hk e => by have e : k = w.heap.size := e; omega)
   have hF : WF.heap[w.heap.size]? = some (.cells (numC n) 127 (0, 0)) := by rw [hWF]; exact num_blk HB2.out.2 n
   clear hWF y0 y1 y2 y3 y4 y5 yf
   obtain ⟨f0, f1, f2, f3, f4, f5, -⟩ := tok_cells hF
   exact bodyPost_ret (v := numV n) (by simp [results, Tryz.results43, go_sem, numV, f0, f1, f2, f3, f4, f5]) rfl ⟨rfl, hbF⟩
 ·clear hb hz hW
  cases h <;> first | (exact absurd rfl ht) | (exact absurd rfl hk) | skip
  all_goals
   clear ht hk
   go_enter Tryz.func43, Tryz.ntmps43
   go_wp2_with fail
   first
    | refine (sort_c _ _ 2 (by decide)).mono ?_
    | refine (sort_c _ _ 3 (by decide)).mono ?_
    | refine (sort_c _ _ 7 (by decide)).mono ?_
   rintro y w1 ⟨rfl, rfl⟩
   go_wp2_with fail
   refine bodyPost_ret ?_ rfl ⟨rfl, (Below.refl _ _).alloc (Nat.le_refl _) _⟩
   simp [results, Tryz.results43, go_sem, tryC, tryV, tokV]
end
end Go.Proofs.YtjdnigepnfeboaaGreatDoor
namespace Go.Proofs
open Go.Shelf
def Tryz.sortDefs_ren : Go.Shelf.Ren := ⟨fun | 6 => 35 | 15 => 100 | 14 => 99 | 28 => 197 | 29 => 198 | 20 => 189 | 21 => 190 | 22 => 191 | 23 => 192 | 24 => 193 | 25 => 194 | 26 => 195 | 27 => 196 | 46 => 272 | 47 => 273 | 48 => 274 | 49 => 275 | 50 => 276 | 57 => 335 | n => n, fun | 22 => 61 | 24 => 64 | 25 => 120 | 3 => 3 | 39 => 178 | 0 => 0 | 53 => 202 | 55 => 286 | 4 => 4 | 46 => 278 | 45 => 277 | 50 => 282 | 5 => 5 | 9 => 9 | 66 => 395 | 70 => 399 | 76 => 464 | 77 => 197 | n => n, fun | n => n⟩
theorem Tryz.sortDefs : Go.Proofs.SlLaysF0.n6 Tryz.prog Tryz.sortDefs_ren := {
 mixed := by kernel_rfl
 f6 := ⟨Tryz.f35.name, by decide, Tryz.func35.trans (congrArg some (by kernel_rfl))⟩
 f14 := ⟨Tryz.f99.name, by decide, Tryz.func99.trans (congrArg some (by kernel_rfl))⟩
 f15 := Tryz.func100.trans (congrArg some (by kernel_rfl))
 f20 := ⟨Tryz.f189.name, by decide, Tryz.func189.trans (congrArg some (by kernel_rfl))⟩
 f21 := ⟨Tryz.f190.name, by decide, Tryz.func190.trans (congrArg some (by kernel_rfl))⟩
 f22 := ⟨Tryz.f191.name, by decide, Tryz.func191.trans (congrArg some (by kernel_rfl))⟩
 f23 := ⟨Tryz.f192.name, by decide, Tryz.func192.trans (congrArg some (by kernel_rfl))⟩
 f24 := ⟨Tryz.f193.name, by decide, Tryz.func193.trans (congrArg some (by kernel_rfl))⟩
 f25 := ⟨Tryz.f194.name, by decide, Tryz.func194.trans (congrArg some (by kernel_rfl))⟩
 f26 := ⟨Tryz.f195.name, by decide, Tryz.func195.trans (congrArg some (by kernel_rfl))⟩
 f27 := ⟨Tryz.f196.name, by decide, Tryz.func196.trans (congrArg some (by kernel_rfl))⟩
 f28 := Tryz.func197.trans (congrArg some (by kernel_rfl))
 f29 := Tryz.func198.trans (congrArg some (by kernel_rfl))
 f46 := ⟨Tryz.f272.name, by decide, Tryz.func272.trans (congrArg some (by kernel_rfl))⟩
 f47 := Tryz.func273.trans (congrArg some (by kernel_rfl))
 f48 := Tryz.func274.trans (congrArg some (by kernel_rfl))
 f49 := ⟨Tryz.f275.name, by decide, Tryz.func275.trans (congrArg some (by kernel_rfl))⟩
 f50 := ⟨Tryz.f276.name, by decide, Tryz.func276.trans (congrArg some (by kernel_rfl))⟩
 f57 := ⟨Tryz.f335.name, by decide, Tryz.func335.trans (congrArg some (by kernel_rfl))⟩
 t0 := Tryz.underlying0
 a0 := Tryz.isAgg0
 z0 := Tryz.sizeOf0
 v0 := Tryz.zeroValue0
 t3 := Tryz.underlying3
 a3 := Tryz.isAgg3
 z3 := Tryz.sizeOf3
 v3 := Tryz.zeroValue3
 t4 := Tryz.underlying4
 a4 := Tryz.isAgg4
 z4 := Tryz.sizeOf4
 v4 := Tryz.zeroValue4
 t5 := Tryz.underlying5
 a5 := Tryz.isAgg5
 z5 := Tryz.sizeOf5
 v5 := Tryz.zeroValue5
 t9 := Tryz.underlying9
 a9 := Tryz.isAgg9
 z9 := Tryz.sizeOf9
 v9 := Tryz.zeroValue9
 t22 := Tryz.underlying61
 a22 := Tryz.isAgg61
 z22 := Tryz.sizeOf61
 v22 := Tryz.zeroValue61
 t25 := Tryz.underlying120
 a25 := Tryz.isAgg120
 z25 := Tryz.sizeOf120
 v25 := Tryz.zeroValue120
 t39 := Tryz.underlying178
 a39 := Tryz.isAgg178
 z39 := Tryz.sizeOf178
 v39 := Tryz.zeroValue178
 t45 := Tryz.underlying277
 a45 := Tryz.isAgg277
 z45 := Tryz.sizeOf277
 v45 := Tryz.zeroValue277
 t46 := Tryz.underlying278
 a46 := Tryz.isAgg278
 z46 := Tryz.sizeOf278
 v46 := Tryz.zeroValue278
 t50 := Tryz.underlying282
 a50 := Tryz.isAgg282
 z50 := Tryz.sizeOf282
 v50 := Tryz.zeroValue282
 t53 := Tryz.underlying202
 a53 := Tryz.isAgg202
 z53 := Tryz.sizeOf202
 v53 := Tryz.zeroValue202
 t55 := Tryz.underlying286
 a55 := Tryz.isAgg286
 z55 := Tryz.sizeOf286
 v55 := Tryz.zeroValue286
 t66 := Tryz.underlying395
 a66 := Tryz.isAgg395
 z66 := Tryz.sizeOf395
 v66 := Tryz.zeroValue395
 t70 := Tryz.underlying399
 a70 := Tryz.isAgg399
 z70 := Tryz.sizeOf399
 v70 := Tryz.zeroValue399
 t76 := Tryz.underlying464
 a76 := Tryz.isAgg464
 z76 := Tryz.sizeOf464
 v76 := Tryz.zeroValue464
 t77 := Tryz.underlying197
 a77 := Tryz.isAgg197
 z77 := Tryz.sizeOf197
 v77 := Tryz.zeroValue197 }
end Go.Proofs
namespace Go.Proofs.YtjdnigepnfeboaaGreatDoor
open Go.RowKit
set_option maxRecDepth 100000
set_option maxHeartbeats 2000000 in
theorem all_any (u : World) (rb : Nat) (x : TV) (I : Nat → Int → World → Prop) (Q : World → Prop) (ho : ∀ n o w, I n o w → o = 0 ∨ o = 1 ∨ (o = 3 ∧ Q w))
    (hq : ∀ W, Below u.heap.size u W → Calls Tryz.prog 95 #[.pointer (some ⟨rb, 0, none⟩), tvV x] W fun e w => ∃ n o, e = .returned (.int .i64 o) ∧ I n o w)
    (h0 : ∀ n w, I n 0 w → Calls Tryz.prog 96 #[.pointer (some ⟨rb, 0, none⟩)] w fun e w' => ∃ m o, m < n ∧ e = .returned (.int .i64 o) ∧ I m o w')
    (h1 : ∀ n w, I n 1 w → Calls Tryz.prog 97 #[.pointer (some ⟨rb, 0, none⟩)] w fun e w' => ∃ m o, m < n ∧ e = .returned (.int .i64 o) ∧ I m o w') :
    Calls Tryz.prog 34 #[.pointer (some ⟨rb, 0, none⟩), tvV x] u fun e w => e = .returned (.tuple #[]) ∧ Q w := by
 have HO := Lib.hid ho
 have H0 := Lib.hid h0
 have H1 := Lib.hid h1
 obtain ⟨W, hW⟩ : ∃ W, W = u.alloc (.cells #[.int .i64 x.k, .int .i64 x.n, .string ⟨x.s.toArray⟩, .slice x.A x.len x.cap] 27) := ⟨_, rfl⟩
 have HQ := Lib.hid (hq W (by rw [hW]; exact (Below.refl _ _).alloc (Nat.le_refl _) _))
 have hz : W.heap[u.heap.size]? = some (.cells #[.int .i64 x.k, .int .i64 x.n, .string ⟨x.s.toArray⟩, .slice x.A x.len x.cap] 27 (0, 0)) := by rw [hW]; exact heap_alloc_new _ _
 obtain ⟨z0, z1, z2, z3, -⟩ := four_at hz
 clear ho hq h0 h1 hz
 unfold tvV at HQ ⊢
 go_enter Tryz.func34, Tryz.ntmps34
 go_upto_region 1 with fail
 rw [← hW]
 clear hW
 go_wp2_with fail
 refine HQ.out.mono ?_
 rintro e w1 ⟨n, o, rfl, hI⟩
 have HI := Lib.hid hI
 clear hI HQ z0 z1 z2 z3
 go_wp2_with fail
 go_loopg [4] n (fun gk v wr => ∃ o, v = .int .i64 o ∧ Hid (I gk o wr))
 case atStart => exact ⟨o, rfl, HI⟩
 case round =>
  obtain ⟨o', rfl, HI'⟩ := hrel
  clear HI
  rcases HO.out _ _ _ HI'.out with rfl | rfl | ⟨rfl, hQ⟩
  ·go_wp2_with fail
   refine (H0.out gk wr HI'.out).mono ?_
   rintro e w2 ⟨m, o2, hlt, rfl, hI2⟩
   have HI2 := Lib.hid hI2
   have HLT := Lib.hid hlt
   clear hI2 hlt
   go_wp2_with fail
   go_roundg m
   case measure => exact HLT.out
   case rel => exact ⟨o2, rfl, HI2⟩
  ·go_wp2_with fail
   refine (H1.out gk wr HI'.out).mono ?_
   rintro e w2 ⟨m, o2, hlt, rfl, hI2⟩
   have HI2 := Lib.hid hI2
   have HLT := Lib.hid hlt
   clear hI2 hlt
   go_wp2_with fail
   go_roundg m
   case measure => exact HLT.out
   case rel => exact ⟨o2, rfl, HI2⟩
  ·have HQQ := Lib.hid hQ
   clear hQ
   go_wp2_with fail
   exact bodyPost_end (v := .tuple #[]) (by simp [results, Tryz.results34, go_sem]) rfl ⟨rfl, HQQ.out⟩
theorem bld_info : (Tryz.prog.info? 5).map (fun i => (i.zero, i.size, i.bytes)) = some (some (.int .u8 0), 1, 1) := by kernel_rfl
theorem bld_ptr : (Tryz.prog.info? 386).map (fun i => i.size) = some 2 := by kernel_rfl
def Oth (b : Nat) (w w' : World) : Prop := ∀ j o, w.heap[j]? = some o → j ≠ b → (∀ cs fr, o ≠ .cells cs 5 fr) → w'.heap[j]? = some o
theorem Oth.refl (b : Nat) (w : World) : Oth b w w := fun _ _ h _ _ => h
theorem Oth.setCell {b : Nat} {w w' : World} (h : Oth b w w') (i : Nat) (u : Value) : Oth b w (w'.setCell ⟨b, i, none⟩ u) := fun j o h1 h2 h3 => by
 rw [Below.heap_setCell _ _ _ _ (fun e => h2 e)]
 exact h j o h1 h2 h3
theorem Oth.grown {b B n : Nat} {w w' w'' : World} {v : Value} {xs : List Value} (h : Oth b w w') (hown : w'.ownsRow B 5 1 v n xs) (hg : w'.grownBy w'' v.ownBlock) : Oth b w w'' := fun j o h1 h2 h3 => by
 have h4 := h j o h1 h2 h3
 rw [hg.block j (Array.getElem?_eq_some_iff.1 h4).1 ?_]
 ·exact h4
 ·intro e
  rcases hown.2 with ⟨rfl, _⟩ | ⟨g, cap, cur, rfl, _, hgg, _⟩
  ·cases e
  ·have : g = j := by simpa [Value.ownBlock] using e.symm
   subst this
   rw [hgg] at h4
   injection h4 with h4
   exact h3 _ _ h4.symm
set_option maxHeartbeats 1000000 in
theorem check_used (b : Nat) (w : World) (h0 : w.cell? ⟨b, 0, none⟩ = some (.pointer (some ⟨b, 0, none⟩))) :
    Calls Tryz.prog 331 #[.pointer (some ⟨b, 0, none⟩)] w fun e w' => e = .returned (.tuple #[]) ∧ w' = w := by
 obtain ⟨j, hj, _⟩ := Option.map_eq_some_iff.1 bld_ptr
 go_enter Tryz.func331, Tryz.ntmps331
 go_wp2
 rw [Lib.run_neq_ptr_same w _ Tryz.underlying384 hj]
 go_wp2
 go_end0
 exact ⟨rfl, rfl⟩
set_option maxHeartbeats 1000000 in
theorem check_fresh (b : Nat) (w : World) (h0 : w.cell? ⟨b, 0, none⟩ = some (.pointer none)) (hsh : w.shape? b = some (386, 2)) (hfz : w.frozen? ⟨b, 0, none⟩ = false) :
    Calls Tryz.prog 331 #[.pointer (some ⟨b, 0, none⟩)] w fun e w' => e = .returned (.tuple #[]) ∧ w' = w.setCell ⟨b, 0, none⟩ (.pointer (some ⟨b, 0, none⟩)) := by
 obtain ⟨j, hj, hjs⟩ := Option.map_eq_some_iff.1 bld_ptr
 go_enter Tryz.func331, Tryz.ntmps331
 go_wp2
 rw [Lib.run_to_unsafe w ⟨b, 0, none⟩ Tryz.underlying384 Tryz.underlying495 hj (by rw [hjs]; decide) hsh (Nat.zero_lt_succ 1)]
 simp only [Result.andThen]
 rw [Oper.upon_value]
 go_wp2
 rw [run_callFunc_extern Tryz.func360 (by kernel_rfl) (by kernel_rfl) (by kernel_rfl) (e := Extern.AbiNoEscape.same) (by kernel_rfl)]
 rw [Lib.run_noEscape]
 simp only [Result.andThen]
 rw [Oper.upon_value]
 go_wp2
 rw [Lib.run_from_unsafe w ⟨b, 0, none⟩ Tryz.underlying495 Tryz.underlying384 hj hsh (by kernel_rfl)]
 simp only [Result.andThen]
 rw [Oper.upon_value]
 go_wp2
 go_end0
 exact ⟨rfl, rfl⟩
theorem bcheck_any (B b : Nat) (bs : List Value) (w : World) (h : Lib.IsBuilder 386 5 B b bs w) :
    Calls Tryz.prog 331 #[.pointer (some ⟨b, 0, none⟩)] w fun e w' => e = .returned (.tuple #[]) ∧ (Lib.BuilderAt 386 5 B b (.pointer (some ⟨b, 0, none⟩)) bs w' ∧ Below B w w' ∧ Oth b w w') := by
 rcases h with h | h
 ·refine (check_fresh b w h.cell0 h.shape h.frozen0).mono ?_
  rintro e w' ⟨rfl, rfl⟩
  exact ⟨rfl, h.used _, (Below.refl B w).setCell (p := ⟨b, 0, none⟩) h.1 _, (Oth.refl b w).setCell 0 _⟩
 ·refine (check_used b w h.cell0).mono ?_
  rintro e w' ⟨rfl, rfl⟩
  exact ⟨rfl, h, Below.refl B _, Oth.refl b _⟩
set_option maxHeartbeats 2000000 in
theorem wstr_any (B b : Nat) (bs : List Value) (s : ByteArray) (w : World) (h : Lib.IsBuilder 386 5 B b bs w) (hlen : bs.length + s.size ≤ 140737488355328) (hBw : B ≤ w.heap.size) :
    Calls Tryz.prog 265 #[.pointer (some ⟨b, 0, none⟩), .string s] w fun e w' => e = .returned (.tuple #[.int .i64 s.size, .nilIface]) ∧ (Lib.BuilderAt 386 5 B b (.pointer (some ⟨b, 0, none⟩)) (bs ++ Lib.strCells s) w' ∧ Below B w w' ∧ Oth b w w') := by
 obtain ⟨i0, hi, hz0, hz1, hz2⟩ := info_parts bld_info
 go_enter Tryz.func265, Tryz.ntmps265
 go_wp2_with fail
 refine (bcheck_any B b bs _ h).mono ?_
 rintro e w1 ⟨rfl, h1, hb1, ho1⟩
 have HO := Lib.hid ho1
 clear ho1
 obtain ⟨hB, v, hbk, hown, hne⟩ := h1
 have c0 : w1.cell? ⟨b, 0, none⟩ = some (.pointer (some ⟨b, 0, none⟩)) := by rw [Lib.cell_of_heap hbk]; rfl
 have c1 : w1.cell? ⟨b, 1, none⟩ = some v := by rw [Lib.cell_of_heap hbk]; rfl
 go_wp2_with (at_builtin; refine Lib.wpList_append_own_string _ rfl _ _ 289 9 rfl B 5 i0 Tryz.underlying289 Tryz.underlying9 hi hz0 hz1 hz2 _ _ _ rfl hown s rfl ?c3 ?c4 ?c5 ?_)
 case c3 => unfold maxLen; omega
 case c4 => omega
 case c5 => have := hb1.size; omega
 intro v' w2 hown' hgrow _
 have hlt : b < w1.heap.size := by
  rcases Nat.lt_or_ge b w1.heap.size with h' | h'
  ·exact h'
  ·simp [Array.getElem?_eq_none h'] at hbk
 have hb2 : w2.heap[b]? = some (.cells #[.pointer (some ⟨b, 0, none⟩), v] 386 (0, 0)) := by
  rw [hgrow.block b hlt (fun e => hne e.symm)]
  exact hbk
 have d0 : w2.cell? ⟨b, 0, none⟩ = some (.pointer (some ⟨b, 0, none⟩)) := by rw [Lib.cell_of_heap hb2]; rfl
 have d1 : w2.cell? ⟨b, 1, none⟩ = some v := by rw [Lib.cell_of_heap hb2]; rfl
 have f1 : w2.frozen? ⟨b, 1, none⟩ = false := Lib.frozen_of_heap hb2 1
 obtain ⟨ao, n', cap, rfl⟩ : ∃ ao n' cap, v' = .slice ao n' cap := by
  rcases hown'.2 with ⟨hv, _⟩ | ⟨g, cap, cur, hv, _⟩
  ·exact ⟨_, _, _, hv⟩
  ·exact ⟨_, _, _, hv⟩
 go_wp2
 go_ret2
 refine ⟨rfl, ?_, ?_, ?_⟩
 ·exact Lib.BuilderAt.put (T := 386) (e := 5) hB hb2 (bs' := bs ++ Lib.strCells s) (by simpa [Lib.strCells_length] using hown') (by decide)
 ·exact (hb1.grown hgrow (by have := hb1.size; omega) (fun k hk => (hown.lt k hk).1)).setCell (p := ⟨b, 1, none⟩) hB _
 ·exact (HO.out.grown hown hgrow).setCell 1 _
end Go.Proofs.YtjdnigepnfeboaaGreatDoor
namespace Go.Proofs
open Go.Shelf
def Tryz.lays169_ren : Go.Shelf.Ren := ⟨fun | 169 => 266 | n => n, fun | 70 => 384 | 9 => 9 | 0 => 0 | 72 => 386 | 37 => 289 | 127 => 462 | 3 => 3 | 5 => 5 | n => n, fun | n => n⟩
theorem Tryz.lays169 : Go.Proofs.Lays.n169 Tryz.prog Tryz.lays169_ren := {
 mixed := by kernel_rfl
 f169 := Tryz.func266.trans (congrArg some (by kernel_rfl))
 t0 := Tryz.underlying0
 a0 := Tryz.isAgg0
 z0 := Tryz.sizeOf0
 v0 := Tryz.zeroValue0
 t3 := Tryz.underlying3
 a3 := Tryz.isAgg3
 z3 := Tryz.sizeOf3
 v3 := Tryz.zeroValue3
 t9 := Tryz.underlying9
 a9 := Tryz.isAgg9
 z9 := Tryz.sizeOf9
 v9 := Tryz.zeroValue9
 t37 := Tryz.underlying289
 a37 := Tryz.isAgg289
 z37 := Tryz.sizeOf289
 v37 := Tryz.zeroValue289
 t70 := Tryz.underlying384
 a70 := Tryz.isAgg384
 z70 := Tryz.sizeOf384
 v70 := Tryz.zeroValue384
 t72 := Tryz.underlying386
 a72 := Tryz.isAgg386
 z72 := Tryz.sizeOf386
 v72 := Tryz.zeroValue386
 t127 := Tryz.underlying462
 a127 := Tryz.isAgg462
 z127 := Tryz.sizeOf462
 v127 := Tryz.zeroValue462 }
theorem Tryz.Builder_Extra_169 : Builder.Extra Tryz.prog Tryz.lays169_ren := {
 sizeBuilder := by kernel_rfl
 liesBuilder := by kernel_rfl
 t5 := Tryz.underlying5
 a5 := Tryz.isAgg5
 z5 := Tryz.sizeOf5
 v5 := Tryz.zeroValue5
 infoByte := by kernel_rfl
 cellsByte := by kernel_rfl
 sizeByte := by kernel_rfl
 neB5 := by decide }
open Go.RowKit in
theorem Tryz.Builder_String_any (B b : Nat) (l : List UInt8) (w : World) (h : Lib.IsBuilder 386 5 B b (Lib.byteCells l) w) (hBw : B ≤ w.heap.size) :
    Calls Tryz.prog 266 #[.pointer (some ⟨b, 0, none⟩)] w fun e w' => e = .returned (.string ⟨l.toArray⟩) ∧ Below B w w' := Any.Builder_String_any Tryz.lays169 Tryz.Builder_Extra_169 B b l w h hBw
end Go.Proofs
namespace Go.Proofs.YtjdnigepnfeboaaGreatDoor
open Go.RowKit
theorem bld_fresh (w : World) : Lib.IsBuilder 386 5 w.heap.size w.heap.size (Lib.byteCells []) (w.alloc (.cells #[.pointer none, .slice none 0 0] 386)) :=
 .inl ⟨Nat.le_refl _, _, heap_alloc_new w _, World.ownsRow_nil _ _ _ _, by simp [Value.ownBlock]⟩
theorem bld_later {T e : TypeId} {B b : Nat} {bs : List Value} {w w' : World} (h : Lib.IsBuilder T e B b bs w) (hb : Below w.heap.size w w') : Lib.IsBuilder T e B b bs w' := by
 have key : ∀ p, Lib.BuilderAt T e B b p bs w → Lib.BuilderAt T e B b p bs w' := by
  rintro p ⟨hB, v, hbk, hown, hne⟩
  have hlt : b < w.heap.size := by
   rcases Nat.lt_or_ge b w.heap.size with h' | h'
   ·exact h'
   ·simp [Array.getElem?_eq_none h'] at hbk
  refine ⟨hB, v, by rw [hb.block b hlt]; exact hbk, ⟨hown.1, ?_⟩, hne⟩
  rcases hown.2 with hn | ⟨g, cap, cur, rfl, hg, hgg, rest⟩
  ·exact .inl hn
  ·have hglt : g < w.heap.size := (Array.getElem?_eq_some_iff.1 hgg).1
   exact .inr ⟨g, cap, cur, rfl, hg, by rw [hb.block g hglt]; exact hgg, rest⟩
 exact h.imp (key _) (key _)
theorem str_cells (l : List UInt8) : Lib.strCells ⟨l.toArray⟩ = Lib.byteCells l := rfl
theorem byte_cells_app (a b : List UInt8) : Lib.byteCells a ++ Lib.byteCells b = Lib.byteCells (a ++ b) := by
 unfold Lib.byteCells
 rw [List.map_append]
theorem byte_cells_len (a : List UInt8) : (Lib.byteCells a).length = a.length := by unfold Lib.byteCells; rw [List.length_map]
theorem bstr_any (B b : Nat) (l s : List UInt8) (w : World) (h : Lib.IsBuilder 386 5 B b (Lib.byteCells l) w) (hlen : l.length + s.length ≤ 100000) (hBw : B ≤ w.heap.size) :
    Calls Tryz.prog 265 #[.pointer (some ⟨b, 0, none⟩), .string ⟨s.toArray⟩] w fun e w' => (∃ v, e = .returned v) ∧ Lib.IsBuilder 386 5 B b (Lib.byteCells (l ++ s)) w' ∧ Below B w w' := by
 refine (wstr_any B b _ ⟨s.toArray⟩ w h (by rw [byte_cells_len]; show l.length + s.toArray.size ≤ _; rw [List.size_toArray]; omega) hBw).mono ?_
 rintro e w' ⟨rfl, h1, h2, -⟩
 rw [str_cells, byte_cells_app] at h1
 exact ⟨⟨_, rfl⟩, .inr h1, h2⟩
set_option maxHeartbeats 1000000 in
theorem blen_any (B b : Nat) (l : List UInt8) (w : World) (h : Lib.IsBuilder 386 5 B b (Lib.byteCells l) w) :
    Calls Tryz.prog 264 #[.pointer (some ⟨b, 0, none⟩)] w fun e w' => e = .returned (.int .i64 (l.length : Nat)) ∧ w' = w := by
 obtain ⟨n, A, c, p, hn, hc⟩ : ∃ (n : Nat) (A : Option Addr) (c : Nat) (p : Value), n = l.length ∧ w.heap[b]? = some (.cells #[p, .slice A n c] 386 (0, 0)) := by
  have key : ∀ p, Lib.BuilderAt 386 5 B b p (Lib.byteCells l) w → ∃ (n : Nat) (A : Option Addr) (c : Nat) (p : Value), n = l.length ∧ w.heap[b]? = some (.cells #[p, .slice A n c] 386 (0, 0)) := by
   rintro p ⟨hB, v, hbk, hown, hne⟩
   rw [byte_cells_len] at hown
   rcases hown.2 with ⟨rfl, h0⟩ | ⟨g, cap, cur, rfl, _⟩
   ·exact ⟨0, none, 0, p, h0.symm, hbk⟩
   ·exact ⟨_, _, _, p, rfl, hbk⟩
  exact h.elim (key _) (key _)
 have c1 : w.cell? ⟨b, 1, none⟩ = some (.slice A n c) := by rw [Lib.cell_of_heap hc]; rfl
 rw [← hn]
 clear hn hc h
 go_enter Tryz.func264, Tryz.ntmps264
 go_wp2_with fail
 go_ret
 exact ⟨rfl, rfl⟩
open Go.RowKit Go.Maps
set_option maxRecDepth 100000
set_option maxHeartbeats 2000000 in
theorem Enter_nil (w : World) (db m : Value) (s : List UInt8) (n : Int) : Calls Tryz.prog 143 #[.pointer none, db, m, .string ⟨s.toArray⟩, .int .i64 n] w fun e w' => e = .returned (.tuple #[.agg #[.int .i64 0, .slice none 0 0, .slice none 0 0], .bool false]) ∧ Below w.heap.size w w' := by
 go_enter Tryz.func143, Tryz.ntmps143
 go_wp2_with fail
 have hz := heap_alloc_new w (.cells #[.int .i64 0, .slice none 0 0, .slice none 0 0] 232)
 have c0 := (cell_of_row _ _ 0 _ _ _ hz).trans rfl
 have c1 := (cell_of_row _ _ 1 _ _ _ hz).trans rfl
 have c2 := (cell_of_row _ _ 2 _ _ _ hz).trans rfl
 exact bodyPost_ret (v := .tuple #[.agg #[.int .i64 0, .slice none 0 0, .slice none 0 0], .bool false]) (by simp [results, Tryz.results143, go_sem, c0, c1, c2]) rfl ⟨rfl, (Below.refl _ _).alloc (Nat.le_refl _) _⟩
variable [Base]
set_option linter.unusedSectionVars false
section
variable {sb room : Nat} {u : World} {cv bv : Value} {xs : List ScM} {cs : List Sc} {ys : List (Nat × Int)}
theorem Mark_st (h : StAt sb room u cv bv xs cs ys) : Calls Tryz.prog 141 #[.pointer (some ⟨sb, 0, none⟩)] u fun e u' => e = .returned (.int .i64 (ys.length : Nat)) ∧ u' = u := by
 obtain ⟨A, c, rfl⟩ := h.bonds.shape
 obtain ⟨-, -, c2, -⟩ := h.cells
 have hl := h.lt
 clear h
 go_enter Tryz.func141, Tryz.ntmps141
 go_wp2_with fail
 go_ret
 exact ⟨rfl, rfl⟩
theorem Cells_st (h : StAt sb room u cv bv xs cs ys) : Calls Tryz.prog 142 #[.pointer (some ⟨sb, 0, none⟩)] u fun e u' => e = .returned (.int .i64 (cs.length : Nat)) ∧ u' = u := by
 have hln := h.len
 obtain ⟨A, c, rfl⟩ := h.row.shape
 obtain ⟨-, c1, -, -⟩ := h.cells
 have hl := h.lt
 rw [hln] at c1
 clear h
 go_enter Tryz.func142, Tryz.ntmps142
 go_wp2_with fail
 go_ret
 exact ⟨rfl, rfl⟩
end
end Go.Proofs.YtjdnigepnfeboaaGreatDoor
namespace Go.Proofs.YtjdnigepnfeboaaGreatDoor
open Go.ChangeShapes Go.WideShapes Go.ChangeAt Go.RowKit
section
variable {H : Type} {enc : TypeId × Value → H} {P : Program}
theorem trodAll_below (hl : laidOutB P = true) {W W' : World} (hb : Below W.heap.size W W') : ∀ (ts : List TypeId) (vs : List Value) (ds : List (DataW H)) (ps : List MemPlace), (∀ t ∈ ts, P.readableRec t = true ∧ t < P.types.size) →
    DataW.TrodAll enc P W 0 (fun _ => true) true ts vs ds ps → (∀ x ∈ ps, x.block < W.heap.size) → DataW.TrodAll enc P W' 0 (fun b => decide (b < W.heap.size)) true ts vs ds ps
 | [], [], [], _, _, h, _ => h
 | [], [], _ :: _, _, _, h, _ => h.elim
 | [], _ :: _, _, _, _, h, _ => h.elim
 | _ :: _, [], _, _, _, h, _ => h.elim
 | _ :: _, _ :: _, [], _, _, h, _ => h.elim
 | t :: ts, v :: vs, d :: ds, ps, ht, h, hlt => by
  obtain ⟨p, q, h1, h2, rfl⟩ := h
  exact ⟨p, q, Below.trod hl (ht t (List.mem_cons_self ..)).1 (ht t (List.mem_cons_self ..)).2 h1 hb (fun x hx => hlt x (List.mem_append_left _ hx)),
   trodAll_below hl hb ts vs ds q (fun t' h' => ht t' (List.mem_cons_of_mem _ h')) h2 (fun x hx => hlt x (List.mem_append_right _ hx)), rfl⟩
theorem law_post (hl : laidOutB P = true) {f : Func} {s : ChangeSpec} {W W' : World} {args : Array Value} {ds gs : List (DataW H)} {before : List MemPlace} {tb : TypeId} (hbool : P.underlying tb = some .bool) (hres : f.resultTypes = #[tb])
    (hv : s.vars = []) (hW : DataW.Whole enc P f.params.toList s.vars false W args.toList ds gs before) (hb : Below W.heap.size W W')
    (hts : ∀ t ∈ f.params.toList, P.readableRec t = true ∧ t < P.types.size) (h1 : (s.fn H (ds ++ gs)).results = [.lit (.bool true)]) (h2 : (s.fn H (ds ++ gs)).args = ds) (h3 : (s.fn H (ds ++ gs)).vars = []) :
    s.post enc P f false true false false W args (.bool true) W' := by
 have hlt := hW.lt
 have hW' := hW
 obtain ⟨p, q, hA, hV, rfl, _, _⟩ := hW
 rw [hv] at hV
 have hV' := hV
 obtain ⟨hg, hq⟩ := trodVars_none hV
 subst hg
 subst hq
 refine ⟨ds, [], _, [], p, [], hW', ?_, ?_, ?_, hb.frame _, fun h => by cases h⟩
 ·rw [h1, hres]
  exact trodAll_mk1 (shut_bool hbool true)
 ·rw [h2]
  exact trodAll_below hl hb _ _ _ _ hts hA (fun x hx => hlt x (List.mem_append_left _ hx))
 ·rw [hv, h3]
  rfl
end
end Go.Proofs.YtjdnigepnfeboaaGreatDoor
namespace Go.Proofs.YtjdnigepnfeboaaGreatDoor
set_option maxRecDepth 100000
open Go.ChangeShapes Go.WideShapes Go.ChangeAt Go.RowKit Go.Deep
theorem exists_list {α : Type} {Q : Nat → α → Prop} : ∀ (n : Nat), (∀ i, i < n → ∃ x, Q i x) → ∃ l : List α, l.length = n ∧ ∀ i x, l[i]? = some x → Q i x
 | 0, _ => ⟨[], rfl, fun i x h => by simp at h⟩
 | n + 1, h => by
  obtain ⟨l, hl, hq⟩ := exists_list n (fun i hi => h i (by omega))
  obtain ⟨x, hx⟩ := h n (by omega)
  refine ⟨l ++ [x], by simp [hl], fun i y hy => ?_⟩
  by_cases hi : i < l.length
  ·rw [List.getElem?_append_left hi] at hy
   exact hq i y hy
  ·have : i = l.length := by
    have h1 := (List.getElem?_eq_some_iff.1 hy).1
    simp at h1
    omega
   subst this
   simp at hy
   subst hy
   rw [hl]
   exact hx
theorem addr_of_cell {w : World} {a : Addr} {v : Value} (h : w.cell? a = some v) : a = ⟨a.block, a.off, none⟩ := by
 obtain ⟨b, o, s⟩ := a
 cases s with
 | none => rfl
 | some x =>
  unfold World.cell? at h
  simp only at h
  split at h
  ·simp at h
  ·cases h
theorem add_lit' (b o i : Nat) : (⟨b, o, none⟩ : Addr).add i = ⟨b, o + i, none⟩ := by unfold Addr.add; split <;> simp_all
theorem rows_at {w : World} {base : Nat} {a : Addr} {k len : Nat} (hk : 0 < k) (h : ∀ i, i < len → ∃ cs, w.cells? base (a.add (i * k)) k = some cs) (hl : 0 < len) : a = ⟨a.block, a.off, none⟩ ∧ a.block < w.heap.size := by
 obtain ⟨cs, hc⟩ := h 0 hl
 obtain ⟨_, h1, h2⟩ := World.cells?_some hc
 have h3 := h2 0 hk
 have h4 : cs[0]? = some (cs[0]'(by omega)) := List.getElem?_eq_getElem _
 rw [h4] at h3
 have e : (a.add (0 * k)).add 0 = a := by simp [Addr.add]
 rw [e] at h3
 exact ⟨addr_of_cell h3, World.block_lt_of_cell? w _ h3⟩
end Go.Proofs.YtjdnigepnfeboaaGreatDoor
