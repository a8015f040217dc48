import Derived.Test.YtjdnigepnfeboaaGreatDoorJG15
namespace Go.Proofs.YtjdnigepnfeboaaGreatDoor
open Go.RowKit Go.Maps
set_option maxRecDepth 100000
def evB (r : Value) (n : Nat) : Value := .func (Fn.func n) #[r] #[]
def bltJ : List Nat := [4, 8, 12, 16, 20, 24, 28, 32, 36, 40, 44, 48, 52, 56]
def bltI : Nat → PK × Nat
 | 4 => (([61], 2), 81)
 | 8 => (([92, 61], 2), 82)
 | 12 => (([117, 110, 105, 102, 121, 95, 119, 105, 116, 104, 95, 111, 99, 99, 117, 114, 115, 95, 99, 104, 101, 99, 107], 2), 83)
 | 16 => (([99, 111, 112, 121, 95, 116, 101, 114, 109], 2), 84)
 | 20 => (([97, 115, 115, 101, 114, 116, 122], 1), 85)
 | 24 => (([97, 115, 115, 101, 114, 116, 97], 1), 86)
 | 28 => (([114, 101, 116, 114, 97, 99, 116], 1), 87)
 | 32 => (([97, 98, 111, 108, 105, 115, 104], 1), 88)
 | 36 => (([100, 121, 110, 97, 109, 105, 99], 1), 89)
 | 40 => (([119, 114, 105, 116, 101], 1), 90)
 | 44 => (([119, 114, 105, 116, 101, 113], 1), 91)
 | 48 => (([119, 114, 105, 116, 101, 95, 99, 97, 110, 111, 110, 105, 99, 97, 108], 1), 92)
 | 52 => (([110, 108], 0), 93)
 | 56 => (([111, 112], 3), 94)
 | _ => (([], 0), 0)
def bltL : List (PK × Nat) := bltJ.map bltI
theorem take_op {P : Program} {ops : Array Oper} {Q : Exit → Act → World → Prop} {i : Nat} {oi : Oper} {v : Value} {fuel : Nat} {listed : Array Bool} {a : Act} {w : World} (hi : ops[i]? = some oi)
    (hs : (Region.noSelect ops && (Region.free .any ops listed i && (Region.ready .any ops listed).contains i)) = true) (hQ : ∀ c a w, Q (.panic c) (a.put oi.dst v) w → Q (.panic c) a w) (hy : Yields P ops oi v a)
    (h : wpAny P .any ops Q fuel (listed.setIfInBounds i true) (a.put oi.dst v) w) : wpAny P .any ops Q (fuel + 1) listed a w := by
 simp only [Bool.and_eq_true] at hs
 exact wpAny_take hi hs.1 hs.2.1 hs.2.2 hQ hy h
set_option maxHeartbeats 4000000 in
theorem blt_any (w : World) (r : Value) : Calls Tryz.prog 33 #[r] w fun e w' => ∃ b, e = .returned (.map (some b)) ∧ LitM w w' b pk (evB r) okPK bltL := by
 have M0 := NMap.made (ek := pk) (ev := evB r) (okk := okPK) (w := w) (u := w.drew) ((Below.refl _ _).drew)
 obtain ⟨u0, hu0⟩ : ∃ u, u = w.drew.alloc (.map #[] 0) := ⟨_, rfl⟩
 have hmm : (Instr.makeMap 110 none).run Tryz.prog w.drew = .ok (.map (some w.heap.size)) u0 := by
  rw [hu0]
  simp [Instr.makeMap, Result.andThen]
 rw [← hu0, show w.drew.heap.size = w.heap.size from rfl] at M0
 clear hu0
 have HM := Lib.hid M0
 clear M0
 go_enter Tryz.func33, Tryz.ntmps33
 go_wp2_with fail
 refine wp_region_any (by kernel_rfl) ?_
 refine take_op (i := 1) (v := .agg #[.string ⟨#[61]⟩, .int .i64 2]) rfl (by kernel_rfl) (fun _ _ _ h => h) (Or.inl ⟨by rfl, by intro w; go_simp⟩) ?_
 refine take_op (i := 2) (v := r) rfl (by kernel_rfl) (fun _ _ _ h => h) (Or.inl ⟨by rfl, by intro w; go_simp⟩) ?_
 refine take_op (i := 3) (v := .func (Fn.func 81) #[r] #[]) rfl (by kernel_rfl) (fun _ _ _ h => h) (Or.inl ⟨by rfl, by intro w; go_simp⟩) ?_
 refine take_op (i := 5) (v := .agg #[.string ⟨#[92, 61]⟩, .int .i64 2]) rfl (by kernel_rfl) (fun _ _ _ h => h) (Or.inl ⟨by rfl, by intro w; go_simp⟩) ?_
 refine take_op (i := 6) (v := r) rfl (by kernel_rfl) (fun _ _ _ h => h) (Or.inl ⟨by rfl, by intro w; go_simp⟩) ?_
 refine take_op (i := 7) (v := .func (Fn.func 82) #[r] #[]) rfl (by kernel_rfl) (fun _ _ _ h => h) (Or.inl ⟨by rfl, by intro w; go_simp⟩) ?_
 refine take_op (i := 9) (v := .agg #[.string ⟨#[117, 110, 105, 102, 121, 95, 119, 105, 116, 104, 95, 111, 99, 99, 117, 114, 115, 95, 99, 104, 101, 99, 107]⟩, .int .i64 2]) rfl (by kernel_rfl) (fun _ _ _ h => h) (Or.inl ⟨by rfl, by intro w; go_simp⟩) ?_
 refine take_op (i := 10) (v := r) rfl (by kernel_rfl) (fun _ _ _ h => h) (Or.inl ⟨by rfl, by intro w; go_simp⟩) ?_
 refine take_op (i := 11) (v := .func (Fn.func 83) #[r] #[]) rfl (by kernel_rfl) (fun _ _ _ h => h) (Or.inl ⟨by rfl, by intro w; go_simp⟩) ?_
 refine take_op (i := 13) (v := .agg #[.string ⟨#[99, 111, 112, 121, 95, 116, 101, 114, 109]⟩, .int .i64 2]) rfl (by kernel_rfl) (fun _ _ _ h => h) (Or.inl ⟨by rfl, by intro w; go_simp⟩) ?_
 refine take_op (i := 14) (v := r) rfl (by kernel_rfl) (fun _ _ _ h => h) (Or.inl ⟨by rfl, by intro w; go_simp⟩) ?_
 refine take_op (i := 15) (v := .func (Fn.func 84) #[r] #[]) rfl (by kernel_rfl) (fun _ _ _ h => h) (Or.inl ⟨by rfl, by intro w; go_simp⟩) ?_
 refine take_op (i := 17) (v := .agg #[.string ⟨#[97, 115, 115, 101, 114, 116, 122]⟩, .int .i64 1]) rfl (by kernel_rfl) (fun _ _ _ h => h) (Or.inl ⟨by rfl, by intro w; go_simp⟩) ?_
 refine take_op (i := 18) (v := r) rfl (by kernel_rfl) (fun _ _ _ h => h) (Or.inl ⟨by rfl, by intro w; go_simp⟩) ?_
 refine take_op (i := 19) (v := .func (Fn.func 85) #[r] #[]) rfl (by kernel_rfl) (fun _ _ _ h => h) (Or.inl ⟨by rfl, by intro w; go_simp⟩) ?_
 refine take_op (i := 21) (v := .agg #[.string ⟨#[97, 115, 115, 101, 114, 116, 97]⟩, .int .i64 1]) rfl (by kernel_rfl) (fun _ _ _ h => h) (Or.inl ⟨by rfl, by intro w; go_simp⟩) ?_
 refine take_op (i := 22) (v := r) rfl (by kernel_rfl) (fun _ _ _ h => h) (Or.inl ⟨by rfl, by intro w; go_simp⟩) ?_
 refine take_op (i := 23) (v := .func (Fn.func 86) #[r] #[]) rfl (by kernel_rfl) (fun _ _ _ h => h) (Or.inl ⟨by rfl, by intro w; go_simp⟩) ?_
 refine take_op (i := 25) (v := .agg #[.string ⟨#[114, 101, 116, 114, 97, 99, 116]⟩, .int .i64 1]) rfl (by kernel_rfl) (fun _ _ _ h => h) (Or.inl ⟨by rfl, by intro w; go_simp⟩) ?_
 refine take_op (i := 26) (v := r) rfl (by kernel_rfl) (fun _ _ _ h => h) (Or.inl ⟨by rfl, by intro w; go_simp⟩) ?_
 refine take_op (i := 27) (v := .func (Fn.func 87) #[r] #[]) rfl (by kernel_rfl) (fun _ _ _ h => h) (Or.inl ⟨by rfl, by intro w; go_simp⟩) ?_
 refine take_op (i := 29) (v := .agg #[.string ⟨#[97, 98, 111, 108, 105, 115, 104]⟩, .int .i64 1]) rfl (by kernel_rfl) (fun _ _ _ h => h) (Or.inl ⟨by rfl, by intro w; go_simp⟩) ?_
 refine take_op (i := 30) (v := r) rfl (by kernel_rfl) (fun _ _ _ h => h) (Or.inl ⟨by rfl, by intro w; go_simp⟩) ?_
 refine take_op (i := 31) (v := .func (Fn.func 88) #[r] #[]) rfl (by kernel_rfl) (fun _ _ _ h => h) (Or.inl ⟨by rfl, by intro w; go_simp⟩) ?_
 refine take_op (i := 33) (v := .agg #[.string ⟨#[100, 121, 110, 97, 109, 105, 99]⟩, .int .i64 1]) rfl (by kernel_rfl) (fun _ _ _ h => h) (Or.inl ⟨by rfl, by intro w; go_simp⟩) ?_
 refine take_op (i := 34) (v := r) rfl (by kernel_rfl) (fun _ _ _ h => h) (Or.inl ⟨by rfl, by intro w; go_simp⟩) ?_
 refine take_op (i := 35) (v := .func (Fn.func 89) #[r] #[]) rfl (by kernel_rfl) (fun _ _ _ h => h) (Or.inl ⟨by rfl, by intro w; go_simp⟩) ?_
 refine take_op (i := 37) (v := .agg #[.string ⟨#[119, 114, 105, 116, 101]⟩, .int .i64 1]) rfl (by kernel_rfl) (fun _ _ _ h => h) (Or.inl ⟨by rfl, by intro w; go_simp⟩) ?_
 refine take_op (i := 38) (v := r) rfl (by kernel_rfl) (fun _ _ _ h => h) (Or.inl ⟨by rfl, by intro w; go_simp⟩) ?_
 refine take_op (i := 39) (v := .func (Fn.func 90) #[r] #[]) rfl (by kernel_rfl) (fun _ _ _ h => h) (Or.inl ⟨by rfl, by intro w; go_simp⟩) ?_
 refine take_op (i := 41) (v := .agg #[.string ⟨#[119, 114, 105, 116, 101, 113]⟩, .int .i64 1]) rfl (by kernel_rfl) (fun _ _ _ h => h) (Or.inl ⟨by rfl, by intro w; go_simp⟩) ?_
 refine take_op (i := 42) (v := r) rfl (by kernel_rfl) (fun _ _ _ h => h) (Or.inl ⟨by rfl, by intro w; go_simp⟩) ?_
 refine take_op (i := 43) (v := .func (Fn.func 91) #[r] #[]) rfl (by kernel_rfl) (fun _ _ _ h => h) (Or.inl ⟨by rfl, by intro w; go_simp⟩) ?_
 refine take_op (i := 45) (v := .agg #[.string ⟨#[119, 114, 105, 116, 101, 95, 99, 97, 110, 111, 110, 105, 99, 97, 108]⟩, .int .i64 1]) rfl (by kernel_rfl) (fun _ _ _ h => h) (Or.inl ⟨by rfl, by intro w; go_simp⟩) ?_
 refine take_op (i := 46) (v := r) rfl (by kernel_rfl) (fun _ _ _ h => h) (Or.inl ⟨by rfl, by intro w; go_simp⟩) ?_
 refine take_op (i := 47) (v := .func (Fn.func 92) #[r] #[]) rfl (by kernel_rfl) (fun _ _ _ h => h) (Or.inl ⟨by rfl, by intro w; go_simp⟩) ?_
 refine take_op (i := 49) (v := .agg #[.string ⟨#[110, 108]⟩, .int .i64 0]) rfl (by kernel_rfl) (fun _ _ _ h => h) (Or.inl ⟨by rfl, by intro w; go_simp⟩) ?_
 refine take_op (i := 50) (v := r) rfl (by kernel_rfl) (fun _ _ _ h => h) (Or.inl ⟨by rfl, by intro w; go_simp⟩) ?_
 refine take_op (i := 51) (v := .func (Fn.func 93) #[r] #[]) rfl (by kernel_rfl) (fun _ _ _ h => h) (Or.inl ⟨by rfl, by intro w; go_simp⟩) ?_
 refine take_op (i := 53) (v := .agg #[.string ⟨#[111, 112]⟩, .int .i64 3]) rfl (by kernel_rfl) (fun _ _ _ h => h) (Or.inl ⟨by rfl, by intro w; go_simp⟩) ?_
 refine take_op (i := 54) (v := r) rfl (by kernel_rfl) (fun _ _ _ h => h) (Or.inl ⟨by rfl, by intro w; go_simp⟩) ?_
 refine take_op (i := 55) (v := .func (Fn.func 94) #[r] #[]) rfl (by kernel_rfl) (fun _ _ _ h => h) (Or.inl ⟨by rfl, by intro w; go_simp⟩) ?_
 refine wpAny_all (rs := [0]) (by kernel_rfl) (by simp) (fun i hi => ?_)
 obtain rfl : i = 0 := by simpa using hi
 refine wpOp_step rfl (fun K hK => ?_)
 rw [if_pos (by rfl)]
 go_simp
 refine hK _ _ ?_
 refine wpAny_left (js := bltJ) (fst := 57) (rest := [58]) (full := (Array.replicate 57 true).push false |>.push false) (by kernel_rfl) (by kernel_rfl) 2 _ (fun left u => LitG w w.heap.size pk (evB r) okPK bltJ bltI left u) ?hs ?hl 14 bltJ _ _ rfl (fun _ h => h) (by decide) (LitS.of (by kernel_rfl)) (LitG.start HM.out)
 case hs =>
  intro left i u hn hi hj hG
  obtain ⟨u', e, hG'⟩ := hG.put spKE Tryz.underlying110 (by decide) hj ((show ∀ i ∈ bltJ, okPK (bltI i).1 by unfold okPK; decide) i hj) hn
  have HG := Lib.hid hG'
  clear hG hG' hmm HM hK hi
  simp only [bltJ, List.mem_cons, List.not_mem_nil, or_false] at hj
  rcases hj with rfl | rfl | rfl | rfl | rfl | rfl | rfl | rfl | rfl | rfl | rfl | rfl | rfl | rfl
  all_goals
   simp only [bltI, pk, evB] at e
   refine wpOp_step rfl (fun K hK => ?_)
   rw [if_pos (by rfl)]
   go_simp
   exact hK _ _ ⟨rfl, HG.out⟩
 case hl =>
  intro u hG
  have HG := Lib.hid (hG.all (l := bltL) rfl (by decide))
  clear hG
  refine take_op (i := 57) (v := .map (some w.heap.size)) rfl (by kernel_rfl) (fun _ _ _ h => h) (Or.inl ⟨by rfl, by intro w; go_simp⟩) ?_
  refine take_op (i := 58) (v := .map (some w.heap.size)) rfl (by kernel_rfl) (fun _ _ _ h => h) (Or.inl ⟨by rfl, by intro w; go_simp⟩) ?_
  refine wpAny_done (by kernel_rfl) ?_ 0
  clear hmm HM hi hK K
  go_wp2_with fail
  go_ret
  exact ⟨_, rfl, HG.out⟩
end Go.Proofs.YtjdnigepnfeboaaGreatDoor
