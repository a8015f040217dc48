/-
  What law25's StatsFits answers: true. Conditions: the table of bits and the index package's cell hold what is named; the slice can be read.
-/
import Derived.Test.YtpiekfkkhgighaaDoorStBackW
import Derived.Test.YtpiekfkkhgighaaDoorEvG
import Derived.Test.YtpiekfkkhgighaaDoorReg
import Derived.Deep.Cut
import Derived.Deep.DeepCutAuto
namespace Go.Proofs.YtpiekfkkhgighaaDoor
open Go.RowKit
set_option maxRecDepth 100000

theorem EvsAt.take {w : World} {B : Nat} {A : Option Addr} {n k : Nat} {l : List Ev} (h : EvsAt w B A n l) (hk : k ≤ n) : EvsAt w B A k (l.take k) :=
  ⟨by rw [List.length_take, h.len]; omega, fun i e he => by
    rw [List.getElem?_take] at he
    split at he
    · exact h.at' i e he
    · cases he⟩

def EvV (u : World) (n : Nat) (l : List Ev) (v : Value) : Prop := ∃ A c, v = .slice A n c ∧ EvsAt u u.heap.size A n l
theorem EvV.later {u u' : World} {n : Nat} {l : List Ev} {v : Value} (h : EvV u n l v) (hb : Below u.heap.size u u') : EvV u' n l v := by
  obtain ⟨A, c, rfl, h⟩ := h
  exact ⟨A, c, rfl, (h.below hb).up hb.size⟩
theorem EvV.of_row {u : World} {B n : Nat} {t : TypeId} {l : List Ev} {v : Value} (h : Row u B t 2 encEv v l) (hl : l.length = n) : EvV u n l v := by
  obtain ⟨A, c, hv, he⟩ := h.evs
  subst hv hl
  exact ⟨A, c, rfl, he⟩
def zero7 : Obj := .cells #[.int .i64 0, .int .i64 0, .int .i64 0, .int .i64 0, .int .i64 0, .int .i64 0, .int .i64 0] 56 (0, 0)
def PtrV (B : Nat) (u : World) (v : Value) : Prop := ∃ b, v = .pointer (some ⟨b, 0, none⟩) ∧ B ≤ b ∧ u.heap[b]? = some zero7
theorem PtrV.later {B : Nat} {u u' : World} {v : Value} (h : PtrV B u v) (hb : Below u.heap.size u u') : PtrV B u' v := by
  obtain ⟨b, rfl, h1, h2⟩ := h
  exact ⟨b, rfl, h1, (hb.block b (Array.getElem?_eq_some_iff.1 h2).1).trans h2⟩
theorem PtrV.ne {B : Nat} {u : World} {v : Value} (h : PtrV B u v) : Value.pointer (some ⟨u.heap.size, 0, none⟩) ≠ v := by
  obtain ⟨b, rfl, h1, h2⟩ := h
  have := (Array.getElem?_eq_some_iff.1 h2).1
  intro h
  injection h with h
  injection h with h
  injection h with h
  omega
theorem alloc_at (u : World) (o : Obj) : (u.alloc o).heap[u.heap.size]? = some o := by
  unfold World.alloc
  exact Array.getElem?_push_size
structure GridS (w : World) (l : List Ev) (k n m : Nat) (p q r : Bool) (v32 v33 v37 v38 v40 v41 v7 v8 v9 : Value) (u : World) : Prop where
  below : Below w.heap.size w u
  c1 : 1 ≤ m → EvV u k (l.take k) v32
  c2 : 2 ≤ m → v33 = .agg (countC (l.take k))
  c3 : 3 ≤ m → EvV u (n - k) (l.drop k) v37
  c4 : 4 ≤ m → v38 = .agg (countC (l.drop k))
  c5 : 5 ≤ m → EvV u n l v40
  c6 : 6 ≤ m → v41 = .agg (countC l)
  p7 : p = true → PtrV w.heap.size u v7
  p8 : q = true → PtrV w.heap.size u v8
  p9 : r = true → PtrV w.heap.size u v9
  d1 : p = true → q = true → v7 ≠ v8
  d2 : p = true → r = true → v7 ≠ v9
  d3 : q = true → r = true → v8 ≠ v9
theorem GridS.later {w : World} {l : List Ev} {k n m : Nat} {p q r : Bool} {v32 v33 v37 v38 v40 v41 v7 v8 v9 : Value} {u u' : World} (h : GridS w l k n m p q r v32 v33 v37 v38 v40 v41 v7 v8 v9 u) (hb : Below u.heap.size u u') : GridS w l k n m p q r v32 v33 v37 v38 v40 v41 v7 v8 v9 u' :=
  ⟨h.below.trans (hb.mono h.below.size), fun x => (h.c1 x).later hb, h.c2, fun x => (h.c3 x).later hb, h.c4, fun x => (h.c5 x).later hb, h.c6, fun x => (h.p7 x).later hb, fun x => (h.p8 x).later hb, fun x => (h.p9 x).later hb, h.d1, h.d2, h.d3⟩
theorem put7_for {u : World} {b : Nat} {a0 a1 a2 a3 a4 a5 a6 : Value} (h : u.heap[b]? = some zero7) {R : World → Prop}
    (hR : ∀ u' : World, u'.heap[b]? = some (.cells #[a0, a1, a2, a3, a4, a5, a6] 56 (0, 0)) → (∀ k, k ≠ b → u'.heap[k]? = u.heap[k]?) → (∀ (B : Nat) (w : World), B ≤ b → Below B w u → Below B w u') → R u') :
    R (((((((u.setCell ⟨b, 0, none⟩ a0).setCell ⟨b, 1, none⟩ a1).setCell ⟨b, 2, none⟩ a2).setCell ⟨b, 3, none⟩ a3).setCell ⟨b, 4, none⟩ a4).setCell ⟨b, 5, none⟩ a5).setCell ⟨b, 6, none⟩ a6) := by
  refine hR _ ?_ (fun k hk => ?_) fun B w hB hb => ?_
  · exact blk_set (blk_set (blk_set (blk_set (blk_set (blk_set (blk_set h _) _) _) _) _) _) _
  · rw [Below.heap_setCell _ _ _ _ hk, Below.heap_setCell _ _ _ _ hk, Below.heap_setCell _ _ _ _ hk, Below.heap_setCell _ _ _ _ hk, Below.heap_setCell _ _ _ _ hk, Below.heap_setCell _ _ _ _ hk, Below.heap_setCell _ _ _ _ hk]
  · repeat (refine Below.setCell ?_ hB _)
    exact hb
structure FS (w : World) (b s : Nat) (X : Obj) (u : World) : Prop where
  below : Below w.heap.size w u
  blk : u.heap[b]? = some X
  sum : u.heap[s]? = some X
theorem FS.later {w : World} {b s : Nat} {X : Obj} {u u' : World} (h : FS w b s X u) (hb : Below u.heap.size u u') : FS w b s X u' :=
  ⟨h.below.trans (hb.mono h.below.size), (hb.block _ (Array.getElem?_eq_some_iff.1 h.blk).1).trans h.blk, (hb.block _ (Array.getElem?_eq_some_iff.1 h.sum).1).trans h.sum⟩
theorem EvsAt.drop {w : World} {B : Nat} {A : Option Addr} {n c k : Nat} {l : List Ev} (h : EvsAt w B A n l) (hc : n ≤ c) : EvsAt w B (if c = k then A else A.map fun x => x.add (k * 2)) (n - k) (l.drop k) :=
  ⟨by rw [List.length_drop, h.len], fun i e he => by
    rw [List.getElem?_drop] at he
    obtain ⟨b, off, rfl, hb, h1, h2⟩ := h.at' _ e he
    have hi := (List.getElem?_eq_some_iff.1 he).1
    rw [h.len] at hi
    rw [if_neg (by omega)]
    refine ⟨b, off + k * 2, by simp [Addr.add], hb, ?_, ?_⟩
    · rw [show off + k * 2 + i * 2 = off + (k + i) * 2 by omega]; exact h1
    · rw [show off + k * 2 + i * 2 + 1 = off + (k + i) * 2 + 1 by omega]; exact h2⟩

set_option maxHeartbeats 8000000 in
theorem stFits_any (w : World) (hE : Env25 w) (A : Option Addr) (n c : Nat) (l : List Ev) (cut : Nat) (h1 : EvArg w A n c l) (hcap : n ≤ c) (hc : cut < 256) (hn : (n : Int) ≤ 9223372036854775807) (ht : ∀ e ∈ l, (e.text.length : Int) ≤ 9223372036854775807) :
    Calls Tryd.prog 6 #[.slice A n c, .int .u8 (cut : Int)] w fun e w' => e = .returned (.bool true) ∧ Below w.heap.size w w' := by
  have HE := Lib.hid hE
  have HA := Lib.hid h1
  have HT := Lib.hid ht
  obtain ⟨i0, z0, hi0, hz0, hz1, hz2, hz3⟩ := ev_info2
  clear hE h1 ht
  go_enter Tryd.func6, Tryd.ntmps6
  go_wp2_with fail
  refine (alive25_any w HE.out).mono ?_
  rintro e w1 ⟨rfl, hb1⟩
  have HA1 := Lib.hid (HA.out.later hb1)
  have HW1 := Lib.hid hb1
  clear hb1 HE HA
  go_wp2_with fail
  refine (great_full w1 A n c l HA1.out.evs hn HT.out).mono ?_
  rintro e w2 ⟨rfl, hb2⟩
  have HA2 := Lib.hid (HA1.out.later hb2)
  have HW2 := Lib.hid (HW1.out.trans (hb2.mono HW1.out.size))
  clear hb2 HA1 HW1
  cases hg : greatE l with
  | true =>
    clear hg
    go_wp2_with fail
    go_ret
    exact ⟨rfl, HW2.out⟩
  | false =>
    have HG := Lib.hid hg
    have hn3 : n ≤ 300 := by rw [← HA2.out.evs.len]; exact (great_no HG.out).1
    have HS : Hid (∀ e ∈ l, e.text.length ≤ 100000) := Lib.hid fun e he => Nat.le_trans (great_text (great_no HG.out).2 e he) (by omega)
    obtain ⟨k, hk⟩ : ∃ k : Nat, k = cut % (n + 1) := ⟨_, rfl⟩
    have hki : (cut : Int) % ((n : Int) + 1) = (k : Int) := by rw [hk]; simp
    have hkn : k ≤ n := by have := Nat.mod_lt cut (show 0 < n + 1 by omega); omega
    have hw2 := HW2.out.size
    have hkc : (k : Int) ≤ (c : Int) := by omega
    have hkn' : (k : Int) ≤ (n : Int) := by omega
    have hcut : (cut : Int) < 256 := by omega
    clear hg hk
    go_wp2_with (at_builtin; refine wpList_evs rfl (.tmp 21) (.tmp 24) 42 rfl _ w2.heap.size 54 i0 z0 Tryd.underlying42 hi0 hz0 hz1 hz2 hz3 _ [] (l.take k) rfl (Row.empty w2 _ _ (Nat.le_refl _)) A k c rfl w2.heap.size ((HA2.out.evs.take hkn).below ((Below.refl _ _).alloc (Nat.le_refl _) _)) (fun h => ⟨by have := (HA2.out.nil h).1; omega, (HA2.out.nil h).2⟩) (by simp; omega) (by simp) ?_)
    intro v3 w3 hr3 hg3
    have hb3 : Below w2.heap.size w2 w3 := ((Fr.of_below (fun k => w2.heap.size ≤ k) (Below.refl w2.heap.size w2)).alloc _ |>.grown hg3 fun g e => .inl (by simp [Value.ownBlock] at e; omega)).below (Nat.le_refl _) (fun k hk => by omega)
    have hw3 := hb3.size
    have HR3 := Lib.hid hr3
    have HH3 := Lib.hid hb3
    clear hr3 hg3 hb3
    have htl : (l.take k).length ≤ k := List.length_take_le _ _
    go_wp2_with (at_builtin; refine wpList_row rfl (.tmp 25) (.tmp 27) 42 rfl _ w2.heap.size 54 i0 z0 2 24 encEv Tryd.underlying42 hi0 hz0 hz1 hz2 hz3 (by decide) encEv_len encEv_one v3 (l.take k) ⟨5, [102, 117, 101, 108]⟩ (by rfl) (HR3.out.alloc _) w3.heap.size 1 (by rfl) (fun j u hu => cell_alloc1 _ _ _ j u (by rw [← Array.getElem?_toList]; exact hu)) (by unfold maxLen; omega) (by omega) (Nat.le_trans hw3 (by simp)) ?_)
    intro v4 w4 hr4 hg4
    have hb4 : Below w2.heap.size w2 w4 := ((Fr.of_below (fun k => w2.heap.size ≤ k) HH3.out).alloc _ |>.grown hg4 fun g e => .inl (HR3.out.lt g e).1).below (Nat.le_refl _) (fun k hk => by omega)
    have HA4 := Lib.hid (HA2.out.later hb4)
    have HW4 := Lib.hid (HW2.out.trans (hb4.mono HW2.out.size))
    have HR4 := Lib.hid hr4
    clear hr4 hg4 hb4 HR3 HH3 HA2 HW2 hw3 hw2
    go_wp2_with fail
    obtain ⟨D, hD⟩ : ∃ D, D = (if c = k then A else A.map fun x => x.add (k * 2)) := ⟨_, rfl⟩
    have HDD : Hid (EvsAt w4 w4.heap.size D (n - k) (l.drop k)) := Lib.hid (by rw [hD]; exact HA4.out.evs.drop hcap)
    have HTK : Hid (EvsAt w4 w4.heap.size A k (l.take k)) := Lib.hid (HA4.out.evs.take hkn)
    have HST : Hid (∀ e ∈ l.take k, e.text.length ≤ 100000) := Lib.hid fun e he => HS.out e (List.mem_of_mem_take he)
    have HSD : Hid (∀ e ∈ l.drop k, e.text.length ≤ 100000) := Lib.hid fun e he => HS.out e (List.mem_of_mem_drop he)
    refine wp_region_any (by kernel_rfl) ?_
    refine wpAny_take (i := 0) (v := .slice A n c) rfl (by kernel_rfl) (by kernel_rfl) (by kernel_rfl) (fun _ _ _ h => h) (Or.inl ⟨by rfl, by intro w; go_simp⟩) ?_
    refine wpAny_take (i := 1) (v := .int .i64 k) rfl (by kernel_rfl) (by kernel_rfl) (by kernel_rfl) (fun _ _ _ h => h) (Or.inl ⟨by rfl, by intro w; go_simp⟩) ?_
    refine wpAny_take (i := 2) (v := .slice A k c) rfl (by kernel_rfl) (by kernel_rfl) (by kernel_rfl) (fun _ _ _ h => h) (Or.inl ⟨by rfl, by intro w; go_simp⟩) ?_
    refine wpAny_take (i := 5) (v := .slice A n c) rfl (by kernel_rfl) (by kernel_rfl) (by kernel_rfl) (fun _ _ _ h => h) (Or.inl ⟨by rfl, by intro w; go_simp⟩) ?_
    refine wpAny_take (i := 6) (v := .int .i64 k) rfl (by kernel_rfl) (by kernel_rfl) (by kernel_rfl) (fun _ _ _ h => h) (Or.inl ⟨by rfl, by intro w; go_simp⟩) ?_
    refine wpAny_take (i := 10) (v := .slice A n c) rfl (by kernel_rfl) (by kernel_rfl) (by kernel_rfl) (fun _ _ _ h => h) (Or.inl ⟨by rfl, by intro w; go_simp⟩) ?_
    refine wpAny_take (i := 7) (v := .slice D (n - k) (c - k)) rfl (by kernel_rfl) (by kernel_rfl) (by kernel_rfl) (fun _ _ _ h => h) (Or.inl ⟨by rfl, by intro w; rw [hD]; go_simp⟩) ?_
    clear hD
    refine wpAny_grid (fun m p q r a u => ∃ v32 v33 v37 v38 v40 v41 v7 v8 v9 : Value, a = { tmps := List.toArray ((.slice A n c) :: (.int .u8 (cut : Int)) :: undef :: undef :: (.bool false) :: (.int .i64 k) :: v4 :: v7 :: v8 :: v9 :: undef :: (.bool true) :: (.bool false) :: (.slice A n c) :: (.bool false) :: (.int .u8 (cut : Int)) :: (.int .i64 (cut : Int)) :: (.slice A n c) :: (.int .i64 (n : Int)) :: (.int .i64 ((n : Int) + 1)) :: (.int .i64 k) :: (.slice (some ⟨w2.heap.size, 0, none⟩) 0 0) :: (.slice A n c) :: (.int .i64 k) :: (.slice A k c) :: v3 :: (.agg #[.int .i64 5, .string ⟨#[102, 117, 101, 108]⟩]) :: (.slice (some ⟨w3.heap.size, 0, none⟩) 1 1) :: v4 :: (.slice A n c) :: (.int .i64 k) :: (.slice A k c) :: v32 :: v33 :: (.slice A n c) :: (.int .i64 k) :: (.slice D (n - k) (c - k)) :: v37 :: v38 :: (.slice A n c) :: v40 :: v41 :: undef :: undef :: undef :: undef :: undef :: undef :: undef :: undef :: undef :: undef :: undef :: undef :: undef :: undef :: undef :: undef :: undef :: undef :: undef :: undef :: undef :: undef :: undef :: undef :: undef :: undef :: undef :: undef :: undef :: undef :: undef :: undef :: undef :: undef :: undef :: undef :: undef :: undef :: undef :: undef :: undef :: undef :: undef :: undef :: undef :: undef :: undef :: undef :: undef :: undef :: undef :: undef :: undef :: undef :: undef :: undef :: undef :: undef :: undef :: undef :: undef :: undef :: undef :: undef :: undef :: undef :: undef :: undef :: undef :: undef :: []), defers := [] } ∧ Hid (GridS w4 l k n m p q r v32 v33 v37 v38 v40 v41 v7 v8 v9 u)) ?hr ?hc ?h1 ?h2 ?h3 ?hd 9 0 false false false _ _ (by decide) (by rfl) ⟨undef, undef, undef, undef, undef, undef, undef, undef, undef, by rfl, Lib.hid ⟨(Below.refl _ _).drew, fun h => absurd h (by decide), fun h => absurd h (by decide), fun h => absurd h (by decide), fun h => absurd h (by decide), fun h => absurd h (by decide), fun h => absurd h (by decide), fun h => absurd h (by decide), fun h => absurd h (by decide), fun h => absurd h (by decide), fun h => absurd h (by decide), fun h => absurd h (by decide), fun h => absurd h (by decide)⟩⟩
    case hr =>
      intro m p q r hm hnot
      rcases (show m = 0 ∨ m = 1 ∨ m = 2 ∨ m = 3 ∨ m = 4 ∨ m = 5 ∨ m = 6 by omega) with rfl | rfl | rfl | rfl | rfl | rfl | rfl <;> cases p <;> cases q <;> cases r <;> first | exact (hnot rfl rfl rfl rfl).elim | kernel_rfl
    case hc =>
      intro m p q r a u hm hG
      rcases (show m = 0 ∨ m = 1 ∨ m = 2 ∨ m = 3 ∨ m = 4 ∨ m = 5 by omega) with rfl | rfl | rfl | rfl | rfl | rfl
      · obtain ⟨v32, v33, v37, v38, v40, v41, v7, v8, v9, rfl, H⟩ := hG
        show wpOp _ _ _ 3 _ _ _
        refine wpOp_step rfl (fun K hK => ?_)
        rw [if_pos (by rfl)]
        have hsz := H.out.below.size
        go_simp
        refine (to_any u A k c (l.take k) ((HTK.out.below H.out.below).up hsz) (by omega)).mono ?_
        rintro e u' ⟨v, rfl, hr, hb⟩
        have HL := H.out.later hb
        exact hK _ _ ⟨_, _, _, _, _, _, _, _, _, by rfl, Lib.hid ⟨HL.below, fun _ => EvV.of_row hr (by simp [HA4.out.evs.len]; try omega), fun h => absurd h (by decide), fun h => absurd h (by decide), fun h => absurd h (by decide), fun h => absurd h (by decide), fun h => absurd h (by decide), HL.p7, HL.p8, HL.p9, HL.d1, HL.d2, HL.d3⟩⟩
      · obtain ⟨v32, v33, v37, v38, v40, v41, v7, v8, v9, rfl, H⟩ := hG
        obtain ⟨A3, c3, rfl, hev⟩ := H.out.c1 (by decide)
        show wpOp _ _ _ 4 _ _ _
        refine wpOp_step rfl (fun K hK => ?_)
        rw [if_pos (by rfl)]
        go_simp
        refine (count_any u A3 k c3 (l.take k) hev (by omega) (HST.out)).mono ?_
        rintro e u' ⟨rfl, hb⟩
        have HL := H.out.later hb
        exact hK _ _ ⟨_, _, _, _, _, _, _, _, _, by rfl, Lib.hid ⟨HL.below, fun _ => HL.c1 (by decide), fun _ => rfl, fun h => absurd h (by decide), fun h => absurd h (by decide), fun h => absurd h (by decide), fun h => absurd h (by decide), HL.p7, HL.p8, HL.p9, HL.d1, HL.d2, HL.d3⟩⟩
      · obtain ⟨v32, v33, v37, v38, v40, v41, v7, v8, v9, rfl, H⟩ := hG
        show wpOp _ _ _ 8 _ _ _
        refine wpOp_step rfl (fun K hK => ?_)
        rw [if_pos (by rfl)]
        have hsz := H.out.below.size
        go_simp
        refine (to_any u D (n - k) (c - k) (l.drop k) ((HDD.out.below H.out.below).up hsz) (by omega)).mono ?_
        rintro e u' ⟨v, rfl, hr, hb⟩
        have HL := H.out.later hb
        exact hK _ _ ⟨_, _, _, _, _, _, _, _, _, by rfl, Lib.hid ⟨HL.below, fun _ => HL.c1 (by decide), fun _ => HL.c2 (by decide), fun _ => EvV.of_row hr (by simp [HA4.out.evs.len]; try omega), fun h => absurd h (by decide), fun h => absurd h (by decide), fun h => absurd h (by decide), HL.p7, HL.p8, HL.p9, HL.d1, HL.d2, HL.d3⟩⟩
      · obtain ⟨v32, v33, v37, v38, v40, v41, v7, v8, v9, rfl, H⟩ := hG
        obtain ⟨A3, c3, rfl, hev⟩ := H.out.c3 (by decide)
        show wpOp _ _ _ 9 _ _ _
        refine wpOp_step rfl (fun K hK => ?_)
        rw [if_pos (by rfl)]
        go_simp
        refine (count_any u A3 (n - k) c3 (l.drop k) hev (by omega) (HSD.out)).mono ?_
        rintro e u' ⟨rfl, hb⟩
        have HL := H.out.later hb
        exact hK _ _ ⟨_, _, _, _, _, _, _, _, _, by rfl, Lib.hid ⟨HL.below, fun _ => HL.c1 (by decide), fun _ => HL.c2 (by decide), fun _ => HL.c3 (by decide), fun _ => rfl, fun h => absurd h (by decide), fun h => absurd h (by decide), HL.p7, HL.p8, HL.p9, HL.d1, HL.d2, HL.d3⟩⟩
      · obtain ⟨v32, v33, v37, v38, v40, v41, v7, v8, v9, rfl, H⟩ := hG
        show wpOp _ _ _ 11 _ _ _
        refine wpOp_step rfl (fun K hK => ?_)
        rw [if_pos (by rfl)]
        have hsz := H.out.below.size
        go_simp
        refine (to_any u A n c l ((HA4.out.evs.below H.out.below).up hsz) (by omega)).mono ?_
        rintro e u' ⟨v, rfl, hr, hb⟩
        have HL := H.out.later hb
        exact hK _ _ ⟨_, _, _, _, _, _, _, _, _, by rfl, Lib.hid ⟨HL.below, fun _ => HL.c1 (by decide), fun _ => HL.c2 (by decide), fun _ => HL.c3 (by decide), fun _ => HL.c4 (by decide), fun _ => EvV.of_row hr (by simp [HA4.out.evs.len]; try omega), fun h => absurd h (by decide), HL.p7, HL.p8, HL.p9, HL.d1, HL.d2, HL.d3⟩⟩
      · obtain ⟨v32, v33, v37, v38, v40, v41, v7, v8, v9, rfl, H⟩ := hG
        obtain ⟨A3, c3, rfl, hev⟩ := H.out.c5 (by decide)
        show wpOp _ _ _ 12 _ _ _
        refine wpOp_step rfl (fun K hK => ?_)
        rw [if_pos (by rfl)]
        go_simp
        refine (count_any u A3 n c3 l hev (by omega) (HS.out)).mono ?_
        rintro e u' ⟨rfl, hb⟩
        have HL := H.out.later hb
        exact hK _ _ ⟨_, _, _, _, _, _, _, _, _, by rfl, Lib.hid ⟨HL.below, fun _ => HL.c1 (by decide), fun _ => HL.c2 (by decide), fun _ => HL.c3 (by decide), fun _ => HL.c4 (by decide), fun _ => HL.c5 (by decide), fun _ => rfl, HL.p7, HL.p8, HL.p9, HL.d1, HL.d2, HL.d3⟩⟩
    case h1 =>
      intro m q r a u hm hG
      obtain ⟨v32, v33, v37, v38, v40, v41, v7, v8, v9, rfl, H⟩ := hG
      refine wpOp_step rfl (fun K hK => ?_)
      rw [if_pos (by rfl)]
      go_simp
      have HL := H.out.later ((Below.refl _ _).alloc (Nat.le_refl _) zero7)
      have HB := H.out.below.size
      have HZ : ∃ b, Value.pointer (some ⟨u.heap.size, 0, none⟩) = .pointer (some ⟨b, 0, none⟩) ∧ w4.heap.size ≤ b ∧ (u.alloc zero7).heap[b]? = some zero7 := ⟨_, rfl, HB, alloc_at u zero7⟩
      refine hK _ _ ⟨_, _, _, _, _, _, _, _, _, by rfl, Lib.hid ?_⟩
      exact ⟨HL.below, HL.c1, HL.c2, HL.c3, HL.c4, HL.c5, HL.c6, fun _ => HZ, HL.p8, HL.p9, fun _ hq => (H.out.p8 hq).ne, fun _ hr => (H.out.p9 hr).ne, HL.d3⟩
    case h2 =>
      intro m p r a u hm hG
      obtain ⟨v32, v33, v37, v38, v40, v41, v7, v8, v9, rfl, H⟩ := hG
      refine wpOp_step rfl (fun K hK => ?_)
      rw [if_pos (by rfl)]
      go_simp
      have HL := H.out.later ((Below.refl _ _).alloc (Nat.le_refl _) zero7)
      have HB := H.out.below.size
      have HZ : ∃ b, Value.pointer (some ⟨u.heap.size, 0, none⟩) = .pointer (some ⟨b, 0, none⟩) ∧ w4.heap.size ≤ b ∧ (u.alloc zero7).heap[b]? = some zero7 := ⟨_, rfl, HB, alloc_at u zero7⟩
      refine hK _ _ ⟨_, _, _, _, _, _, _, _, _, by rfl, Lib.hid ?_⟩
      exact ⟨HL.below, HL.c1, HL.c2, HL.c3, HL.c4, HL.c5, HL.c6, HL.p7, fun _ => HZ, HL.p9, fun hp _ => (H.out.p7 hp).ne.symm, HL.d2, fun _ hr => (H.out.p9 hr).ne⟩
    case h3 =>
      intro m p q a u hm hG
      obtain ⟨v32, v33, v37, v38, v40, v41, v7, v8, v9, rfl, H⟩ := hG
      refine wpOp_step rfl (fun K hK => ?_)
      rw [if_pos (by rfl)]
      go_simp
      have HL := H.out.later ((Below.refl _ _).alloc (Nat.le_refl _) zero7)
      have HB := H.out.below.size
      have HZ : ∃ b, Value.pointer (some ⟨u.heap.size, 0, none⟩) = .pointer (some ⟨b, 0, none⟩) ∧ w4.heap.size ≤ b ∧ (u.alloc zero7).heap[b]? = some zero7 := ⟨_, rfl, HB, alloc_at u zero7⟩
      refine hK _ _ ⟨_, _, _, _, _, _, _, _, _, by rfl, Lib.hid ?_⟩
      exact ⟨HL.below, HL.c1, HL.c2, HL.c3, HL.c4, HL.c5, HL.c6, HL.p7, HL.p8, fun _ => HZ, HL.d1, fun hp _ => (H.out.p7 hp).ne.symm, fun hq _ => (H.out.p8 hq).ne.symm⟩
    case hd =>
      rintro a u ⟨v32, v33, v37, v38, v40, v41, v7, v8, v9, rfl, H⟩
      obtain ⟨b7, h7, hB7, hz7⟩ := H.out.p7 rfl
      obtain ⟨b8, h8, hB8, hz8⟩ := H.out.p8 rfl
      obtain ⟨b9, h9, hB9, hz9⟩ := H.out.p9 rfl
      have d1 := H.out.d1 rfl rfl
      have d2 := H.out.d2 rfl rfl
      have d3 := H.out.d3 rfl rfl
      have e33 := H.out.c2 (by decide)
      have e38 := H.out.c4 (by decide)
      have e41 := H.out.c6 (by decide)
      have hbu := H.out.below
      subst h7 h8 h9 e33 e38 e41
      have d1' : b7 ≠ b8 := fun h => d1 (by rw [h])
      have d2' : b7 ≠ b9 := fun h => d2 (by rw [h])
      have d3' : b8 ≠ b9 := fun h => d3 (by rw [h])
      clear d1 d2 d3
      have HB4 := Lib.hid hbu
      clear hbu H
      unfold countC
      refine wpAny_ready (rs := [16]) (by kernel_rfl) (by simp) ?_
      refine AllReady.cons rfl (fun K hK => ?_) AllReady.nil
      rw [if_pos (by rfl)]
      obtain ⟨⟨c0, c1, c2, c3, c4, c5, c6⟩, hf⟩ := seven_cells hz7
      go_simp
      refine hK _ _ ?_
      clear hK K c0 c1 c2 c3 c4 c5 c6 hf
      refine put7_for (R := fun W => wpAny _ _ _ _ _ _ _ W) hz7 fun u1 g7 k7 m7 => ?_
      have HB5 := Lib.hid (m7 _ _ hB7 HB4.out)
      rw [← k7 _ d1'.symm] at hz8
      rw [← k7 _ d2'.symm] at hz9
      clear HB4 k7 m7 hz7 u
      refine wpAny_ready (rs := [17]) (by kernel_rfl) (by simp) ?_
      refine AllReady.cons rfl (fun K hK => ?_) AllReady.nil
      rw [if_pos (by rfl)]
      obtain ⟨⟨c0, c1, c2, c3, c4, c5, c6⟩, hf⟩ := seven_cells hz8
      go_simp
      refine hK _ _ ?_
      clear hK K c0 c1 c2 c3 c4 c5 c6 hf
      refine put7_for (R := fun W => wpAny _ _ _ _ _ _ _ W) hz8 fun u2 g8 k8 m8 => ?_
      have HB6 := Lib.hid (m8 _ _ hB8 HB5.out)
      rw [← k8 _ d1'] at g7
      rw [← k8 _ d3'.symm] at hz9
      clear HB5 k8 m8 hz8 u1
      refine wpAny_ready (rs := [18]) (by kernel_rfl) (by simp) ?_
      refine AllReady.cons rfl (fun K hK => ?_) AllReady.nil
      rw [if_pos (by rfl)]
      obtain ⟨⟨c0, c1, c2, c3, c4, c5, c6⟩, hf⟩ := seven_cells hz9
      go_simp
      refine hK _ _ ?_
      clear hK K c0 c1 c2 c3 c4 c5 c6 hf
      refine put7_for (R := fun W => wpAny _ _ _ _ _ _ _ W) hz9 fun u3 g9 k9 m9 => ?_
      have HB7 := Lib.hid (m9 _ _ hB9 HB6.out)
      rw [← k9 _ d2'] at g7
      rw [← k9 _ d3'] at g8
      clear HB6 k9 m9 hz9 u2
      refine wpAny_done (by kernel_rfl) ?_ _
      obtain ⟨⟨a0, a1, a2, a3, a4, a5, a6⟩, af⟩ := seven_cells g7
      obtain ⟨⟨b0, b1, b2, b3, b4, b5, b6⟩, bf⟩ := seven_cells g8
      obtain ⟨⟨c0, c1, c2, c3, c4, c5, c6⟩, cf⟩ := seven_cells g9
      clear g7 g8 d1' d2' d3'
      have sum : ∀ i : Int, ((cnt i l : Nat) : Int) = (cnt i (l.take k) : Int) + (cnt i (l.drop k) : Int) := fun i => by rw [← Int.natCast_add, ← cnt_app, List.take_append_drop]
      have sumb : ((bytesN l : Nat) : Int) = (bytesN (l.take k) : Int) + (bytesN (l.drop k) : Int) := by rw [← Int.natCast_add, ← bytes_app, List.take_append_drop]
      have hll : l.length = n := HA4.out.evs.len
      have tk : ∀ i : Int, cnt i (l.take k) ≤ 30000000 := fun i => Nat.le_trans (cnt_le _ _) (by rw [List.length_take]; omega)
      have dk : ∀ i : Int, cnt i (l.drop k) ≤ 30000000 := fun i => Nat.le_trans (cnt_le _ _) (by rw [List.length_drop]; omega)
      have tb : bytesN (l.take k) ≤ 30000000 := Nat.le_trans (bytes_le HST.out) (by rw [List.length_take]; omega)
      have db : bytesN (l.drop k) ≤ 30000000 := Nat.le_trans (bytes_le HSD.out) (by rw [List.length_drop]; omega)
      rw [sum] at c0 c1 c2 c3 c4 c5
      rw [sumb] at c6
      rw [sum, sum, sum, sum, sum, sum, sumb] at g9
      obtain ⟨x1, hx, qx1⟩ : ∃ x : Nat, cnt 1 (l.take k) = x ∧ x ≤ 30000000 := ⟨_, rfl, tk _⟩
      obtain ⟨y1, hy, qy1⟩ : ∃ y : Nat, cnt 1 (l.drop k) = y ∧ y ≤ 30000000 := ⟨_, rfl, dk _⟩
      rw [hx] at a0 c0 g9
      rw [hy] at b0 c0 g9
      clear hx hy
      obtain ⟨x2, hx, qx2⟩ : ∃ x : Nat, cnt 2 (l.take k) = x ∧ x ≤ 30000000 := ⟨_, rfl, tk _⟩
      obtain ⟨y2, hy, qy2⟩ : ∃ y : Nat, cnt 2 (l.drop k) = y ∧ y ≤ 30000000 := ⟨_, rfl, dk _⟩
      rw [hx] at a1 c1 g9
      rw [hy] at b1 c1 g9
      clear hx hy
      obtain ⟨x3, hx, qx3⟩ : ∃ x : Nat, cnt 3 (l.take k) = x ∧ x ≤ 30000000 := ⟨_, rfl, tk _⟩
      obtain ⟨y3, hy, qy3⟩ : ∃ y : Nat, cnt 3 (l.drop k) = y ∧ y ≤ 30000000 := ⟨_, rfl, dk _⟩
      rw [hx] at a2 c2 g9
      rw [hy] at b2 c2 g9
      clear hx hy
      obtain ⟨x4, hx, qx4⟩ : ∃ x : Nat, cnt 4 (l.take k) = x ∧ x ≤ 30000000 := ⟨_, rfl, tk _⟩
      obtain ⟨y4, hy, qy4⟩ : ∃ y : Nat, cnt 4 (l.drop k) = y ∧ y ≤ 30000000 := ⟨_, rfl, dk _⟩
      rw [hx] at a3 c3 g9
      rw [hy] at b3 c3 g9
      clear hx hy
      obtain ⟨x5, hx, qx5⟩ : ∃ x : Nat, cnt 5 (l.take k) = x ∧ x ≤ 30000000 := ⟨_, rfl, tk _⟩
      obtain ⟨y5, hy, qy5⟩ : ∃ y : Nat, cnt 5 (l.drop k) = y ∧ y ≤ 30000000 := ⟨_, rfl, dk _⟩
      rw [hx] at a4 c4 g9
      rw [hy] at b4 c4 g9
      clear hx hy
      obtain ⟨x6, hx, qx6⟩ : ∃ x : Nat, cnt 6 (l.take k) = x ∧ x ≤ 30000000 := ⟨_, rfl, tk _⟩
      obtain ⟨y6, hy, qy6⟩ : ∃ y : Nat, cnt 6 (l.drop k) = y ∧ y ≤ 30000000 := ⟨_, rfl, dk _⟩
      rw [hx] at a5 c5 g9
      rw [hy] at b5 c5 g9
      clear hx hy
      obtain ⟨x7, hx, qx7⟩ : ∃ x : Nat, bytesN (l.take k) = x ∧ x ≤ 30000000 := ⟨_, rfl, tb⟩
      obtain ⟨y7, hy, qy7⟩ : ∃ y : Nat, bytesN (l.drop k) = y ∧ y ≤ 30000000 := ⟨_, rfl, db⟩
      rw [hx] at a6 c6 g9
      rw [hy] at b6 c6 g9
      clear hx hy
      clear sum sumb hll tk dk tb db
      have hw4u := HB7.out.size
      go_wp2_with fail
      have hb9 : b9 < u3.heap.size := (Array.getElem?_eq_some_iff.1 g9).1
      obtain ⟨u4, hu4⟩ : ∃ u4, u4 = u3.alloc (Obj.cells #[.int .i64 ((x1 : Int) + (y1 : Int)), .int .i64 ((x2 : Int) + (y2 : Int)), .int .i64 ((x3 : Int) + (y3 : Int)), .int .i64 ((x4 : Int) + (y4 : Int)), .int .i64 ((x5 : Int) + (y5 : Int)), .int .i64 ((x6 : Int) + (y6 : Int)), .int .i64 ((x7 : Int) + (y7 : Int))] 56) := ⟨_, rfl⟩
      rw [← hu4]
      have HS4 : Hid (FS w4 b9 u3.heap.size (Obj.cells #[.int .i64 ((x1 : Int) + (y1 : Int)), .int .i64 ((x2 : Int) + (y2 : Int)), .int .i64 ((x3 : Int) + (y3 : Int)), .int .i64 ((x4 : Int) + (y4 : Int)), .int .i64 ((x5 : Int) + (y5 : Int)), .int .i64 ((x6 : Int) + (y6 : Int)), .int .i64 ((x7 : Int) + (y7 : Int))] 56) u4) := Lib.hid ⟨by rw [hu4]; exact HB7.out.alloc hw4u _, by rw [hu4, Below.heap_alloc _ _ _ hb9]; exact g9, by rw [hu4]; exact alloc_at _ _⟩
      have hlen : l.length = n := HA4.out.evs.len
      have htk : (l.take k).length = k := by rw [List.length_take]; omega
      have HFC := fits_cut (l := l) (k := k) (by omega) ⟨5, [102, 117, 101, 108]⟩ rfl
      obtain ⟨A4, k4, rfl, he4⟩ := EvV.of_row (n := k + 1) HR4.out (by rw [List.length_append, htk]; rfl)
      have HF4 := Lib.hid he4
      clear a0 a1 a2 a3 a4 a5 a6 af b0 b1 b2 b3 b4 b5 b6 bf c0 c1 c2 c3 c4 c5 c6 cf hu4 g9 hb9 he4 HR4 HB7 htl
      obtain ⟨F, hF⟩ : ∃ F, F = l.take k ++ [⟨5, [102, 117, 101, 108]⟩] := ⟨_, rfl⟩
      rw [← hF] at HF4 HFC
      have hFl : F.length = k + 1 := by rw [hF, List.length_append, htk]; rfl
      clear hF htk
      refine (to_any u4 A n c l ((HA4.out.evs.below HS4.out.below).up HS4.out.below.size) (by omega)).mono ?_
      rintro e u5 ⟨v, rfl, hr, hb⟩
      obtain ⟨P5, q5, rfl, he⟩ := EvV.of_row (n := n) hr hlen
      have HE5 := Lib.hid he
      have HS5 := Lib.hid (HS4.out.later hb)
      clear hr hb he HS4
      go_wp2_with fail
      refine (to_any u5 A n c l ((HA4.out.evs.below HS5.out.below).up HS5.out.below.size) (by omega)).mono ?_
      rintro e u6 ⟨v, rfl, hr, hb⟩
      obtain ⟨P6, q6, rfl, he⟩ := EvV.of_row (n := n) hr hlen
      have HE6 := Lib.hid he
      have HS6 := Lib.hid (HS5.out.later hb)
      have HC6 := Lib.hid ((HE5.out.below hb).up hb.size)
      clear hr hb he HS5 HE5
      go_wp2_with fail
      refine (fits_any u6 P5 P6 n q5 n q6 l l HC6.out HE6.out (by omega) (by omega) (fits_self l)).mono ?_
      rintro e u7 ⟨rfl, hb⟩
      have HS7 := Lib.hid (HS6.out.later hb)
      clear hb HS6 HC6 HE6
      go_wp2_with fail
      refine (to_any u7 A n c l ((HA4.out.evs.below HS7.out.below).up HS7.out.below.size) (by omega)).mono ?_
      rintro e u8 ⟨v, rfl, hr, hb⟩
      obtain ⟨P8, q8, rfl, he⟩ := EvV.of_row (n := n) hr hlen
      have HE8 := Lib.hid he
      have HS8 := Lib.hid (HS7.out.later hb)
      clear hr hb he HS7
      go_wp2_with fail
      refine (to_any u8 A4 (k + 1) k4 F ((HF4.out.below HS8.out.below).up HS8.out.below.size) (by omega)).mono ?_
      rintro e u9 ⟨v, rfl, hr, hb⟩
      obtain ⟨P9, q9, rfl, he⟩ := EvV.of_row (n := (k + 1)) hr hFl
      have HE9 := Lib.hid he
      have HS9 := Lib.hid (HS8.out.later hb)
      have HC9 := Lib.hid ((HE8.out.below hb).up hb.size)
      clear hr hb he HS8 HE8
      go_wp2_with fail
      refine (fits_any u9 P8 P9 n q8 (k + 1) q9 l F HC9.out HE9.out (by omega) (by omega) HFC.1).mono ?_
      rintro e u10 ⟨rfl, hb⟩
      have HS10 := Lib.hid (HS9.out.later hb)
      clear hb HS9 HC9 HE9
      go_wp2_with fail
      refine (to_any u10 A4 (k + 1) k4 F ((HF4.out.below HS10.out.below).up HS10.out.below.size) (by omega)).mono ?_
      rintro e u11 ⟨v, rfl, hr, hb⟩
      obtain ⟨P11, q11, rfl, he⟩ := EvV.of_row (n := (k + 1)) hr hFl
      have HE11 := Lib.hid he
      have HS11 := Lib.hid (HS10.out.later hb)
      clear hr hb he HS10
      go_wp2_with fail
      refine (to_any u11 A n c l ((HA4.out.evs.below HS11.out.below).up HS11.out.below.size) (by omega)).mono ?_
      rintro e u12 ⟨v, rfl, hr, hb⟩
      obtain ⟨P12, q12, rfl, he⟩ := EvV.of_row (n := n) hr hlen
      have HE12 := Lib.hid he
      have HS12 := Lib.hid (HS11.out.later hb)
      have HC12 := Lib.hid ((HE11.out.below hb).up hb.size)
      clear hr hb he HS11 HE11
      go_wp2_with fail
      refine (fits_any u12 P11 P12 (k + 1) q11 n q12 F l HC12.out HE12.out (by omega) (by omega) HFC.2).mono ?_
      rintro e u13 ⟨rfl, hb⟩
      have HS13 := Lib.hid (HS12.out.later hb)
      clear hb HS12 HC12 HE12
      obtain ⟨⟨a0, a1, a2, a3, a4, a5, a6⟩, af⟩ := seven_cells HS13.out.sum
      obtain ⟨⟨c0, c1, c2, c3, c4, c5, c6⟩, cf⟩ := seven_cells HS13.out.blk
      go_wp2_with fail
      refine (to_any u13 A n c l ((HA4.out.evs.below HS13.out.below).up HS13.out.below.size) (by omega)).mono ?_
      rintro e u14 ⟨v, rfl, hr, hb⟩
      obtain ⟨P14, q14, rfl, he⟩ := EvV.of_row (n := n) hr hlen
      have HE14 := Lib.hid he
      have HS14 := Lib.hid (HS13.out.later hb)
      clear hr hb he HS13
      go_wp2_with fail
      refine (to_any u14 A n c l ((HA4.out.evs.below HS14.out.below).up HS14.out.below.size) (by omega)).mono ?_
      rintro e u15 ⟨v, rfl, hr, hb⟩
      obtain ⟨P15, q15, rfl, he⟩ := EvV.of_row (n := n) hr hlen
      have HE15 := Lib.hid he
      have HS15 := Lib.hid (HS14.out.later hb)
      have HC15 := Lib.hid ((HE14.out.below hb).up hb.size)
      clear hr hb he HS14 HE14
      go_wp2_with fail
      refine (common_any u15 P14 P15 n q14 n q15 l l HC15.out HE15.out (by omega)).mono ?_
      rintro e u16 ⟨rfl, hb⟩
      rw [comN_self, hlen]
      have HS16 := Lib.hid (HS15.out.later hb)
      clear hb HS15 HC15 HE15
      go_wp2_with fail
      go_ret
      exact ⟨rfl, HW4.out.trans (HS16.out.below.mono HW4.out.size)⟩
end Go.Proofs.YtpiekfkkhgighaaDoor
