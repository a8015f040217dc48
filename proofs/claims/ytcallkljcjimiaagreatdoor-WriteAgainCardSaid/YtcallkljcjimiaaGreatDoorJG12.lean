import Derived.Test.YtcallkljcjimiaaGreatDoorJG11
import Derived.Test.YtcallkljcjimiaaGreatDoorJW35
import Derived.Deep.RegionHeld3
import Derived.Test.YtcallkljcjimiaaGreatDoorProg
import Derived.KernelRfl
import Derived.WalkKit
import Derived.WalkSmall
import Derived.Lib.Hide
import Derived.Laws.AppendOwn
import Derived.Laws.MakeOwn
import Derived.Deep.OwnRows
import Derived.Laws.AppendOwnNone
import Derived.Deep.AppendLies
import Derived.Deep.RegionLaw
import Derived.WalkSpells
import Derived.BigQuiet
import Derived.Deep.QuietTactic
import Derived.StillTailTactics
import Derived.IntWalk
import Derived.Maps.Keyed
import Derived.StringKeys
import Derived.Lib.ItoaMem
import Derived.Lib.ItoaNum
import Derived.Shelf.Small.Strs
import Derived.Shelf.Small.Wraps
import Derived.Shelf.LaysM
import Derived.Shelf.Strings.Fields
import Derived.Laws.OwnMore
import Derived.Deep.Cut
import Derived.Deep.CutRange
import Derived.Deep.DeepCutAuto
import Derived.Deep.DrawnRows
import Derived.Defers
import Derived.Recover
import Derived.LoopTactic
import Derived.Laws.IdiomStrings
import Derived.Laws.BytesArg
import Derived.Laws.DeepStrings4
import Derived.Shelf.Strings.Search1
import Derived.Shelf.Strings.Search2
import Derived.Shelf.Strings.Search3
import Derived.Shelf.Strings.Count
import Derived.Shelf.Strings.Shaped
import Derived.Shelf.Strings.Prefix
import Derived.Deep.LoopGhost
import Derived.Lib.Index
import Derived.Laws.EntriesVeiled
namespace Go.Proofs.YtcallkljcjimiaaGreatDoor
open Go.RowKit Go.Maps
set_option maxRecDepth 100000
theorem cat_bk (a b : List UInt8) : (⟨a.toArray⟩ ++ ⟨b.toArray⟩ : ByteArray) = ⟨(a ++ b).toArray⟩ := by
 apply ByteArray.ext
 simp
theorem out_cl {u u' : World} {c : ClauseF × Int} {e : Ending} (ho : ReadOut u u' c e) :
    ∃ x An m, e = .returned (.tuple #[clV x (.slice An c.1.names.length m) c.1.line c.1.next, .int .i64 c.2]) ∧
     ∀ U, U = u'.alloc (.cells #[.int .i64 x.k, .int .i64 x.n, .string ⟨x.s.toArray⟩, .slice x.A x.len x.cap, .slice An c.1.names.length m, .int .i64 c.1.line, .int .i64 c.1.next] 50) →
     Below u.heap.size u U ∧ TermAt U U.heap.size x c.1.t ∧ u'.heap.size < U.heap.size ∧ u.heap.size ≤ u'.heap.size ∧
     U.heap[u'.heap.size]? = some (.cells #[.int .i64 x.k, .int .i64 x.n, .string ⟨x.s.toArray⟩, .slice x.A x.len x.cap, .slice An c.1.names.length m, .int .i64 c.1.line, .int .i64 c.1.next] 50 (0, 0)) := by
 obtain ⟨hb, x, nv, B, rfl, hx, hn⟩ := ho
 obtain ⟨An, m, rfl⟩ := hn.shape
 refine ⟨x, An, m, rfl, fun U hU => ?_⟩
 subst hU
 have hb' := hb.trans ((Below.refl _ _).alloc hb.size (.cells #[.int .i64 x.k, .int .i64 x.n, .string ⟨x.s.toArray⟩, .slice x.A x.len x.cap, .slice An c.1.names.length m, .int .i64 c.1.line, .int .i64 c.1.next] 50))
 refine ⟨hb', ?_, by rw [World.size_alloc]; omega, hb.size, heap_alloc_new _ _⟩
 exact ((hx.at fun b hb => hb.lt) : TermAt u' u'.heap.size x c.1.t).later ((Below.refl _ _).alloc (Nat.le_refl _) _)
theorem okL_toks : ∀ (l : List Lxm) (first : Bool), OkL l → (tkL first l).length ≤ (flat l).length ∧ volA (tkL first l) ≤ 4 * (flat l).length ∧ ∀ t ∈ tkL first l, t.s.length ≤ (flat l).length ∧ nOk t.n ∧ 0 ≤ t.kind ∧ t.kind ≤ 7
 | [], _, _ => ⟨Nat.zero_le _, Nat.zero_le _, fun t ht => by cases ht⟩
 | a :: r, first, h => by
  obtain ⟨g, hr⟩ := h
  obtain ⟨i1, i2, i3⟩ := okL_toks r false hr
  have h1 := tokF_short g.tok
  obtain ⟨h2, h3, h4⟩ := tokF_ok g.tok
  have h5 : 1 ≤ a.txt.length := by
   have := g.ne
   cases hx : a.txt with
   | nil => exact absurd hx this
   | cons => rw [List.length_cons]; omega
  have h6 : a.txt.length + (flat r).length ≤ (flat (a :: r)).length := by
   rw [flat_cons, List.length_append]
   unfold Lxm.out
   split
   ·rw [List.length_cons]; omega
   ·exact Nat.le_refl _
  have h1 : a.s.length ≤ a.txt.length := h1
  unfold volA at i2 ⊢
  rw [tkL]
  refine ⟨by rw [List.length_cons]; omega, ?_, fun t ht => ?_⟩
  ·rw [List.map_cons, List.sum_cons]
   simp only
   omega
  ·rcases List.mem_cons.1 ht with rfl | ht
   ·exact ⟨by simp only; omega, h2, h3, h4⟩
   ·obtain ⟨j1, j2⟩ := i3 t ht
    exact ⟨by omega, j2⟩
theorem lx_tokOk {l : List Lxm} (h : OkL l) (hl : (flat l).length ≤ 16000) : TokOk (tkL true l ++ [endTok 1]) := by
 obtain ⟨h1, h2, h3⟩ := okL_toks l true h
 have he : (endTok 1).s = [] ∧ nOk (endTok 1).n ∧ 0 ≤ (endTok 1).kind ∧ (endTok 1).kind ≤ 7 := by
  unfold nOk endTok
  simp
 have ha : ∀ t ∈ tkL true l ++ [endTok 1], t.s.length ≤ (flat l).length ∧ nOk t.n ∧ 0 ≤ t.kind ∧ t.kind ≤ 7 := fun t ht => by
  rcases List.mem_append.1 ht with ht | ht
  ·exact h3 t ht
  ·have : t = endTok 1 := by simpa using ht
   subst this
   obtain ⟨e1, e2⟩ := he
   exact ⟨by rw [e1]; exact Nat.zero_le _, e2⟩
 refine ⟨by rw [List.length_append]; simp only [List.length_cons, List.length_nil]; omega, fun t ht => by have := (ha t ht).1; omega, fun t ht => ?_, ?_⟩
 ·obtain ⟨-, j2, j3, j4⟩ := ha t ht
  exact ⟨j2, by unfold okI; omega⟩
 ·rw [vol_len]
  unfold volA at h2 ⊢
  rw [List.map_append, List.sum_append, List.map_cons, List.sum_cons, he.1]
  simp only [List.map_nil, List.sum_nil, List.length_nil]
  omega
abbrev DefT := Int × Int × List UInt8
def DefsAt (w : World) (B : Nat) (A : Option Addr) (n : Nat) (l : List DefT) : Prop :=
 l.length = n ∧ ∀ i x, l[i]? = some x → ∃ b off, A = some ⟨b, off, none⟩ ∧ b < B ∧ w.cell? ⟨b, off + i * 3, none⟩ = some (.int .i64 x.1) ∧ w.cell? ⟨b, off + i * 3 + 1, none⟩ = some (.int .i64 x.2.1) ∧
  w.cell? ⟨b, off + i * 3 + 2, none⟩ = some (.string ⟨x.2.2.toArray⟩) ∧ x.2.2.length ≤ maxLen
theorem DefsAt.keep {w w' : World} {B : Nat} {A : Option Addr} {n : Nat} {l : List DefT} (h : DefsAt w B A n l) (hb : ∀ k, k < B → w'.heap[k]? = w.heap[k]?) : DefsAt w' B A n l :=
 ⟨h.1, fun i x hx => by
  obtain ⟨b, off, h1, h2, h3, h4, h5, h6⟩ := h.2 i x hx
  exact ⟨b, off, h1, h2, (World.cell?_of_block (a := ⟨b, off + i * 3, none⟩) (hb b h2)).trans h3, (World.cell?_of_block (a := ⟨b, off + i * 3 + 1, none⟩) (hb b h2)).trans h4, (World.cell?_of_block (a := ⟨b, off + i * 3 + 2, none⟩) (hb b h2)).trans h5, h6⟩⟩
theorem DefsAt.below {w w' : World} {B : Nat} {A : Option Addr} {n : Nat} {l : List DefT} (h : DefsAt w B A n l) (hb : Below B w w') : DefsAt w' B A n l := h.keep hb.block
def tabMade (l : List DefT) : List (OpK × OpV) := l.foldl (fun es d => opTab es d.1 d.2.1 d.2.2) opsInit
theorem tabMade_snoc (l : List DefT) (i : Nat) (h : i < l.length) : tabMade (l.take (i + 1)) = opTab (tabMade (l.take i)) l[i].1 l[i].2.1 l[i].2.2 := by
 unfold tabMade
 rw [List.take_succ_eq_append_getElem h, List.foldl_append]
 rfl
structure MadeInv (w : World) (bt bm : Nat) (es : List (OpK × OpV)) (wr : World) : Prop where
 tab : TabAt wr bt bm es
 kinds : KindsAt wr
 kindsLt : 0 < w.heap.size
 bt_ge : w.heap.size ≤ bt
 bm_ge : w.heap.size ≤ bm
 ne : bt ≠ bm
 below : Below w.heap.size w wr
theorem MadeInv.fr {w wr wr' : World} {bt bm : Nat} {es es' : List (OpK × OpV)} (h : MadeInv w bt bm es wr) (hF : Fr (· = bm) wr wr') (ht : TabAt wr' bt bm es') : MadeInv w bt bm es' wr' := by
 have h1 := h.kindsLt
 have h2 := h.bm_ge
 have h3 := h.below.size
 exact ⟨ht, h.kinds.keep (hF.block _ (by omega) (by omega)), h1, h.bt_ge, h2, h.ne, h.below.trans (hF.below (by omega) (by omega))⟩
set_option maxHeartbeats 1000000 in
theorem made_any (w : World) (A : Option Addr) (n c : Nat) (l : List DefT) (hl : DefsAt w w.heap.size A n l) (hn : n ≤ 1000000) (hK : KindsAt w) (htab : Lib.TabIs Tryz.prog w "strings.asciiSpace" .u8 Lib.asciiSpaceTab) :
    Calls Tryz.prog 18 #[.slice A n c] w fun e w' => ∃ bt bm, e = .returned (.pointer (some ⟨bt, 0, none⟩)) ∧ MadeInv w bt bm (tabMade l) w' := by
 have HL := Lib.hid hl
 have hk0 := hK.lt
 have HK := Lib.hid hK
 have HTAB := Lib.hid htab
 clear hl hK htab
 go_enter Tryz.func18, Tryz.ntmps18
 go_wp2_with fail
 refine (new_any w HK.out HTAB.out).mono ?_
 rintro e w1 ⟨bt, bm, rfl, hT, hbt, hbm, hne, hb1⟩
 have hI : MadeInv w bt bm opsInit w1 := ⟨hT, HK.out.below hb1 hk0, hk0, hbt, hbm, hne, hb1⟩
 have HI := Lib.hid hI
 clear hI hT
 go_wp2_with fail
 go_loopw [9] (fun i wr => ∃ k : Nat, k ≤ n ∧ i = .int .i64 k ∧ MadeInv w bt bm (tabMade (l.take k)) wr) (fun i _ => n - (intOf i).toNat)
 case atStart => exact ⟨0, Nat.zero_le _, rfl, by simpa only [tabMade, List.take_zero, List.foldl_nil] using HI.out⟩
 case round =>
  obtain ⟨k, hk, rfl, hR⟩ := hrel
  by_cases hlt : k < n
  ·have hkl : k < l.length := by rw [HL.out.1]; exact hlt
   obtain ⟨b, off, hA, hb, c0, c1, c2, hm⟩ := HL.out.2 k l[k] (List.getElem?_eq_getElem hkl)
   rw [← hR.below.cell (p := ⟨b, off + k * 3, none⟩) hb] at c0
   rw [← hR.below.cell (p := ⟨b, off + k * 3 + 1, none⟩) hb] at c1
   rw [← hR.below.cell (p := ⟨b, off + k * 3 + 2, none⟩) hb] at c2
   have hlt' : (k : Int) < (n : Int) := by omega
   have HR := Lib.hid hR
   clear hR HI
   subst hA
   go_wp2_with fail
   have hba : Below wr.heap.size wr (wr.alloc (.cells #[.int .i64 l[k].1, .int .i64 l[k].2.1, .string ⟨l[k].2.2.toArray⟩] 95)) := (Below.refl _ _).alloc (Nat.le_refl _) _
   refine (op_any _ bt bm _ (HR.out.tab.later hba) (HR.out.kinds.later hba) hne l[k].1 l[k].2.1 l[k].2.2 (Nat.le_trans hm (by unfold maxLen; omega))).mono ?_
   rintro e w2 ⟨rfl, hT2, hF2⟩
   have hfin : MadeInv w bt bm (tabMade (l.take (k + 1))) w2 := by
    rw [tabMade_snoc l k hkl]
    exact HR.out.fr ((Fr.of_below _ hba).trans hF2) hT2
   have HF := Lib.hid hfin
   clear hfin hT2
   go_wp2
   go_roundw
   case rel => exact ⟨k + 1, hlt, by go_num, HF.out⟩
   case measure => simp [intOf]; omega
  ·have hkn : k = n := by omega
   subst hkn
   have e1 : l.take k = l := List.take_of_length_le (by rw [HL.out.1]; exact Nat.le_refl _)
   rw [e1] at hR
   have HR := Lib.hid hR
   clear hR HI e1
   go_wp2
   go_ret
   exact ⟨bt, bm, rfl, HR.out⟩
end Go.Proofs.YtcallkljcjimiaaGreatDoor
