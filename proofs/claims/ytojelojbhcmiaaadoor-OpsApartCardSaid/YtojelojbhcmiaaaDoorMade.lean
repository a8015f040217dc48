/-
  What Made answers: the first operators' table behind a list of Ops. Conditions: the list can be read; the types' table and the table of blanks read as the program lays them.
-/
import Derived.Test.YtojelojbhcmiaaaDoorTabNew
namespace Go.Proofs.YtojelojbhcmiaaaDoor
open Go.RowKit Go.Maps
set_option maxRecDepth 100000

abbrev DefT := Int × Int × List UInt8
/-- A slice of operators' definitions that reads as a list, and lies below block B. -/
def DefsAt (w : World) (B : Nat) (A : Option Addr) (n : Nat) (l : List DefT) : Prop :=
  l.length = n ∧ ∀ i x, l[i]? = some x → ∃ b off, A = some ⟨b, off, none⟩ ∧ b < B ∧ w.cell? ⟨b, off + i * 3, none⟩ = some (.int .i64 x.1) ∧ w.cell? ⟨b, off + i * 3 + 1, none⟩ = some (.int .i64 x.2.1) ∧
    w.cell? ⟨b, off + i * 3 + 2, none⟩ = some (.string ⟨x.2.2.toArray⟩) ∧ x.2.2.length ≤ maxLen
theorem DefsAt.keep {w w' : World} {B : Nat} {A : Option Addr} {n : Nat} {l : List DefT} (h : DefsAt w B A n l) (hb : ∀ k, k < B → w'.heap[k]? = w.heap[k]?) : DefsAt w' B A n l :=
  ⟨h.1, fun i x hx => by
    obtain ⟨b, off, h1, h2, h3, h4, h5, h6⟩ := h.2 i x hx
    exact ⟨b, off, h1, h2, (World.cell?_of_block (a := ⟨b, off + i * 3, none⟩) (hb b h2)).trans h3, (World.cell?_of_block (a := ⟨b, off + i * 3 + 1, none⟩) (hb b h2)).trans h4, (World.cell?_of_block (a := ⟨b, off + i * 3 + 2, none⟩) (hb b h2)).trans h5, h6⟩⟩
theorem DefsAt.below {w w' : World} {B : Nat} {A : Option Addr} {n : Nat} {l : List DefT} (h : DefsAt w B A n l) (hb : Below B w w') : DefsAt w' B A n l := h.keep hb.block

def tabMade (l : List DefT) : List (OpK × OpV) := l.foldl (fun es d => opTab es d.1 d.2.1 d.2.2) opsInit
theorem tabMade_snoc (l : List DefT) (i : Nat) (h : i < l.length) : tabMade (l.take (i + 1)) = opTab (tabMade (l.take i)) l[i].1 l[i].2.1 l[i].2.2 := by
  unfold tabMade
  rw [List.take_succ_eq_append_getElem h, List.foldl_append]
  rfl

structure MadeInv (w : World) (bt bm : Nat) (es : List (OpK × OpV)) (wr : World) : Prop where
  tab : TabAt wr bt bm es
  kinds : KindsAt wr
  kindsLt : 0 < w.heap.size
  bt_ge : w.heap.size ≤ bt
  bm_ge : w.heap.size ≤ bm
  ne : bt ≠ bm
  below : Below w.heap.size w wr
theorem MadeInv.fr {w wr wr' : World} {bt bm : Nat} {es es' : List (OpK × OpV)} (h : MadeInv w bt bm es wr) (hF : Fr (· = bm) wr wr') (ht : TabAt wr' bt bm es') : MadeInv w bt bm es' wr' := by
  have h1 := h.kindsLt
  have h2 := h.bm_ge
  have h3 := h.below.size
  exact ⟨ht, h.kinds.keep (hF.block _ (by omega) (by omega)), h1, h.bt_ge, h2, h.ne, h.below.trans (hF.below (by omega) (by omega))⟩

set_option maxHeartbeats 1000000 in
theorem made_any (w : World) (A : Option Addr) (n c : Nat) (l : List DefT) (hl : DefsAt w w.heap.size A n l) (hn : n ≤ 1000000) (hK : KindsAt w) (htab : Lib.TabIs Tryd.prog w "strings.asciiSpace" .u8 Lib.asciiSpaceTab) :
    Calls Tryd.prog 17 #[.slice A n c] w fun e w' => ∃ bt bm, e = .returned (.pointer (some ⟨bt, 0, none⟩)) ∧ MadeInv w bt bm (tabMade l) w' := by
  have HL := Lib.hid hl
  have hk0 := hK.lt
  have HK := Lib.hid hK
  have HTAB := Lib.hid htab
  clear hl hK htab
  go_enter Tryd.func17, Tryd.ntmps17
  go_wp2_with fail
  refine (new_any w HK.out HTAB.out).mono ?_
  rintro e w1 ⟨bt, bm, rfl, hT, hbt, hbm, hne, hb1⟩
  have hI : MadeInv w bt bm opsInit w1 := ⟨hT, HK.out.below hb1 hk0, hk0, hbt, hbm, hne, hb1⟩
  have HI := Lib.hid hI
  clear hI hT
  go_wp2_with fail
  go_loopw [9] (fun i wr => ∃ k : Nat, k ≤ n ∧ i = .int .i64 k ∧ MadeInv w bt bm (tabMade (l.take k)) wr) (fun i _ => n - (intOf i).toNat)
  case atStart => exact ⟨0, Nat.zero_le _, rfl, by simpa only [tabMade, List.take_zero, List.foldl_nil] using HI.out⟩
  case round =>
    obtain ⟨k, hk, rfl, hR⟩ := hrel
    by_cases hlt : k < n
    · have hkl : k < l.length := by rw [HL.out.1]; exact hlt
      obtain ⟨b, off, hA, hb, c0, c1, c2, hm⟩ := HL.out.2 k l[k] (List.getElem?_eq_getElem hkl)
      rw [← hR.below.cell (p := ⟨b, off + k * 3, none⟩) hb] at c0
      rw [← hR.below.cell (p := ⟨b, off + k * 3 + 1, none⟩) hb] at c1
      rw [← hR.below.cell (p := ⟨b, off + k * 3 + 2, none⟩) hb] at c2
      have hlt' : (k : Int) < (n : Int) := by omega
      have HR := Lib.hid hR
      clear hR HI
      subst hA
      go_wp2_with fail
      have hba : Below wr.heap.size wr (wr.alloc (.cells #[.int .i64 l[k].1, .int .i64 l[k].2.1, .string ⟨l[k].2.2.toArray⟩] 40)) := (Below.refl _ _).alloc (Nat.le_refl _) _
      refine (op_any _ bt bm _ (HR.out.tab.later hba) (HR.out.kinds.later hba) hne l[k].1 l[k].2.1 l[k].2.2 (Nat.le_trans hm (by unfold maxLen; omega))).mono ?_
      rintro e w2 ⟨rfl, hT2, hF2⟩
      have hfin : MadeInv w bt bm (tabMade (l.take (k + 1))) w2 := by
        rw [tabMade_snoc l k hkl]
        exact HR.out.fr ((Fr.of_below _ hba).trans hF2) hT2
      have HF := Lib.hid hfin
      clear hfin hT2
      go_wp2
      go_roundw
      case rel => exact ⟨k + 1, hlt, by go_num, HF.out⟩
      case measure => simp [intOf]; omega
    · have hkn : k = n := by omega
      subst hkn
      have e1 : l.take k = l := List.take_of_length_le (by rw [HL.out.1]; exact Nat.le_refl _)
      rw [e1] at hR
      have HR := Lib.hid hR
      clear hR HI e1
      go_wp2
      go_ret
      exact ⟨bt, bm, rfl, HR.out⟩
end Go.Proofs.YtojelojbhcmiaaaDoor
