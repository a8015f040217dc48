/-
  What the law's list answers: all operators of the table, sorted by name and type. Condition: the table's block holds a map of well-formed operators, at most 100000.
-/
import Derived.Test.YtiaajpfebcccfaaDoorOpsListW
namespace Go.Proofs.YtiaajpfebcccfaaDoor
open Go.RowKit Go.Maps Go.Lib Go.Sort
set_option maxRecDepth 100000

set_option maxHeartbeats 1000000 in
theorem lawList_any (w : World) (bt bm : Nat) (es : List (OpK × OpV)) (hT : TabAt w bt bm es) (hn : es.length ≤ 100000) :
    Calls Tryd.prog 20 #[.pointer (some ⟨bt, 0, none⟩)] w fun e w' => ∃ v l, e = .returned v ∧ SlAt w' w'.heap.size 3 encDef v l ∧ l.Perm (es.map defOf) ∧ Sorted l ∧ Below w.heap.size w w' ∧ (∀ k, v.ownBlock = some k → w.heap.size ≤ k) := by
  obtain ⟨i, z, hi, hz, hsi, hby, hzs⟩ := refDef_info
  have HT := Lib.hid hT
  clear hT
  go_enter Tryd.func20, Tryd.ntmps20
  go_wp2_with fail
  refine (list_any w bt bm es HT.out hn).mono ?_
  rintro e w1 ⟨v, l, rfl, hS, hp, hs, hb1⟩
  have hlen : l.length = es.length := by simpa using hp.length_eq
  obtain ⟨A, cap, rfl, hA⟩ := hS.shape
  have HA := Lib.hid hA
  have HB := Lib.hid hb1
  have HP := Lib.hid hp
  have HS := Lib.hid hs
  clear hS hA hb1 hp hs
  go_wp2_with fail
  go_loopw [3, 9] (fun v i wr => ∃ k : Nat, k ≤ l.length ∧ i = .int .i64 k ∧ Row wr w1.heap.size 29 3 encDef v (l.take k) ∧ Below w1.heap.size w1 wr) (fun _ i _ => l.length - (intOf i).toNat)
  case atStart => exact ⟨0, Nat.zero_le _, rfl, by simpa using Row.nil _ _ _ _ _, Below.refl _ _⟩
  case round =>
    obtain ⟨k, hk, rfl, hR, hb⟩ := hrel
    by_cases hlt : k < l.length
    · have hne : l ≠ [] := by rintro rfl; simp at hlt
      obtain ⟨b, off, hA', hbb, hc⟩ := HA.out hne
      have hx := List.getElem?_eq_getElem hlt
      generalize l[k] = x at hx
      have c0 := hc k x hx 0 _ rfl
      have c1 := hc k x hx 1 _ rfl
      have c2 := hc k x hx 2 _ rfl
      rw [← hb.cell (p := ⟨b, off + k * 3 + 0, none⟩) hbb] at c0
      rw [← hb.cell (p := ⟨b, off + k * 3 + 1, none⟩) hbb] at c1
      rw [← hb.cell (p := ⟨b, off + k * 3 + 2, none⟩) hbb] at c2
      simp only [Nat.add_zero] at c0
      have hlt' : (k : Int) < (l.length : Int) := by omega
      have HR := Lib.hid hR
      have HX := Lib.hid hx
      have HBB := Lib.hid hb
      have hwr : w1.heap.size ≤ wr.heap.size := hb.size
      clear hR hc hx hb
      subst hA'
      have hkl : (l.take k).length + 1 ≤ 100001 := by rw [List.length_take]; omega
      go_wp2_with (at_builtin; refine wpList_row rfl _ _ 22 rfl _ w1.heap.size 29 i z 3 32 encDef Tryd.underlying22 hi hz hsi hby hzs (by decide) encDef_len encDef_one _ (l.take k) x rfl ((HR.out.alloc _).alloc _) _ _ rfl (fun j u hu => cell_alloc2 _ _ _ _ j u (by simpa [encDef] using hu)) (by unfold maxLen; omega) (by omega) (Nat.le_trans hwr (by simp; omega)) ?_)
      intro v' w5 hrow5 hg5
      have hb5 : Below w1.heap.size w1 w5 := below_grown ((HBB.out.alloc hwr _).alloc (by simp; omega) _) hg5 (fun g e => (HR.out.lt g e).1) (by simp; omega)
      have HB5 := Lib.hid hb5
      have hrow6 : Row w5 w1.heap.size 29 3 encDef v' (l.take (k + 1)) := by
        rw [List.take_succ_eq_append_getElem hlt, show l[k] = x from by have := HX.out; rw [List.getElem?_eq_getElem hlt] at this; exact Option.some.inj this]
        exact hrow5
      have HR6 := Lib.hid hrow6
      clear hb5 hrow5 hrow6 hg5
      go_wp2_with fail
      go_roundw
      case rel => exact ⟨k + 1, hlt, by go_num, HR6.out, HB5.out⟩
      case measure => simp [intOf]; omega
    · have hkn : k = l.length := by omega
      subst hkn
      rw [List.take_length] at hR
      have HR := Lib.hid hR
      have HBB := Lib.hid hb
      clear hR hb
      go_wp2_with fail
      go_ret
      exact ⟨_, l, rfl, SlAt.of_row encDef_len HR.out, HP.out, HS.out, HB.out.trans (HBB.out.mono HB.out.size), fun k hk => Nat.le_trans HB.out.size (HR.out.lt k hk).1⟩
end Go.Proofs.YtiaajpfebcccfaaDoor
