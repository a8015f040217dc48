/-
  The walk of the law OpsBack: it answers true. Conditions: its list of definitions can be read; the types' table and the table of blanks read as the program lays them.
-/
import Derived.Test.YtojelojbhcmiaaaDoorOpsList2
import Derived.Test.YtojelojbhcmiaaaDoorOpsSame
import Derived.Test.YtojelojbhcmiaaaDoorOpsBackP
namespace Go.Proofs.YtojelojbhcmiaaaDoor
open Go.RowKit Go.Maps
set_option maxRecDepth 100000

set_option maxHeartbeats 1000000 in
theorem opsBack_early (w : World) (A : Option Addr) (n c : Nat) (p0 t0 : Int) (nm : List UInt8) (hK : KindsAt w) (htab : Lib.TabIs Tryd.prog w "strings.asciiSpace" .u8 Lib.asciiSpaceTab) (hn : (n : Int) ≤ 9223372036854775807) (hm : (nm.length : Int) ≤ 9223372036854775807)
    (h : 300 < (n : Int) ∨ 2000 < (nm.length : Int)) :
    Calls Tryd.prog 4 #[.agg #[.slice A n c, .int .u16 p0, .int .u8 t0, .string ⟨nm.toArray⟩]] w fun e w' => e = .returned (.bool true) ∧ Below w.heap.size w w' := by
  have hb0 : Below w.heap.size w (w.alloc (.cells #[.slice A n c, .int .u16 p0, .int .u8 t0, .string ⟨nm.toArray⟩] 25)) := (Below.refl _ _).alloc (Nat.le_refl _) _
  have HX := Lib.hid (LastBox.made w A n c p0 t0 nm)
  have HA := Lib.hid (opsAlive_any _ (hK.later hb0) (tabIs_keep htab (hb0.block _ (tabIs_lt htab))))
  have HB0 := Lib.hid hb0
  have H := Lib.hid h
  clear hK htab hb0 h
  by_cases h1 : 300 < (n : Int)
  · clear H
    go_enter Tryd.func4, Tryd.ntmps4
    go_wp2_with fail
    refine (HA.out).mono ?_
    rintro e w1 ⟨rfl, hb1⟩
    obtain ⟨c0, c1, c2, c3⟩ := HX.out.later hb1
    have HB := Lib.hid (HB0.out.trans (hb1.mono HB0.out.size))
    clear hb1
    go_wp2_with fail
    go_quiet (fail)
    go_wp2_with fail
    go_ret
    exact ⟨rfl, HB.out.trans ⟨rfl, rfl, rfl, Nat.le_refl _, fun _ _ => rfl⟩⟩
  · have h2 : 2000 < (nm.length : Int) := by
      rcases H.out with h | h
      · omega
      · exact h
    have h1' : (n : Int) ≤ 300 := by omega
    clear H h1
    go_enter Tryd.func4, Tryd.ntmps4
    go_wp2_with fail
    refine (HA.out).mono ?_
    rintro e w1 ⟨rfl, hb1⟩
    obtain ⟨c0, c1, c2, c3⟩ := HX.out.later hb1
    have HB := Lib.hid (HB0.out.trans (hb1.mono HB0.out.size))
    clear hb1
    go_wp2_with fail
    go_quiet (fail)
    go_wp2_with fail
    go_ret
    exact ⟨rfl, HB.out.trans ⟨rfl, rfl, rfl, Nat.le_refl _, fun _ _ => rfl⟩⟩

set_option maxHeartbeats 2000000 in
theorem opsBack_main (w : World) (A : Option Addr) (n c : Nat) (l : List DefT) (p0 t0 : Int) (nm : List UInt8) (hK : KindsAt w) (htab : Lib.TabIs Tryd.prog w "strings.asciiSpace" .u8 Lib.asciiSpaceTab) (hl : DefsAt w w.heap.size A n l)
    (hn : (n : Int) ≤ 300) (hm : (nm.length : Int) ≤ 2000) (hp0 : 0 ≤ p0) (hp1 : p0 ≤ 65535) (ht0 : 0 ≤ t0) (ht1 : t0 ≤ 255) :
    Calls Tryd.prog 4 #[.agg #[.slice A n c, .int .u16 p0, .int .u8 t0, .string ⟨nm.toArray⟩]] w fun e w' => e = .returned (.bool true) ∧ Below w.heap.size w w' := by
  have hb0 : Below w.heap.size w (w.alloc (.cells #[.slice A n c, .int .u16 p0, .int .u8 t0, .string ⟨nm.toArray⟩] 25)) := (Below.refl _ _).alloc (Nat.le_refl _) _
  have HX := Lib.hid (LastBox.made w A n c p0 t0 nm)
  have HA := Lib.hid (opsAlive_any _ (hK.later hb0) (tabIs_keep htab (hb0.block _ (tabIs_lt htab))))
  have HB0 := Lib.hid hb0
  have HL := Lib.hid hl
  have HK := Lib.hid hK
  have HTAB := Lib.hid htab
  have hk0 := hK.lt
  have hs0 := tabIs_lt htab
  have HON : Hid (∀ n : List UInt8, (n.length : Int) ≤ 2000 → OkName n) := fun n h => by unfold OkName maxLen; omega
  clear hK htab hb0 hl
  go_enter Tryd.func4, Tryd.ntmps4
  go_wp2_with fail
  refine (HA.out).mono ?_
  rintro e w1 ⟨rfl, hb1⟩
  have HX1 := Lib.hid (HX.out.later hb1)
  obtain ⟨c0, c1, c2, c3⟩ := HX1.out
  have HB1 := Lib.hid (HB0.out.trans (hb1.mono HB0.out.size))
  clear hb1
  go_wp2_with fail
  go_quiet (fail)
  obtain ⟨w2, hw2⟩ : ∃ w2, w2 = w1.drewN nq := ⟨_, rfl⟩
  have HB2 : Hid (Below w.heap.size w w2) := by rw [hw2]; exact HB1.out.trans ⟨rfl, rfl, rfl, Nat.le_refl _, fun _ _ => rfl⟩
  rw [← hw2]
  clear hw2 c0 c1 c2 c3
  go_wp2_with fail
  refine (made_any w2 A n c l ⟨HL.out.1, fun i x hx => ?_⟩ (by omega) (HK.out.below HB2.out hk0) (tabIs_keep HTAB.out (HB2.out.block _ hs0))).mono ?_
  · obtain ⟨b, off, h1, h2, h3⟩ := (HL.out.below HB2.out).2 i x hx
    exact ⟨b, off, h1, Nat.lt_of_lt_of_le h2 HB2.out.size, h3⟩
  rintro e w3 ⟨bt, bm, rfl, hM⟩
  have hlen := tabMade_len l
  generalize tabMade l = es at *
  have HB3 := Lib.hid (HB2.out.trans (hM.below.mono HB2.out.size))
  have HM3 := Lib.hid hM
  clear hM
  go_wp2_with fail
  refine (lawList_any w3 bt bm es HM3.out.tab (by omega)).mono ?_
  rintro e w4 ⟨v1, L1, rfl, hS1, hP1, hO1, hb4, hv1⟩
  have HS1 := Lib.hid hS1
  have HP1 := Lib.hid hP1
  have HO1 := Lib.hid hO1
  have HT4 := Lib.hid (HM3.out.tab.later hb4)
  have HK4 := Lib.hid (HM3.out.kinds.later hb4)
  have HB4 := Lib.hid (HB3.out.trans (hb4.mono HB3.out.size))
  have hbm := HM3.out.bm_ge
  have hne := HM3.out.ne
  clear hS1 hP1 hO1
  go_wp2_with fail
  have hpp : 1 ≤ p0 % 1200 + 1 ∧ p0 % 1200 + 1 ≤ 1200 := by omega
  have htt : 1 ≤ t0 % 7 + 1 ∧ t0 % 7 + 1 ≤ 7 := by omega
  go_wp2_with fail
  generalize p0 % 1200 + 1 = p at *
  generalize t0 % 7 + 1 = t at *
  refine (op_any w4 bt bm es HT4.out HK4.out hne p t nm (by omega)).mono ?_
  rintro e w5 ⟨rfl, hT5, hF5⟩
  have HS5 : Hid (SlAt w5 w4.heap.size 3 encDef v1 L1) := HS1.out.keep fun k hk e => hF5.block k hk (by
    have := hv1 k e
    have := HM3.out.tab.map.lt
    omega)
  have HT5 := Lib.hid hT5
  have HK5 : Hid (KindsAt w5) := HK4.out.keep (hF5.block _ HK4.out.lt (by have := HB2.out.size; omega))
  have HB5 : Hid (Below w.heap.size w w5) := HB4.out.trans (hF5.below HB4.out.size (fun k hk => by have := HB2.out.size; omega))
  have hw5 := hF5.size
  clear hT5 hF5
  by_cases hz : opErr es p t nm = 0
  · obtain ⟨he, -, -, hq2, hq3⟩ := opErr_zero hz hpp.1
    rw [he] at HT5
    rw [hz]
    have hlen' := opTab_len es p t nm hlen
    rw [he] at hlen'
    go_wp2_with fail
    refine (lawList_any w5 bt bm _ HT5.out (by omega)).mono ?_
    rintro e w6 ⟨v2, L2, rfl, hS2, hP2, hO2, hb6, hv2⟩
    have hcnt := made_once HT5.out.map.nodup HT5.out.good (mget_mput_same es _ _) hP2
    obtain ⟨A2, cap2, rfl, hA2⟩ := hS2.shape
    have hl2 : L2.length ≤ 256 := by have := hP2.length_eq; rw [List.length_map] at this; omega
    have HA2 := Lib.hid hA2
    have HB6 := Lib.hid (HB5.out.trans (hb6.mono HB5.out.size))
    have HS6 := Lib.hid ((HS5.out.up hw5).below hb6)
    have HT6 := Lib.hid (HT5.out.later hb6)
    have HK6 := Lib.hid (HK5.out.later hb6)
    have hw6 := hb6.size
    clear hA2 hS2 hP2 hO2 hb6
    go_wp2_with fail
    go_loopw [12, 62] (fun f i wr => ∃ k : Nat, k ≤ L2.length ∧ i = .int .i64 k ∧ f = .int .i64 (((L2.take k).count (p, t, nm) : Nat) : Int) ∧ Below w6.heap.size w6 wr) (fun _ i _ => L2.length - (intOf i).toNat)
    case atStart => exact ⟨0, Nat.zero_le _, rfl, by simp, Below.refl _ _⟩
    case round =>
      obtain ⟨k, hk, rfl, rfl, hb⟩ := hrel
      by_cases hlt : k < L2.length
      · have hne2 : L2 ≠ [] := by rintro rfl; simp at hlt
        obtain ⟨b, off, e1, hbb, hc⟩ := HA2.out hne2
        have hx := List.getElem?_eq_getElem hlt
        have htk := List.take_succ_eq_append_getElem hlt
        generalize L2[k] = x at hx htk
        have c0 := hc k x hx 0 _ rfl
        have c1 := hc k x hx 1 _ rfl
        have c2 := hc k x hx 2 _ rfl
        rw [← hb.cell (p := ⟨b, off + k * 3 + 0, none⟩) hbb] at c0
        rw [← hb.cell (p := ⟨b, off + k * 3 + 1, none⟩) hbb] at c1
        rw [← hb.cell (p := ⟨b, off + k * 3 + 2, none⟩) hbb] at c2
        simp only [Nat.add_zero] at c0
        have hlt' : (k : Int) < (L2.length : Int) := by omega
        have hcb : (L2.take k).count (p, t, nm) ≤ 256 := Nat.le_trans (List.count_le_length ..) (by rw [List.length_take]; omega)
        have hb' := Lib.hid (hb.alloc hb.size (.cells #[.int .i64 x.1, .int .i64 x.2.1, .string ⟨x.2.2.toArray⟩] 40))
        subst e1
        clear hc hx hb
        by_cases hxe : x = (p, t, nm)
        · subst hxe
          have hct : (L2.take (k + 1)).count (p, t, nm) = (L2.take k).count (p, t, nm) + 1 := by rw [htk, List.count_append]; simp
          go_wp2_with fail
          go_roundw
          case rel => exact ⟨k + 1, hlt, by go_num, by rw [hct]; go_num, hb'.out⟩
          case measure => simp [intOf]; omega
        · have hct : (L2.take (k + 1)).count (p, t, nm) = (L2.take k).count (p, t, nm) := by rw [htk, List.count_append, List.count_cons]; simp [hxe]
          obtain ⟨x1, x2, x3⟩ := x
          simp only at c0 c1 c2 hb'
          clear htk
          by_cases e1 : x1 = p
          · by_cases e2 : x2 = t
            · have e3 : ¬ x3 = nm := by rintro rfl; exact hxe (by rw [e1, e2])
              subst e1 e2
              go_wp2_with fail
              go_roundw
              case rel => exact ⟨k + 1, hlt, by go_num, by rw [hct], hb'.out⟩
              case measure => simp [intOf]; omega
            · subst e1
              go_wp2_with fail
              go_roundw
              case rel => exact ⟨k + 1, hlt, by go_num, by rw [hct], hb'.out⟩
              case measure => simp [intOf]; omega
          · go_wp2_with fail
            go_roundw
            case rel => exact ⟨k + 1, hlt, by go_num, by rw [hct], hb'.out⟩
            case measure => simp [intOf]; omega
      · have hkn : k = L2.length := by omega
        subst hkn
        rw [List.take_length, hcnt, show ((1 : Nat) : Int) = 1 from rfl]
        have HB7 := Lib.hid (HB6.out.trans (hb.mono HB6.out.size))
        have HS7 := Lib.hid ((HS6.out.up hw6).below hb)
        have HT7 := Lib.hid (HT6.out.later hb)
        have HK7 := Lib.hid (HK6.out.later hb)
        have hw7 := hb.size
        clear hb
        obtain ⟨A1, cap1, rfl, hA1⟩ := HS7.out.shape
        have HA1 := Lib.hid hA1
        clear hA1
        obtain ⟨w7, rfl⟩ : ∃ w7 : World, w7 = wr := ⟨_, rfl⟩
        have hl1 : L1.length ≤ 256 := by have := HP1.out.length_eq; rw [List.length_map] at this; omega
        go_wp2_with fail
        go_loopw [15, 77] (fun o i wr => ∃ k : Nat, k ≤ L1.length ∧ i = .int .i64 k ∧ o = .bool (oldIn t nm (L1.take k)) ∧ Below w7.heap.size w7 wr) (fun _ i _ => L1.length - (intOf i).toNat)
        case atStart => exact ⟨0, Nat.zero_le _, rfl, by simp [oldIn], Below.refl _ _⟩
        case round =>
          obtain ⟨k, hk, rfl, rfl, hb⟩ := hrel
          by_cases hlt : k < L1.length
          · have hne1 : L1 ≠ [] := by rintro rfl; simp at hlt
            obtain ⟨b, off, e1, hbb, hc⟩ := HA1.out hne1
            have hx := List.getElem?_eq_getElem hlt
            have htk := List.take_succ_eq_append_getElem hlt
            generalize L1[k] = x at hx htk
            have hos := old_snoc t nm (L1.take k) x
            rw [← htk] at hos
            have hbb7 : b < w7.heap.size := by omega
            have c0 := hc k x hx 0 _ rfl
            have c1 := hc k x hx 1 _ rfl
            have c2 := hc k x hx 2 _ rfl
            rw [← hb.cell (p := ⟨b, off + k * 3 + 0, none⟩) hbb7] at c0
            rw [← hb.cell (p := ⟨b, off + k * 3 + 1, none⟩) hbb7] at c1
            rw [← hb.cell (p := ⟨b, off + k * 3 + 2, none⟩) hbb7] at c2
            simp only [Nat.add_zero] at c0
            have hlt' : (k : Int) < (L1.length : Int) := by omega
            have hb' := Lib.hid (hb.alloc hb.size (.cells #[.int .i64 x.1, .int .i64 x.2.1, .string ⟨x.2.2.toArray⟩] 40))
            subst e1
            clear hc hx hb htk
            obtain ⟨x1, x2, x3⟩ := x
            simp only at c0 c1 c2 hb' hos
            cases hold : oldIn t nm (L1.take k)
            · by_cases e3 : x3 = nm
              · by_cases e2 : refSort x2 = refSort t
                · have hot : oldIn t nm (L1.take (k + 1)) = true := by rw [hos, hold]; simp [e3, e2]
                  subst e3
                  clear hos
                  go_wp2_with (first | (go_at_call 22; refine (refSort_any _ _).mono ?_; rintro e w' ⟨rfl, rfl⟩))
                  go_roundw
                  case rel => exact ⟨k + 1, hlt, by go_num, by rw [hot], hb'.out⟩
                  case measure => simp [intOf]; omega
                · have hot : oldIn t nm (L1.take (k + 1)) = false := by rw [hos, hold]; simp [e2]
                  subst e3
                  clear hos
                  go_wp2_with (first | (go_at_call 22; refine (refSort_any _ _).mono ?_; rintro e w' ⟨rfl, rfl⟩))
                  go_roundw
                  case rel => exact ⟨k + 1, hlt, by go_num, by rw [hot]; simp [e2], hb'.out⟩
                  case measure => simp [intOf]; omega
              · have hot : oldIn t nm (L1.take (k + 1)) = false := by rw [hos, hold]; simp [e3]
                clear hos
                go_wp2_with fail
                go_roundw
                case rel => exact ⟨k + 1, hlt, by go_num, by rw [hot], hb'.out⟩
                case measure => simp [intOf]; omega
            · have hot : oldIn t nm (L1.take (k + 1)) = true := by rw [hos, hold]; simp
              clear hos
              go_wp2_with fail
              go_roundw
              case rel => exact ⟨k + 1, hlt, by go_num, by rw [hot], hb'.out⟩
              case measure => simp [intOf]; omega
          · have hkn : k = L1.length := by omega
            subst hkn
            rw [List.take_length]
            have HB8 := Lib.hid (HB7.out.trans (hb.mono HB7.out.size))
            have HS8 := Lib.hid ((HS7.out.up hw7).below hb)
            have HT8 := Lib.hid (HT7.out.later hb)
            have HK8 := Lib.hid (HK7.out.later hb)
            have hw8 := hb.size
            obtain ⟨hz2, he2⟩ := op_unmake (es' := mput es (kSort t, nm) (p, t)) hz
            clear hb
            have hmg : oldIn t nm L1 = false → mget es (kSort t, nm) = none := fun h => old_none HT4.out.good htt.1 HP1.out h
            cases hold : oldIn t nm L1
            · have hmd := mdel_mput es (kSort t, nm) (p, t) (hmg hold)
              rw [hmd] at he2
              go_wp2_with fail
              refine (op_any wr bt bm _ HT8.out HK8.out hne 0 t nm (by omega)).mono ?_
              rintro e w9 ⟨rfl, hT9, hF9⟩
              rw [hz2]
              rw [he2] at hT9
              have HS9 : Hid (SlAt w9 wr.heap.size 3 encDef _ L1) := (HS8.out.up hw8).keep fun k hk e => hF9.block k hk (by
                have := hv1 k e
                have := HM3.out.tab.map.lt
                omega)
              have HB9 : Hid (Below w.heap.size w w9) := HB8.out.trans (hF9.below HB8.out.size (fun k hk => by have := HB2.out.size; omega))
              have HT9 := Lib.hid hT9
              have hw9 := hF9.size
              clear hT9 hF9
              go_wp2_with fail
              refine (lawList_any w9 bt bm _ HT9.out (by omega)).mono ?_
              rintro e w10 ⟨v3, L3, rfl, hS3, hP3, hO3, hb10, hv3⟩
              have eL : L3 = L1 := sorted_one (hP3.trans HP1.out.symm) hO3 HO1.out (fun a ha b hb => apart_defs HT4.out.map.nodup HT4.out.good a (HP1.out.mem_iff.1 ha) b (HP1.out.mem_iff.1 hb))
              subst eL
              have HS10 := Lib.hid (((HS9.out.up hw9).below hb10).up hb10.size)
              have HB10 := Lib.hid (HB9.out.trans (hb10.mono HB9.out.size))
              have HS3 := Lib.hid hS3
              clear hS3 hP3 hO3 hb10
              go_wp2_with fail
              refine (same_any w10 w10.heap.size v3 _ L3 HS3.out HS10.out (by omega)).mono ?_
              rintro e w11 ⟨rfl, hb11⟩
              go_wp2_with fail
              go_ret
              exact ⟨rfl, HB10.out.trans (hb11.mono HB10.out.size)⟩
            · go_wp2_with fail
              refine (op_any wr bt bm _ HT8.out HK8.out hne 0 t nm (by omega)).mono ?_
              rintro e w9 ⟨rfl, hT9, hF9⟩
              rw [hz2]
              have HB9 : Hid (Below w.heap.size w w9) := HB8.out.trans (hF9.below HB8.out.size (fun k hk => by have := HB2.out.size; omega))
              clear hT9 hF9
              go_wp2_with fail
              go_ret
              exact ⟨rfl, HB9.out⟩
  · have hz' : (opErr es p t nm == 0) = false := by simpa using hz
    have e0 : opTab es p t nm = es := by unfold opTab; rw [if_pos hz]
    rw [e0] at HT5
    go_wp2_with fail
    refine (lawList_any w5 bt bm _ HT5.out (by omega)).mono ?_
    rintro e w6 ⟨v2, L2, rfl, hS2, hP2, hO2, hb6, hv2⟩
    have eL : L2 = L1 := sorted_one (hP2.trans HP1.out.symm) hO2 HO1.out (fun a ha b hb => apart_defs HT4.out.map.nodup HT4.out.good a (HP1.out.mem_iff.1 ha) b (HP1.out.mem_iff.1 hb))
    subst eL
    have hl2 : L2.length ≤ 256 := by have := hP2.length_eq; rw [List.length_map] at this; omega
    have HS6 := Lib.hid ((HS5.out.up hw5).below hb6)
    have HB6 := Lib.hid (HB5.out.trans (hb6.mono HB5.out.size))
    have hw6 := hb6.size
    have HS2 := Lib.hid hS2
    clear hS2 hP2 hO2 hb6
    go_wp2_with fail
    refine (same_any w6 w6.heap.size v2 v1 L2 HS2.out (HS6.out.up hw6) (by omega)).mono ?_
    rintro e w7 ⟨rfl, hb7⟩
    go_wp2_with fail
    go_ret
    exact ⟨rfl, HB6.out.trans (hb7.mono HB6.out.size)⟩
end Go.Proofs.YtojelojbhcmiaaaDoor
