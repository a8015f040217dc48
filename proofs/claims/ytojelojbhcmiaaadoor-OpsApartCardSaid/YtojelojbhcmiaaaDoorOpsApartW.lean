/-
  The walk of the law OpsApart: it answers true. Conditions: its list of definitions can be read; the types' table and the table of blanks read as the program lays them.
-/
import Derived.Test.YtojelojbhcmiaaaDoorOpsListW
import Derived.Test.YtojelojbhcmiaaaDoorOpsApartP
import Derived.Deep.Cut
import Derived.Deep.CutRange
namespace Go.Proofs.YtojelojbhcmiaaaDoor
open Go.RowKit Go.Maps
set_option maxRecDepth 100000

/-- What holds in a round: the definition in its box, the table, the types. -/
structure ApartInv (w4 : World) (bt bm bx : Nat) (es : List (OpK × OpV)) (x : DefT) (u : World) : Prop where
  c0 : u.cell? ⟨bx, 0, none⟩ = some (.int .i64 x.1)
  c2 : u.cell? ⟨bx, 2, none⟩ = some (.string ⟨x.2.2.toArray⟩)
  tab : TabAt u bt bm es
  kinds : KindsAt u
  below : Below w4.heap.size w4 u
theorem ApartInv.later {w4 : World} {bt bm bx : Nat} {es : List (OpK × OpV)} {x : DefT} {u u' : World} (h : ApartInv w4 bt bm bx es x u) (hb : Below u.heap.size u u') : ApartInv w4 bt bm bx es x u' := by
  have hx := World.block_lt_of_cell? u _ h.c0
  exact ⟨(hb.cell (p := ⟨bx, 0, none⟩) hx).trans h.c0, (hb.cell (p := ⟨bx, 2, none⟩) hx).trans h.c2, h.tab.later hb, h.kinds.later hb, h.below.trans (hb.mono h.below.size)⟩

set_option maxHeartbeats 1000000 in
theorem opsApart_early (w : World) (A : Option Addr) (n c : Nat) (hK : KindsAt w) (htab : Lib.TabIs Tryd.prog w "strings.asciiSpace" .u8 Lib.asciiSpaceTab) (_hn : (n : Int) ≤ 9223372036854775807)
    (h1 : 400 < (n : Int)) :
    Calls Tryd.prog 5 #[.slice A n c] w fun e w' => e = .returned (.bool true) ∧ Below w.heap.size w w' := by
  have HA := Lib.hid (opsAlive_any w hK htab)
  clear hK htab
  go_enter Tryd.func5, Tryd.ntmps5
  go_wp2_with fail
  refine (HA.out).mono ?_
  rintro e w1 ⟨rfl, hb1⟩
  have HB := Lib.hid hb1
  clear hb1
  go_wp2_with fail
  go_ret
  exact ⟨rfl, HB.out⟩

set_option maxHeartbeats 16000000 in
theorem opsApart_main (w : World) (A : Option Addr) (n c : Nat) (l : List DefT) (hK : KindsAt w) (htab : Lib.TabIs Tryd.prog w "strings.asciiSpace" .u8 Lib.asciiSpaceTab) (hl : DefsAt w w.heap.size A n l)
    (hn : (n : Int) ≤ 400) :
    Calls Tryd.prog 5 #[.slice A n c] w fun e w' => e = .returned (.bool true) ∧ Below w.heap.size w w' := by
  have HA := Lib.hid (opsAlive_any w hK htab)
  have HL := Lib.hid hl
  have HK := Lib.hid hK
  have HTAB := Lib.hid htab
  have hk0 := hK.lt
  have hs0 := tabIs_lt htab
  clear hK htab hl
  go_enter Tryd.func5, Tryd.ntmps5
  go_wp2_with fail
  refine (HA.out).mono ?_
  rintro e w2 ⟨rfl, hb2⟩
  have HB2 := Lib.hid hb2
  clear hb2
  go_wp2_with fail
  refine (made_any w2 A n c l ⟨HL.out.1, fun i x hx => ?_⟩ (by omega) (HK.out.below HB2.out hk0) (tabIs_keep HTAB.out (HB2.out.block _ hs0))).mono ?_
  · obtain ⟨b, off, h1, h2, h3⟩ := (HL.out.below HB2.out).2 i x hx
    exact ⟨b, off, h1, Nat.lt_of_lt_of_le h2 HB2.out.size, h3⟩
  rintro e w3 ⟨bt, bm, rfl, hM⟩
  have hlen := tabMade_len l
  have hno := tabMade_noBoth l
  generalize tabMade l = es at *
  have HB3 := Lib.hid (HB2.out.trans (hM.below.mono HB2.out.size))
  have HM3 := Lib.hid hM
  have HNO := Lib.hid hno
  clear hM hno
  go_wp2_with fail
  refine (list_any w3 bt bm es HM3.out.tab (by omega)).mono ?_
  rintro e w4 ⟨v1, L, rfl, hS1, hP1, hO1, hb4⟩
  have hll : L.length ≤ 256 := by have := hP1.length_eq; rw [List.length_map] at this; omega
  have HP := Lib.hid hP1
  have HT4 := Lib.hid (HM3.out.tab.later hb4)
  have HK4 := Lib.hid (HM3.out.kinds.later hb4)
  have HB4 := Lib.hid (HB3.out.trans (hb4.mono HB3.out.size))
  obtain ⟨A1, cap, rfl, hA⟩ := hS1.shape
  have HA1 := Lib.hid hA
  clear hS1 hP1 hO1 hA hb4
  go_wp2_with fail
  go_loopw [23] (fun i wr => ∃ k : Nat, k ≤ L.length ∧ i = .int .i64 k ∧ Below w4.heap.size w4 wr) (fun i _ => L.length - (intOf i).toNat)
  case atStart => exact ⟨0, Nat.zero_le _, rfl, Below.refl _ _⟩
  case round =>
    obtain ⟨k, hk, rfl, hb⟩ := hrel
    by_cases hlt : k < L.length
    · have hne1 : L ≠ [] := by rintro rfl; simp at hlt
      obtain ⟨b, off, e1, hbb, hc⟩ := HA1.out hne1
      have hx := List.getElem?_eq_getElem hlt
      have hmem : L[k] ∈ L := List.getElem_mem hlt
      generalize L[k] = x at hx hmem
      have c0 := hc k x hx 0 _ rfl
      have c1 := hc k x hx 1 _ rfl
      have c2 := hc k x hx 2 _ rfl
      rw [← hb.cell (p := ⟨b, off + k * 3 + 0, none⟩) hbb] at c0
      rw [← hb.cell (p := ⟨b, off + k * 3 + 1, none⟩) hbb] at c1
      rw [← hb.cell (p := ⟨b, off + k * 3 + 2, none⟩) hbb] at c2
      simp only [Nat.add_zero] at c0
      have hlt' : (k : Int) < (L.length : Int) := by omega
      obtain ⟨⟨s, hs, hs1, hs2⟩, hp1, hp2, hxn⟩ := listed HT4.out.map.nodup HT4.out.good HP.out hmem
      have hok : OkName x.2.2 := by unfold OkName maxLen; omega
      have hbw := hb.alloc hb.size (.cells #[.int .i64 x.1, .int .i64 x.2.1, .string ⟨x.2.2.toArray⟩] 44)
      have hbx := (Below.refl wr.heap.size wr).alloc (Nat.le_refl _) (.cells #[.int .i64 x.1, .int .i64 x.2.1, .string ⟨x.2.2.toArray⟩] 44)
      obtain ⟨w5, hw5⟩ : ∃ w5, w5 = wr.alloc (.cells #[.int .i64 x.1, .int .i64 x.2.1, .string ⟨x.2.2.toArray⟩] 44) := ⟨_, rfl⟩
      obtain ⟨bx, hbxe⟩ : ∃ bx, bx = wr.heap.size := ⟨_, rfl⟩
      have d0 : w5.cell? ⟨bx, 0, none⟩ = some (.int .i64 x.1) := by rw [hw5, hbxe]; simp
      have d2 : w5.cell? ⟨bx, 2, none⟩ = some (.string ⟨x.2.2.toArray⟩) := by rw [hw5, hbxe]; simp
      rw [← hw5] at hbw
      have HI5 : Hid (ApartInv w4 bt bm bx es x w5) := ⟨d0, d2, HT4.out.later hbw, HK4.out.later hbw, hbw⟩
      obtain ⟨a, la, ra, ea, ha, hla, hra, hna, hza⟩ := sides_form HT4.out.good 1 x.2.2
      obtain ⟨bb, lb, rb, eb, hbb', hlb, hrb, hnbb, hzb⟩ := sides_form HT4.out.good 2 x.2.2
      obtain ⟨cc, lc, rc, ec, hcc, hlc, hrc, hncc, hzc⟩ := sides_form HT4.out.good 3 x.2.2
      have hnb := HNO.out x.2.2
      have his : isOp es x.2.2 = true := by
        unfold isOp
        rcases hs with rfl | rfl | rfl <;> simp [hs2]
      subst e1
      clear hc hx hb hbw hbx
      go_wp2_with fail
      rw [← hw5, ← hbxe]
      refine (prefix_any w5 bt bm es HI5.out.tab HI5.out.kinds x.2.2 hok).mono ?_
      rintro e w6 ⟨rfl, hb6⟩
      have HI6 := Lib.hid (HI5.out.later hb6)
      have d0 := HI6.out.c0
      have d2 := HI6.out.c2
      clear hb6 hw5 hbxe
      go_wp2_with fail
      refine (infix_any w6 bt bm es HI6.out.tab HI6.out.kinds x.2.2 hok).mono ?_
      rintro e w7 ⟨rfl, hb7⟩
      have HI7 := Lib.hid (HI6.out.later hb7)
      have d0 := HI7.out.c0
      have d2 := HI7.out.c2
      clear hb7
      go_wp2_with fail
      refine (postfix_any w7 bt bm es HI7.out.tab HI7.out.kinds x.2.2 hok).mono ?_
      rintro e w8 ⟨rfl, hb8⟩
      have HI8 := Lib.hid (HI7.out.later hb8)
      have d0 := HI8.out.c0
      have d2 := HI8.out.c2
      clear hb8
      have hor : x.1 = a ∨ x.1 = bb ∨ x.1 = cc := by
        rcases hs with rfl | rfl | rfl
        · rw [ea] at hs1; exact .inl hs1.symm
        · rw [eb] at hs1; exact .inr (.inl hs1.symm)
        · rw [ec] at hs1; exact .inr (.inr hs1.symm)
      clear hs1 hs2 hs hna
      go_upto_region 12 with fail
      go_cut [23, 105] from 23 to 132 (fun i v wx => i = .int .i64 k ∧ v = .bool false ∧ ApartInv w4 bt bm bx es x wx)
      case first =>
        go_wp2_with fail
        refine (is_any w8 bt bm es HI8.out.tab x.2.2 hok).mono ?_
        rintro e w9 ⟨rfl, hb9⟩
        have HI9 := Lib.hid (HI8.out.later hb9)
        have d0 := HI9.out.c0
        have d2 := HI9.out.c2
        rw [his]
        clear hb9 his hor ea eb ec
        by_cases hb0 : bb = 0
        · obtain ⟨rfl, rfl⟩ := hzb hb0
          subst hb0
          clear hzb hnbb hnb hncc hlb hrb hla hrc hza
          rcases hra with qra | qra
          · subst ra
            rcases hlc with qlc | qlc
            · subst lc
              go_wp2_with fail
              go_meet
              exact ⟨rfl, rfl, HI9.out⟩
            · subst lc
              have flc : (cc - 1 == cc) = false := by rw [beq_eq_false_iff_ne]; omega
              go_wp2_with fail
              go_meet
              exact ⟨rfl, rfl, HI9.out⟩
          · subst ra
            have fra : (a - 1 == a) = false := by rw [beq_eq_false_iff_ne]; omega
            rcases hlc with qlc | qlc
            · subst lc
              go_wp2_with fail
              go_meet
              exact ⟨rfl, rfl, HI9.out⟩
            · subst lc
              have flc : (cc - 1 == cc) = false := by rw [beq_eq_false_iff_ne]; omega
              go_wp2_with fail
              go_meet
              exact ⟨rfl, rfl, HI9.out⟩
        · obtain ⟨rfl, rfl, rfl⟩ := hncc (by
            rcases hnb with h | h
            · exact absurd (hnbb h).1 hb0
            · exact h)
          have hb1 : 0 < bb := by omega
          clear hzb hnbb hnb hncc hla hza hzc hlc hrc hb0
          rcases hra with qra | qra
          · subst ra
            rcases hlb with qlb | qlb
            · subst lb
              rcases hrb with qrb | qrb
              · subst rb
                go_wp2_with fail
                go_meet
                exact ⟨rfl, rfl, HI9.out⟩
              · subst rb
                have frb : (bb - 1 == bb) = false := by rw [beq_eq_false_iff_ne]; omega
                go_wp2_with fail
                go_meet
                exact ⟨rfl, rfl, HI9.out⟩
            · subst lb
              have flb : (bb - 1 == bb) = false := by rw [beq_eq_false_iff_ne]; omega
              rcases hrb with qrb | qrb
              · subst rb
                go_wp2_with fail
                go_meet
                exact ⟨rfl, rfl, HI9.out⟩
              · subst rb
                have frb : (bb - 1 == bb) = false := by rw [beq_eq_false_iff_ne]; omega
                go_wp2_with fail
                go_meet
                exact ⟨rfl, rfl, HI9.out⟩
          · subst ra
            have fra : (a - 1 == a) = false := by rw [beq_eq_false_iff_ne]; omega
            rcases hlb with qlb | qlb
            · subst lb
              rcases hrb with qrb | qrb
              · subst rb
                go_wp2_with fail
                go_meet
                exact ⟨rfl, rfl, HI9.out⟩
              · subst rb
                have frb : (bb - 1 == bb) = false := by rw [beq_eq_false_iff_ne]; omega
                go_wp2_with fail
                go_meet
                exact ⟨rfl, rfl, HI9.out⟩
            · subst lb
              have flb : (bb - 1 == bb) = false := by rw [beq_eq_false_iff_ne]; omega
              rcases hrb with qrb | qrb
              · subst rb
                go_wp2_with fail
                go_meet
                exact ⟨rfl, rfl, HI9.out⟩
              · subst rb
                have frb : (bb - 1 == bb) = false := by rw [beq_eq_false_iff_ne]; omega
                go_wp2_with fail
                go_meet
                exact ⟨rfl, rfl, HI9.out⟩
      case rest =>
        obtain ⟨rfl, rfl, hI⟩ := hcut
        have HI9 := Lib.hid hI
        have d0 := HI9.out.c0
        clear hI his
        obtain ⟨x1, x2, x3⟩ := x
        simp only at *
        by_cases hxa : x1 = a
        · subst hxa
          go_wp2_with fail
          go_roundw
          case rel => exact ⟨k + 1, hlt, by go_num, HI9.out.below⟩
          case measure => simp [intOf]; omega
        · have hxa' : (x1 == a) = false := by simpa using hxa
          by_cases hxb : x1 = bb
          · subst hxb
            go_wp2_with fail
            go_roundw
            case rel => exact ⟨k + 1, hlt, by go_num, HI9.out.below⟩
            case measure => simp [intOf]; omega
          · have hxb' : (x1 == bb) = false := by simpa using hxb
            have hxc : x1 = cc := by omega
            subst hxc
            go_wp2_with fail
            go_roundw
            case rel => exact ⟨k + 1, hlt, by go_num, HI9.out.below⟩
            case measure => simp [intOf]; omega
    · have hkn : k = L.length := by omega
      subst hkn
      have HB5 := Lib.hid hb
      clear hb
      go_wp2_with fail
      go_ret
      exact ⟨rfl, HB4.out.trans (HB5.out.mono HB4.out.size)⟩
end Go.Proofs.YtojelojbhcmiaaaDoor
