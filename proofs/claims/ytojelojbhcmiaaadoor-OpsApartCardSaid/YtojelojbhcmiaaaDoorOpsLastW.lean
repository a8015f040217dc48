/-
  The walk of the law OpsLast: it answers true. Conditions: its list of definitions can be read; the types' table and the table of blanks read as the program lays them.
-/
import Derived.Test.YtojelojbhcmiaaaDoorOpsA
import Derived.Test.YtojelojbhcmiaaaDoorMget
namespace Go.Proofs.YtojelojbhcmiaaaDoor
open Go.RowKit Go.Maps
set_option maxRecDepth 100000

def refSort (t : Int) : Int := if t ≤ 3 then 2 else if t ≤ 5 then 1 else 3
theorem refSort_kSort (t : Int) (h : 1 ≤ t) : refSort t = kSort t := by unfold refSort kSort; split <;> (try split) <;> (try split) <;> omega

set_option maxHeartbeats 400000 in
theorem refSort_any (w : World) (t : Int) : Calls Tryd.prog 22 #[.int .i64 t] w fun e w' => e = .returned (.int .i64 (refSort t)) ∧ w = w' := by
  unfold refSort
  by_cases h1 : t ≤ 3
  · rw [if_pos h1]
    go_enter Tryd.func22, Tryd.ntmps22
    go_wp2
    go_ret
    exact ⟨rfl, rfl⟩
  · rw [if_neg h1]
    by_cases h2 : t ≤ 5
    · rw [if_pos h2]
      go_enter Tryd.func22, Tryd.ntmps22
      go_wp2
      go_ret
      exact ⟨rfl, rfl⟩
    · rw [if_neg h2]
      go_enter Tryd.func22, Tryd.ntmps22
      go_wp2
      go_ret
      exact ⟨rfl, rfl⟩

theorem tsides_put_other (es : List (OpK × OpV)) (s s' : Int) (n n' : List UInt8) (v : OpV) (h : n' ≠ n ∨ s' ≠ s) : tsides (mput es (s, n) v) s' n' = tsides es s' n' := by
  unfold tsides
  rw [mget_mput_other]
  rintro e
  cases e
  rcases h with h | h <;> exact h rfl
theorem tsides_put_same (es : List (OpK × OpV)) (s : Int) (n : List UInt8) (v : OpV) : tsides (mput es (s, n) v) s n = (v.1, v.1 - kLeft v.2, v.1 - kRight v.2) := by
  unfold tsides
  rw [mget_mput_same]
theorem tsides_none {es : List (OpK × OpV)} {s : Int} {n : List UInt8} (h : mget es (s, n) = none) : tsides es s n = (0, 0, 0) := by
  unfold tsides
  rw [h]

/-- Behind an Op of a priority that was taken. -/
theorem opErr_zero {es : List (OpK × OpV)} {p t : Int} {n : List UInt8} (h : opErr es p t n = 0) (hp : 1 ≤ p) :
    opTab es p t n = mput es (kSort t, n) (p, t) ∧ 1 ≤ t ∧ t ≤ 7 ∧ (kSort t = 2 → mget es (3, n) = none) ∧ (kSort t = 3 → mget es (2, n) = none) := by
  have h' := h
  unfold opErr at h
  split at h
  · cases h
  rename_i h1
  split at h
  · cases h
  split at h
  · omega
  split at h
  · cases h
  rename_i h4
  refine ⟨by unfold opTab; rw [h', if_neg (by simp), if_neg (by omega)], by omega, by omega, ?_, ?_⟩
  · intro e
    simp only [e, true_and, not_or] at h4
    simpa using h4.1
  · intro e
    simp only [e, true_and, not_or] at h4
    simpa using h4.2

/-- The boxed argument's cells. -/
structure LastBox (B : Nat) (A : Option Addr) (n c : Nat) (p0 t0 : Int) (nm : List UInt8) (u : World) : Prop where
  c0 : u.cell? ⟨B, 0, none⟩ = some (.slice A n c)
  c1 : u.cell? ⟨B, 1, none⟩ = some (.int .u16 p0)
  c2 : u.cell? ⟨B, 2, none⟩ = some (.int .u8 t0)
  c3 : u.cell? ⟨B, 3, none⟩ = some (.string ⟨nm.toArray⟩)
theorem LastBox.keep {B : Nat} {A : Option Addr} {n c : Nat} {p0 t0 : Int} {nm : List UInt8} {u u' : World} (h : LastBox B A n c p0 t0 nm u) (hb : u'.heap[B]? = u.heap[B]?) : LastBox B A n c p0 t0 nm u' :=
  ⟨(World.cell?_of_block (a := ⟨B, 0, none⟩) hb).trans h.c0, (World.cell?_of_block (a := ⟨B, 1, none⟩) hb).trans h.c1, (World.cell?_of_block (a := ⟨B, 2, none⟩) hb).trans h.c2, (World.cell?_of_block (a := ⟨B, 3, none⟩) hb).trans h.c3⟩
theorem LastBox.lt {B : Nat} {A : Option Addr} {n c : Nat} {p0 t0 : Int} {nm : List UInt8} {u : World} (h : LastBox B A n c p0 t0 nm u) : B < u.heap.size := World.block_lt_of_cell? u _ h.c0
theorem LastBox.later {B : Nat} {A : Option Addr} {n c : Nat} {p0 t0 : Int} {nm : List UInt8} {u u' : World} (h : LastBox B A n c p0 t0 nm u) (hb : Below u.heap.size u u') : LastBox B A n c p0 t0 nm u' := h.keep (hb.block _ h.lt)
theorem LastBox.made (w : World) (A : Option Addr) (n c : Nat) (p0 t0 : Int) (nm : List UInt8) : LastBox w.heap.size A n c p0 t0 nm (w.alloc (.cells #[.slice A n c, .int .u16 p0, .int .u8 t0, .string ⟨nm.toArray⟩] 25)) :=
  ⟨by simp, by simp, by simp, by simp⟩

set_option maxHeartbeats 1000000 in
theorem opsLast_early (w : World) (A : Option Addr) (n c : Nat) (p0 t0 : Int) (nm other : List UInt8) (hK : KindsAt w) (htab : Lib.TabIs Tryd.prog w "strings.asciiSpace" .u8 Lib.asciiSpaceTab) (hn : (n : Int) ≤ 9223372036854775807) (hm : (nm.length : Int) ≤ 9223372036854775807) (ho : (other.length : Int) ≤ 9223372036854775807)
    (h : 300 < (n : Int) ∨ 2000 < (nm.length : Int) ∨ 2000 < (other.length : Int) ∨ other = nm) :
    Calls Tryd.prog 3 #[.agg #[.slice A n c, .int .u16 p0, .int .u8 t0, .string ⟨nm.toArray⟩], .string ⟨other.toArray⟩] w fun e w' => e = .returned (.bool true) ∧ Below w.heap.size w w' := by
  have hb0 : Below w.heap.size w (w.alloc (.cells #[.slice A n c, .int .u16 p0, .int .u8 t0, .string ⟨nm.toArray⟩] 25)) := (Below.refl _ _).alloc (Nat.le_refl _) _
  have HX := Lib.hid (LastBox.made w A n c p0 t0 nm)
  have HA := Lib.hid (opsAlive_any _ (hK.later hb0) (tabIs_keep htab (hb0.block _ (tabIs_lt htab))))
  have HB0 := Lib.hid hb0
  have H := Lib.hid h
  clear hK htab hb0 h
  by_cases h1 : 300 < (n : Int)
  · clear H
    go_enter Tryd.func3, Tryd.ntmps3
    go_wp2_with fail
    refine (HA.out).mono ?_
    rintro e w1 ⟨rfl, hb1⟩
    obtain ⟨c0, c1, c2, c3⟩ := HX.out.later hb1
    have HB := Lib.hid (HB0.out.trans (hb1.mono HB0.out.size))
    clear hb1
    go_wp2_with fail
    go_ret
    exact ⟨rfl, HB.out⟩
  by_cases h2 : 2000 < (nm.length : Int)
  · have h1' : (n : Int) ≤ 300 := by omega
    clear H h1
    go_enter Tryd.func3, Tryd.ntmps3
    go_wp2_with fail
    refine (HA.out).mono ?_
    rintro e w1 ⟨rfl, hb1⟩
    obtain ⟨c0, c1, c2, c3⟩ := HX.out.later hb1
    have HB := Lib.hid (HB0.out.trans (hb1.mono HB0.out.size))
    clear hb1
    go_wp2_with fail
    go_ret
    exact ⟨rfl, HB.out⟩
  have h1' : (n : Int) ≤ 300 := by omega
  have h2' : (nm.length : Int) ≤ 2000 := by omega
  clear h1 h2
  by_cases h3 : 2000 < (other.length : Int)
  · clear H
    go_enter Tryd.func3, Tryd.ntmps3
    go_wp2_with fail
    refine (HA.out).mono ?_
    rintro e w1 ⟨rfl, hb1⟩
    obtain ⟨c0, c1, c2, c3⟩ := HX.out.later hb1
    have HB := Lib.hid (HB0.out.trans (hb1.mono HB0.out.size))
    clear hb1
    go_wp2_with fail
    go_ret
    exact ⟨rfl, HB.out⟩
  have h3' : (other.length : Int) ≤ 2000 := by omega
  have h4 : other = nm := by
    rcases H.out with h | h | h | h
    · omega
    · omega
    · omega
    · exact h
  subst h4
  clear H h3 h2' hm
  go_enter Tryd.func3, Tryd.ntmps3
  go_wp2_with fail
  refine (HA.out).mono ?_
  rintro e w1 ⟨rfl, hb1⟩
  obtain ⟨c0, c1, c2, c3⟩ := HX.out.later hb1
  have HB := Lib.hid (HB0.out.trans (hb1.mono HB0.out.size))
  clear hb1
  go_wp2_with fail
  go_ret
  exact ⟨rfl, HB.out⟩

/-- What holds on the way. -/
structure LastInv (w : World) (A : Option Addr) (n c : Nat) (p0 t0 : Int) (nm : List UInt8) (bt bm : Nat) (es : List (OpK × OpV)) (u : World) : Prop where
  box : LastBox w.heap.size A n c p0 t0 nm u
  tab : TabAt u bt bm es
  kinds : KindsAt u
  bm_gt : w.heap.size < bm
  ne : bt ≠ bm
  below : Below w.heap.size w u
  kindsLt : 0 < w.heap.size
theorem LastInv.fr {w : World} {A : Option Addr} {n c : Nat} {p0 t0 : Int} {nm : List UInt8} {bt bm : Nat} {es es' : List (OpK × OpV)} {u u' : World} (h : LastInv w A n c p0 t0 nm bt bm es u) (hF : Fr (· = bm) u u') (ht : TabAt u' bt bm es') : LastInv w A n c p0 t0 nm bt bm es' u' := by
  have h1 := h.bm_gt
  have h2 := h.below.size
  have h3 := h.box.lt
  have h4 := h.kindsLt
  exact ⟨h.box.keep (hF.block _ h3 (by omega)), ht, h.kinds.keep (hF.block _ (by omega) (by omega)), h1, h.ne, h.below.trans (hF.below (by omega) (by omega)), h4⟩
theorem LastInv.later {w : World} {A : Option Addr} {n c : Nat} {p0 t0 : Int} {nm : List UInt8} {bt bm : Nat} {es : List (OpK × OpV)} {u u' : World} (h : LastInv w A n c p0 t0 nm bt bm es u) (hb : Below u.heap.size u u') : LastInv w A n c p0 t0 nm bt bm es u' :=
  h.fr (.of_below _ hb) (h.tab.later hb)

set_option maxHeartbeats 2000000 in
theorem opsLast_main (w : World) (A : Option Addr) (n c : Nat) (l : List DefT) (p0 t0 : Int) (nm other : List UInt8) (hK : KindsAt w) (htab : Lib.TabIs Tryd.prog w "strings.asciiSpace" .u8 Lib.asciiSpaceTab) (hl : DefsAt w w.heap.size A n l)
    (hn : (n : Int) ≤ 300) (hm : (nm.length : Int) ≤ 2000) (ho : (other.length : Int) ≤ 2000) (hne : other ≠ nm) (hp0 : 0 ≤ p0) (hp1 : p0 ≤ 65535) (ht0 : 0 ≤ t0) (ht1 : t0 ≤ 255) :
    Calls Tryd.prog 3 #[.agg #[.slice A n c, .int .u16 p0, .int .u8 t0, .string ⟨nm.toArray⟩], .string ⟨other.toArray⟩] w fun e w' => e = .returned (.bool true) ∧ Below w.heap.size w w' := by
  have hb0 : Below w.heap.size w (w.alloc (.cells #[.slice A n c, .int .u16 p0, .int .u8 t0, .string ⟨nm.toArray⟩] 25)) := (Below.refl _ _).alloc (Nat.le_refl _) _
  have HX := Lib.hid (LastBox.made w A n c p0 t0 nm)
  have HA := Lib.hid (opsAlive_any _ (hK.later hb0) (tabIs_keep htab (hb0.block _ (tabIs_lt htab))))
  have HB0 := Lib.hid hb0
  have HL := Lib.hid hl
  have HK := Lib.hid hK
  have HTAB := Lib.hid htab
  have hk0 := hK.lt
  have hs0 := tabIs_lt htab
  have hne' := beq_str other nm hne
  have HNE := Lib.hid hne
  have HON : Hid (∀ n : List UInt8, (n.length : Int) ≤ 2000 → OkName n) := fun n h => by unfold OkName maxLen; omega
  clear hK htab hb0 hl
  go_enter Tryd.func3, Tryd.ntmps3
  go_wp2_with fail
  refine (HA.out).mono ?_
  rintro e w1 ⟨rfl, hb1⟩
  have HX1 := Lib.hid (HX.out.later hb1)
  obtain ⟨c0, c1, c2, c3⟩ := HX1.out
  have HB1 := Lib.hid (HB0.out.trans (hb1.mono HB0.out.size))
  clear hb1
  go_wp2_with fail
  refine (made_any w1 A n c l ⟨HL.out.1, fun i x hx => ?_⟩ (by omega) (HK.out.below HB1.out hk0) (tabIs_keep HTAB.out (HB1.out.block _ hs0))).mono ?_
  · obtain ⟨b, off, h1, h2, h3⟩ := (HL.out.below HB1.out).2 i x hx
    exact ⟨b, off, h1, Nat.lt_of_lt_of_le h2 HB1.out.size, h3⟩
  rintro e w2 ⟨bt, bm, rfl, hM⟩
  have HI2 : Hid (LastInv w A n c p0 t0 nm bt bm (tabMade l) w2) :=
    ⟨HX1.out.later hM.below, hM.tab, hM.kinds, Nat.lt_of_lt_of_le HX1.out.lt hM.bm_ge, hM.ne, HB1.out.trans (hM.below.mono HB1.out.size), hk0⟩
  obtain ⟨d0, d1, d2, d3⟩ := HI2.out.box
  clear hM c0 c1 c2 c3
  generalize tabMade l = es at *
  go_wp2_with fail
  go_quiet (fail)
  obtain ⟨w3, hw3⟩ : ∃ w3, w3 = w2.drewN nq := ⟨_, rfl⟩
  have HI3 : Hid (LastInv w A n c p0 t0 nm bt bm es w3) := by rw [hw3]; exact HI2.out.fr ((Fr.refl _ _).drewN _) (HI2.out.tab.drewN _)
  rw [← hw3]
  obtain ⟨d0, d1, d2, d3⟩ := HI3.out.box
  clear hw3
  go_wp2_with fail
  refine (prefix_any w3 bt bm es HI3.out.tab HI3.out.kinds other (HON.out _ ho)).mono ?_
  rintro e w4 ⟨rfl, hb⟩
  have HI4 := Lib.hid (HI3.out.later hb)
  obtain ⟨d0, d1, d2, d3⟩ := HI4.out.box
  clear hb
  go_wp2_with fail
  refine (infix_any w4 bt bm es HI4.out.tab HI4.out.kinds other (HON.out _ ho)).mono ?_
  rintro e w5 ⟨rfl, hb⟩
  have HI5 := Lib.hid (HI4.out.later hb)
  obtain ⟨d0, d1, d2, d3⟩ := HI5.out.box
  clear hb
  go_wp2_with fail
  refine (postfix_any w5 bt bm es HI5.out.tab HI5.out.kinds other (HON.out _ ho)).mono ?_
  rintro e w6 ⟨rfl, hb⟩
  have HI6 := Lib.hid (HI5.out.later hb)
  obtain ⟨d0, d1, d2, d3⟩ := HI6.out.box
  clear hb
  go_wp2_with fail
  refine (prefix_any w6 bt bm es HI6.out.tab HI6.out.kinds nm (HON.out _ hm)).mono ?_
  rintro e w7 ⟨rfl, hb⟩
  have HI7 := Lib.hid (HI6.out.later hb)
  obtain ⟨d0, d1, d2, d3⟩ := HI7.out.box
  clear hb
  go_wp2_with fail
  refine (infix_any w7 bt bm es HI7.out.tab HI7.out.kinds nm (HON.out _ hm)).mono ?_
  rintro e w8 ⟨rfl, hb⟩
  have HI8 := Lib.hid (HI7.out.later hb)
  obtain ⟨d0, d1, d2, d3⟩ := HI8.out.box
  clear hb
  go_wp2_with fail
  have hpp : 1 ≤ p0 % 1200 + 1 ∧ p0 % 1200 + 1 ≤ 1200 := by omega
  have htt : 1 ≤ t0 % 7 + 1 ∧ t0 % 7 + 1 ≤ 7 := by omega
  generalize p0 % 1200 + 1 = p at *
  generalize t0 % 7 + 1 = t at *
  refine (op_any w8 bt bm es HI8.out.tab HI8.out.kinds HI8.out.ne p t nm (by omega)).mono ?_
  rintro e w9 ⟨rfl, hT, hF⟩
  have HI9 := Lib.hid (HI8.out.fr hF hT)
  clear hT hF
  by_cases hz : opErr es p t nm = 0
  · obtain ⟨he, -, -, hq2, hq3⟩ := opErr_zero hz hpp.1
    rw [he] at HI9
    rw [hz]
    go_wp2_with fail
    refine (prefix_any w9 bt bm _ HI9.out.tab HI9.out.kinds other (HON.out _ ho)).mono ?_
    rintro e w10 ⟨rfl, hb⟩
    have HI10 := Lib.hid (HI9.out.later hb)
    obtain ⟨d0, d1, d2, d3⟩ := HI10.out.box
    clear hb
    rw [tsides_put_other _ _ _ _ _ _ (.inl HNE.out)]
    go_wp2_with fail
    refine (infix_any w10 bt bm _ HI10.out.tab HI10.out.kinds other (HON.out _ ho)).mono ?_
    rintro e w11 ⟨rfl, hb⟩
    have HI11 := Lib.hid (HI10.out.later hb)
    obtain ⟨d0, d1, d2, d3⟩ := HI11.out.box
    clear hb
    rw [tsides_put_other _ _ _ _ _ _ (.inl HNE.out)]
    go_wp2_with fail
    refine (postfix_any w11 bt bm _ HI11.out.tab HI11.out.kinds other (HON.out _ ho)).mono ?_
    rintro e w12 ⟨rfl, hb⟩
    have HI12 := Lib.hid (HI11.out.later hb)
    obtain ⟨d0, d1, d2, d3⟩ := HI12.out.box
    clear hb
    rw [tsides_put_other _ _ _ _ _ _ (.inl HNE.out)]
    go_wp2_with fail
    refine (prefix_any w12 bt bm _ HI12.out.tab HI12.out.kinds nm (HON.out _ hm)).mono ?_
    rintro e w13 ⟨rfl, hb⟩
    have HI13 := Lib.hid (HI12.out.later hb)
    obtain ⟨d0, d1, d2, d3⟩ := HI13.out.box
    clear hb
    go_wp2_with fail
    refine (infix_any w13 bt bm _ HI13.out.tab HI13.out.kinds nm (HON.out _ hm)).mono ?_
    rintro e w14 ⟨rfl, hb⟩
    have HI14 := Lib.hid (HI13.out.later hb)
    obtain ⟨d0, d1, d2, d3⟩ := HI14.out.box
    clear hb
    go_wp2_with fail
    refine (postfix_any w14 bt bm _ HI14.out.tab HI14.out.kinds nm (HON.out _ hm)).mono ?_
    rintro e w15 ⟨rfl, hb⟩
    have HI15 := Lib.hid (HI14.out.later hb)
    obtain ⟨d0, d1, d2, d3⟩ := HI15.out.box
    clear hb
    go_wp2_with fail
    refine (refSort_any w15 t).mono ?_
    rintro e w16 ⟨rfl, rfl⟩
    rw [refSort_kSort t htt.1]
    have hs3 : kSort t = 1 ∨ kSort t = 2 ∨ kSort t = 3 := by unfold kSort; repeat' split <;> omega
    rcases hs3 with hs | hs | hs
    · rw [hs]
      rw [tsides_put_same, tsides_put_other _ 1 2 nm nm _ (.inr (by omega))]
      go_wp2_with fail
      go_ret
      exact ⟨by simp, HI15.out.below⟩
    · rw [hs]
      rw [tsides_put_same, tsides_put_other _ 2 1 nm nm _ (.inr (by omega)), tsides_put_other _ 2 3 nm nm _ (.inr (by omega)), tsides_none (hq2 hs)]
      go_wp2_with fail
      go_ret
      exact ⟨by simp, HI15.out.below⟩
    · rw [hs]
      rw [tsides_put_same, tsides_put_other _ 3 1 nm nm _ (.inr (by omega)), tsides_put_other _ 3 2 nm nm _ (.inr (by omega)), tsides_none (hq3 hs)]
      go_wp2_with fail
      go_ret
      exact ⟨by simp, HI15.out.below⟩
  · have hz' : (opErr es p t nm == 0) = false := by simpa using hz
    go_wp2_with fail
    go_ret
    exact ⟨rfl, HI9.out.below⟩
end Go.Proofs.YtojelojbhcmiaaaDoor
