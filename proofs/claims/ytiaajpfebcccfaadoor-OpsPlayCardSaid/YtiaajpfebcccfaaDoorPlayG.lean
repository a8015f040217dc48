/-
  The walk of the law OpsPlay up to its second loop: what holds as the two tables are made. Conditions: its list of definitions can be read; the types' table and the table of blanks read as the program lays them.
-/
import Derived.Test.YtiaajpfebcccfaaDoorPlayE
import Derived.Test.YtiaajpfebcccfaaDoorPlayF
import Derived.Test.YtiaajpfebcccfaaDoorOpsList2
import Derived.Test.YtiaajpfebcccfaaDoorOpsSame
import Derived.Deep.RegionHeld3
namespace Go.Proofs.YtiaajpfebcccfaaDoor
open Go.RowKit Go.Maps
set_option maxRecDepth 100000

/-- What is copied: nothing yet, or a table and the list of that time. -/
def Copied (rt : Nat) (u : World) (c v : Value) : Prop :=
  (c = .pointer none ∧ v = .slice none 0 0) ∨ ∃ ct cm es L, c = .pointer (some ⟨ct, 0, none⟩) ∧ TabAt u ct cm es ∧ Agree es L ∧ es.length ≤ 256 ∧ rt < ct ∧ rt < cm ∧ Row u (rt + 1) 29 3 encDef v (rlist L)
theorem Copied.keep {rt : Nat} {u u' : World} {c v : Value} (h : Copied rt u c v) (hb : ∀ k, rt < k → k < u.heap.size → u'.heap[k]? = u.heap[k]?) : Copied rt u' c v := by
  rcases h with h | ⟨ct, cm, es, L, h1, h2, h3, h4, h5, h6, h7⟩
  · exact .inl h
  · exact .inr ⟨ct, cm, es, L, h1, h2.keep (hb _ h5 h2.lt) (hb _ h6 h2.map.lt), h3, h4, h5, h6, h7.keep fun k hk => hb k (by have := (h7.lt k hk).1; omega) (h7.lt k hk).2⟩

/-- The two tables, the copy, the types. -/
structure PlayInv (w : World) (bt bm rt : Nat) (es : List (OpK × OpV)) (L : List DefT) (c v : Value) (u : World) : Prop where
  tab : TabAt u bt bm es
  rtab : RTab u rt L
  kinds : KindsAt u
  cp : Copied rt u c v
  kl : 0 < w.heap.size
  bt_ge : w.heap.size ≤ bt
  bm_ge : w.heap.size ≤ bm
  bt_lt : bt < rt
  bm_lt : bm < rt
  ne : bt ≠ bm
  below : Below w.heap.size w u
section
variable {w u u' : World} {bt bm rt : Nat} {es es' : List (OpK × OpV)} {L L' : List DefT} {c v : Value}
theorem PlayInv.later (h : PlayInv w bt bm rt es L c v u) (hb : Below u.heap.size u u') : PlayInv w bt bm rt es L c v u' :=
  ⟨h.tab.later hb, h.rtab.later hb, h.kinds.later hb, h.cp.keep fun k _ hk => hb.block k hk, h.kl, h.bt_ge, h.bm_ge, h.bt_lt, h.bm_lt, h.ne, h.below.trans (hb.mono h.below.size)⟩
theorem PlayInv.op1 (h : PlayInv w bt bm rt es L c v u) (hT : TabAt u' bt bm es') (hF : Fr (· = bm) u u') : PlayInv w bt bm rt es' L c v u' := by
  have h1 := h.bm_lt
  have h2 := h.bm_ge
  have h3 := h.kl
  exact ⟨hT, h.rtab.fr hF h.bm_lt, h.kinds.keep (hF.block _ h.kinds.lt (by omega)), h.cp.keep fun k hk hk2 => hF.block k hk2 (by omega), h.kl, h.bt_ge, h.bm_ge, h.bt_lt, h.bm_lt, h.ne,
    h.below.trans (hF.below h.below.size (fun k hk => by omega))⟩
theorem PlayInv.op2 (h : PlayInv w bt bm rt es L c v u) (hR : RTab u' rt L') (hF : Fr (· = rt) u u') : PlayInv w bt bm rt es L' c v u' := by
  have h1 := h.bm_lt
  have h2 := h.bm_ge
  have h3 := h.kl
  have h4 := h.bt_lt
  exact ⟨h.tab.keep (hF.block _ h.tab.lt (by omega)) (hF.block _ h.tab.map.lt (by omega)), hR, h.kinds.keep (hF.block _ h.kinds.lt (by omega)), h.cp.keep fun k hk hk2 => hF.block k hk2 (by omega), h.kl, h.bt_ge, h.bm_ge, h.bt_lt, h.bm_lt, h.ne,
    h.below.trans (hF.below h.below.size (fun k hk => by omega))⟩
end

theorem box_drew {u : World} {bx : Nat} {a b c : Value} (h : u.cell? ⟨bx, 0, none⟩ = some a ∧ u.cell? ⟨bx, 1, none⟩ = some b ∧ u.cell? ⟨bx, 2, none⟩ = some c) :
    u.drew.cell? ⟨bx, 0, none⟩ = some a ∧ u.drew.cell? ⟨bx, 1, none⟩ = some b ∧ u.drew.cell? ⟨bx, 2, none⟩ = some c := h
theorem box_fr {u u' : World} {bx k : Nat} {a b c : Value} (h : u.cell? ⟨bx, 0, none⟩ = some a ∧ u.cell? ⟨bx, 1, none⟩ = some b ∧ u.cell? ⟨bx, 2, none⟩ = some c) (hF : Fr (· = k) u u') (hk : bx ≠ k) :
    u'.cell? ⟨bx, 0, none⟩ = some a ∧ u'.cell? ⟨bx, 1, none⟩ = some b ∧ u'.cell? ⟨bx, 2, none⟩ = some c := by
  have hl := World.block_lt_of_cell? u _ h.1
  simp only at hl
  have e := hF.block bx hl hk
  exact ⟨(World.cell?_of_block (a := ⟨bx, 0, none⟩) e).trans h.1, (World.cell?_of_block (a := ⟨bx, 1, none⟩) e).trans h.2.1, (World.cell?_of_block (a := ⟨bx, 2, none⟩) e).trans h.2.2⟩

set_option maxHeartbeats 1000000 in
theorem opsPlay_early (w : World) (A : Option Addr) (n c : Nat) (nm : List UInt8) (hK : KindsAt w) (htab : Lib.TabIs Tryd.prog w "strings.asciiSpace" .u8 Lib.asciiSpaceTab) (_hn : (n : Int) ≤ 9223372036854775807) (_hm : (nm.length : Int) ≤ 9223372036854775807)
    (h : 400 < (n : Int) ∨ 2000 < (nm.length : Int)) :
    Calls Tryd.prog 3 #[.slice A n c, .string ⟨nm.toArray⟩] w fun e w' => e = .returned (.bool true) ∧ Below w.heap.size w w' := by
  have HA := Lib.hid (opsAlive_any w hK htab)
  have H := Lib.hid h
  clear hK htab h
  by_cases h1 : 400 < (n : Int)
  · clear H
    go_enter Tryd.func3, Tryd.ntmps3
    go_wp2_with fail
    refine (HA.out).mono ?_
    rintro e w1 ⟨rfl, hb1⟩
    have HB := Lib.hid hb1
    clear hb1
    go_wp2_with fail
    go_ret
    exact ⟨rfl, HB.out⟩
  · have h2 : 2000 < (nm.length : Int) := by
      rcases H.out with h | h
      · omega
      · exact h
    have h1' : (n : Int) ≤ 400 := by omega
    clear H h1
    go_enter Tryd.func3, Tryd.ntmps3
    go_wp2_with fail
    refine (HA.out).mono ?_
    rintro e w1 ⟨rfl, hb1⟩
    have HB := Lib.hid hb1
    clear hb1
    go_wp2_with fail
    go_ret
    exact ⟨rfl, HB.out⟩

set_option maxHeartbeats 16000000 in
theorem opsPlay_main (w : World) (A : Option Addr) (n c : Nat) (l : List DefT) (nm : List UInt8) (hK : KindsAt w) (htab : Lib.TabIs Tryd.prog w "strings.asciiSpace" .u8 Lib.asciiSpaceTab) (hl : DefsAt w w.heap.size A n l)
    (hn : (n : Int) ≤ 400) (hm : (nm.length : Int) ≤ 2000) :
    Calls Tryd.prog 3 #[.slice A n c, .string ⟨nm.toArray⟩] w fun e w' => e = .returned (.bool true) ∧ Below w.heap.size w w' := by
  have HA := Lib.hid (opsAlive_any w hK htab)
  have HL := Lib.hid hl
  have HK := Lib.hid hK
  have HTAB := Lib.hid htab
  have hk0 := hK.lt
  have hs0 := tabIs_lt htab
  have HON : Hid (∀ n : List UInt8, (n.length : Int) ≤ 2000 → OkName n) := fun n h => by unfold OkName maxLen; omega
  clear hK htab hl
  go_enter Tryd.func3, Tryd.ntmps3
  go_wp2_with fail
  refine (HA.out).mono ?_
  rintro e w1 ⟨rfl, hb1⟩
  have HB1 := Lib.hid hb1
  clear hb1
  go_wp2_with fail
  refine (new_any w1 (HK.out.below HB1.out hk0) (tabIs_keep HTAB.out (HB1.out.block _ hs0))).mono ?_
  rintro e w2 ⟨bt, bm, rfl, hT, hbt, hbm, hne, hb2⟩
  have HT2 := Lib.hid hT
  have HB2 := Lib.hid hb2
  clear hT hb2
  go_wp2_with fail
  refine (rNew_any w2).mono ?_
  rintro e w3 ⟨rt, rfl, hrt, hR3, hb3⟩
  have hAg : Agree opsInit rInit := ⟨rInit_perm, HT2.out.good, HT2.out.map.nodup⟩
  have hB2 : Below w.heap.size w w2 := HB1.out.trans (HB2.out.mono HB1.out.size)
  have hI : PlayInv w bt bm rt opsInit rInit (.pointer none) (.slice none 0 0) w3 :=
    ⟨HT2.out.later hb3, hR3, (HK.out.below hB2 hk0).later hb3, .inl ⟨rfl, rfl⟩, hk0, Nat.le_trans HB1.out.size hbt, Nat.le_trans HB1.out.size hbm, Nat.lt_of_lt_of_le HT2.out.lt hrt, Nat.lt_of_lt_of_le HT2.out.map.lt hrt, hne, hB2.trans (hb3.mono hB2.size)⟩
  have HI := Lib.hid hI
  have HAG := Lib.hid hAg
  have HLEN : Hid (opsInit.length ≤ 256) := init_len
  clear hI hAg hB2 hR3 hb3
  generalize opsInit = es0 at *
  generalize rInit = L0 at *
  go_wp2_with fail
  go_loopw [7, 8, 41] (fun cp cv i u => ∃ k : Nat, k ≤ n ∧ i = .int .i64 k ∧ ∃ es L, PlayInv w bt bm rt es L cp cv u ∧ Agree es L ∧ Hid (es.length ≤ 256)) (fun _ _ i _ => n - (intOf i).toNat)
  case atStart => exact ⟨0, Nat.zero_le _, rfl, _, _, HI.out, HAG.out, HLEN⟩
  case round =>
    obtain ⟨k, hk, rfl, es, L, hR, hG, HLES⟩ := hrel
    obtain ⟨cp, rfl⟩ : ∃ cp : Value, cp = u7 := ⟨_, rfl⟩
    obtain ⟨cv, rfl⟩ : ∃ cv : Value, cv = u8 := ⟨_, rfl⟩
    by_cases hlt : k < n
    · have hkl : k < l.length := by rw [HL.out.1]; exact hlt
      obtain ⟨b, off, hA, hb, c0, c1, c2, hmx⟩ := HL.out.2 k l[k] (List.getElem?_eq_getElem hkl)
      generalize l[k] = x at c0 c1 c2 hmx
      rw [← hR.below.cell (p := ⟨b, off + k * 3, none⟩) hb] at c0
      rw [← hR.below.cell (p := ⟨b, off + k * 3 + 1, none⟩) hb] at c1
      rw [← hR.below.cell (p := ⟨b, off + k * 3 + 2, none⟩) hb] at c2
      have hlt' : (k : Int) < (n : Int) := by omega
      obtain ⟨x1, x2, x3⟩ := x
      simp only at c0 c1 c2 hmx
      have hba : Below wr.heap.size wr (wr.alloc (.cells #[.int .i64 x1, .int .i64 x2, .string ⟨x3.toArray⟩] 29)) := (Below.refl _ _).alloc (Nat.le_refl _) _
      have hbx := heap_alloc_new wr (.cells #[.int .i64 x1, .int .i64 x2, .string ⟨x3.toArray⟩] 29)
      have hrx := hR.rtab.lt
      obtain ⟨bx, hbxe⟩ : ∃ bx, bx = wr.heap.size := ⟨_, rfl⟩
      obtain ⟨u1, hu1⟩ : ∃ u1, u1 = wr.alloc (.cells #[.int .i64 x1, .int .i64 x2, .string ⟨x3.toArray⟩] 29) := ⟨_, rfl⟩
      rw [← hu1] at hba hbx
      rw [← hbxe] at hbx hrx
      obtain ⟨b0, b1, b2, -⟩ := one_cells hbx
      have HI1 := Lib.hid (hR.later hba)
      have HG := Lib.hid hG
      have hm3 : (x3.length : Int) ≤ 9223372036854775807 := by unfold maxLen at hmx; omega
      clear hR hG HI HAG HLEN hba hbx hmx
      subst hA
      by_cases hbig : 2000 < (x3.length : Int)
      · go_wp2_with fail
        go_ret
        rw [← hu1]
        exact ⟨rfl, HI1.out.below⟩
      · have HN9 : Hid (OkName x3) := HON.out x3 (by omega)
        have HB3 := Lib.hid (And.intro b0 (And.intro b1 b2))
        have HER : Hid (rerr L x1 x2 x3 = opErr es x1 x2 x3) := Lib.hid (HG.out.err x1 x2 x3)
        have HG1 := Lib.hid (HG.out.op x1 x2 x3)
        have hlL : L.length ≤ 1000 := by rw [HG.out.len]; have := HLES.out; omega
        have hbm9 : bx ≠ bm := by have := HI1.out.bm_lt; omega
        have hbr9 : bx ≠ rt := by omega
        go_wp2_with fail
        rw [← hu1, ← hbxe]
        clear hu1 hbxe c0 c1 c2 b0 b1 b2
        go_region_held3 (fun u => u.cell? ⟨bx, 0, none⟩ = some (.int .i64 x1) ∧ u.cell? ⟨bx, 1, none⟩ = some (.int .i64 x2) ∧ u.cell? ⟨bx, 2, none⟩ = some (.string ⟨x3.toArray⟩))
          (first | (with_reducible exact box_drew HB3.out) | (with_reducible exact HB3.out) | (with_reducible exact box_fr (box_drew HB3.out) hF3 hbm9) | (with_reducible exact box_fr (box_fr (box_drew HB3.out) hF3 hbm9) hF4 hbr9))
          (first | (go_at_call 7; refine (op_any _ bt bm es (HI1.out.later (Below.refl _ _).drew).tab (HI1.out.later (Below.refl _ _).drew).kinds hne x1 x2 x3 (by omega)).mono ?_; rintro e w4 ⟨rfl, hT3, hF3⟩) | (go_at_call 8; refine (rOp_any w4 rt L ((HI1.out.later (Below.refl _ _).drew).op1 hT3 hF3).rtab HG.out.priOk hlL x1 x2 x3 (by omega)).mono ?_; rintro e w5 ⟨rfl, hR4, hF4⟩; rw [HER.out]))
        have HI5 := Lib.hid (((HI1.out.later (Below.refl _ _).drew).op1 hT3 hF3).op2 hR4 hF4)
        have HLES5 : Hid ((opTab es x1 x2 x3).length ≤ 256) := Lib.hid (opTab_len es x1 x2 x3 HLES.out)
        clear hT3 hF3 hR4 hF4 HI1 HER HG HLES hlL hbm9 hbr9 HN9 HB3
        generalize opTab es x1 x2 x3 = es5 at *
        generalize rop L x1 x2 x3 = L5 at *
        by_cases hq : k = n / 2
        · go_wp2_with fail
          refine (copy_any w5 bt bm es5 HI5.out.tab).mono ?_
          rintro e w6 ⟨es6, rfl, hT6, hp6, hb6⟩
          have HI6 := Lib.hid (HI5.out.later hb6)
          have HT6 := Lib.hid hT6
          have HP6 := Lib.hid hp6
          have hlL5 : L5.length ≤ 1000 := by rw [HG1.out.len]; have := HLES5.out; omega
          have hs5 := HI5.out.rtab.lt
          clear hT6 hp6 hb6
          go_wp2_with fail
          refine (rList_any w6 rt L5 HI6.out.rtab hlL5).mono ?_
          rintro e w7 ⟨v7, rfl, hR7, hb7⟩
          have hI7 := HI6.out.later hb7
          have HI7 : Hid (PlayInv w bt bm rt es5 L5 (.pointer (some ⟨w5.heap.size + 1, 0, none⟩)) v7 w7) := Lib.hid
            ⟨hI7.tab, hI7.rtab, hI7.kinds, .inr ⟨_, _, es6, L5, rfl, HT6.out.later hb7, ⟨HG1.out.perm.trans (HP6.out.symm.map _), HT6.out.good, HT6.out.map.nodup⟩, by rw [HP6.out.length_eq]; exact HLES5.out, by omega, by omega, hR7.down (by have := HI6.out.rtab.lt; omega)⟩,
              hI7.kl, hI7.bt_ge, hI7.bm_ge, hI7.bt_lt, hI7.bm_lt, hI7.ne, hI7.below⟩
          clear hI7 hR7 hb7
          go_wp2_with fail
          go_roundw
          case rel => exact ⟨k + 1, hlt, by go_num, _, _, HI7.out, HG1.out, HLES5⟩
          case measure => simp [intOf]; omega
        · go_wp2_with fail
          go_roundw
          case rel => exact ⟨k + 1, hlt, by go_num, _, _, HI5.out, HG1.out, HLES5⟩
          case measure => simp [intOf]; omega
    · have hkn : k = n := by omega
      subst hkn
      have HIR := Lib.hid hR
      have HG := Lib.hid hG
      obtain ⟨wz, rfl⟩ : ∃ wz : World, wz = wr := ⟨_, rfl⟩
      clear hR hG HI HAG HLEN
      go_wp2_with fail
      go_loopw [79] (fun i u => ∃ j : Nat, j ≤ 3 ∧ i = .int .i64 j ∧ PlayInv w bt bm rt es L cp cv u) (fun i _ => 3 - (intOf i).toNat)
      case atStart => exact ⟨0, by omega, rfl, HIR.out⟩
      case round =>
        obtain ⟨j, hj, rfl, hR⟩ := hrel
        by_cases hj3 : j < 3
        · have hix : ∃ s : List UInt8, (s.length : Int) ≤ 2000 ∧ ∀ u, (Instr.index 33 (.agg #[.string ⟨nm.toArray⟩, .string ⟨#[45]⟩, .string ⟨#[105, 115]⟩]) (.int .i64 j)).run Tryd.prog u = .ok (.string ⟨s.toArray⟩) u := by
            rcases (show j = 0 ∨ j = 1 ∨ j = 2 by omega) with rfl | rfl | rfl
            · exact ⟨nm, hm, fun u => by kernel_rfl⟩
            · exact ⟨[45], by simp, fun u => by kernel_rfl⟩
            · exact ⟨[105, 115], by simp, fun u => by kernel_rfl⟩
          obtain ⟨s, hs, hix⟩ := hix
          have hok := HON.out s hs
          have hj3' : (j : Int) < 3 := by omega
          have HR := Lib.hid hR
          have hlL : L.length ≤ 100000 := by rw [HG.out.len]; have := HLES.out; omega
          have HP1 := Lib.hid (HG.out.pre s)
          have HP2 := Lib.hid (HG.out.inf s)
          have HP3 := Lib.hid (HG.out.post s)
          have HP4 := Lib.hid (HG.out.is s)
          have HPO := Lib.hid HG.out.priOk
          clear hR
          go_wp2_with fail
          refine (prefix_any wr bt bm es HR.out.tab HR.out.kinds s hok).mono ?_
          rintro e u1 ⟨rfl, hb⟩
          have HR1 := Lib.hid (HR.out.later hb)
          clear hb HR
          go_wp2_with fail
          refine (rPrefix_any u1 rt L HR1.out.rtab s hlL HPO.out).mono ?_
          rintro e u2 ⟨rfl, hb⟩
          have HR2 := Lib.hid (HR1.out.later hb)
          clear hb HR1
          rw [HP1.out]
          go_wp2_with fail
          refine (infix_any u2 bt bm es HR2.out.tab HR2.out.kinds s hok).mono ?_
          rintro e u3 ⟨rfl, hb⟩
          have HR3 := Lib.hid (HR2.out.later hb)
          clear hb HR2
          go_wp2_with fail
          refine (rInfix_any u3 rt L HR3.out.rtab s hlL HPO.out).mono ?_
          rintro e u4 ⟨rfl, hb⟩
          have HR4 := Lib.hid (HR3.out.later hb)
          clear hb HR3
          rw [HP2.out]
          go_wp2_with fail
          refine (postfix_any u4 bt bm es HR4.out.tab HR4.out.kinds s hok).mono ?_
          rintro e u5 ⟨rfl, hb⟩
          have HR5 := Lib.hid (HR4.out.later hb)
          clear hb HR4
          go_wp2_with fail
          refine (rPostfix_any u5 rt L HR5.out.rtab s hlL HPO.out).mono ?_
          rintro e u6 ⟨rfl, hb⟩
          have HR6 := Lib.hid (HR5.out.later hb)
          clear hb HR5
          rw [HP3.out]
          go_wp2_with fail
          refine (is_any u6 bt bm es HR6.out.tab s hok).mono ?_
          rintro e u7 ⟨rfl, hb⟩
          have HR7 := Lib.hid (HR6.out.later hb)
          clear hb HR6
          go_wp2_with fail
          refine (rIs_any u7 rt L HR7.out.rtab s hlL).mono ?_
          rintro e u8 ⟨rfl, hb⟩
          have HR8 := Lib.hid (HR7.out.later hb)
          clear hb HR7
          rw [HP4.out]
          go_wp2_with fail
          go_roundw
          case rel => exact ⟨j + 1, hj3, by go_num, HR8.out⟩
          case measure => simp [intOf]; omega
        · have hj3' : j = 3 := by omega
          subst hj3'
          have HR := Lib.hid hR
          have hlL : L.length ≤ 1000 := by rw [HG.out.len]; have := HLES.out; omega
          clear hR
          go_wp2_with fail
          refine (lawList_any wr bt bm es HR.out.tab (by have := HLES.out; omega)).mono ?_
          rintro e u1 ⟨v1, l1, rfl, hS1, hp1, ho1, hb1, -⟩
          obtain rfl : l1 = rlist L := HG.out.list hp1 ho1
          have HR1 := Lib.hid (HR.out.later hb1)
          have HS1 := Lib.hid hS1
          clear hS1 hp1 ho1 hb1 HR
          go_wp2_with fail
          refine (rList_any u1 rt L HR1.out.rtab hlL).mono ?_
          rintro e u2 ⟨v2, rfl, hR2, hb2⟩
          have HS2 := Lib.hid ((HS1.out.below hb2).up hb2.size)
          have HT2 := Lib.hid (SlAt.of_row encDef_len hR2)
          have HR2 := Lib.hid (HR1.out.later hb2)
          have hll : (rlist L).length < 4611686018427387904 := by rw [(rlist_perm L).length_eq]; omega
          clear hR2 hb2 HR1 HS1
          go_wp2_with fail
          refine (same_any u2 u2.heap.size v1 v2 (rlist L) HS2.out HT2.out hll).mono ?_
          rintro e u3 ⟨rfl, hb3⟩
          have HR3 := Lib.hid (HR2.out.later hb3)
          clear hb3 HR2 HS2 HT2
          rcases HR3.out.cp with ⟨rfl, rfl⟩ | ⟨ct, cm, es6, L6, rfl, hT6, hG6, hl6, -, -, hR6⟩
          · go_wp2_with fail
            go_ret
            exact ⟨rfl, HR3.out.below⟩
          · have HG6 := Lib.hid hG6
            have HT6 := Lib.hid hT6
            have HR6 := Lib.hid hR6
            clear hG6 hT6 hR6
            go_wp2_with fail
            refine (lawList_any u3 ct cm es6 HT6.out (by omega)).mono ?_
            rintro e u4 ⟨v4, l4, rfl, hS4, hp4, ho4, hb4, -⟩
            obtain rfl : l4 = rlist L6 := HG6.out.list hp4 ho4
            have HR4 := Lib.hid (HR3.out.later hb4)
            have HS4 := Lib.hid hS4
            have HV4 := Lib.hid (SlAt.of_row encDef_len (HR6.out.later hb4))
            have hll4 : (rlist L6).length < 4611686018427387904 := by rw [(rlist_perm L6).length_eq, HG6.out.len]; omega
            clear hS4 hp4 ho4 hb4
            go_wp2_with fail
            refine (same_any u4 u4.heap.size v4 cv (rlist L6) HS4.out HV4.out hll4).mono ?_
            rintro e u5 ⟨rfl, hb5⟩
            go_wp2_with fail
            go_ret
            exact ⟨rfl, HR4.out.below.trans (hb5.mono HR4.out.below.size)⟩
end Go.Proofs.YtiaajpfebcccfaaDoor
