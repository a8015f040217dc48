/-
  What law14's DbOrder answers: true. Conditions: the two slices can be read.
-/
import Derived.Test.YtiaajpfebcccfaaDbOrdP
namespace Go.Proofs.Ytiaajpfebcccfaa
open Go.RowKit Go.Maps
set_option maxRecDepth 100000
attribute [local go_sem ↓] Go.wp_at_zero Go.wp_at_succ

theorem below_drewN {w E : World} (h : Below w.heap.size w E) (n : Nat) : Below w.heap.size w (E.drewN n) := ⟨h.os, h.tape, h.output, h.size, h.block⟩
/-- A slice whose elements of one cell read as a list. -/
structure OneAt {α : Type} (w : World) (B : Nat) (enc : α → Value) (A : Option Addr) (n : Nat) (l : List α) : Prop where
  len : l.length = n
  at' : ∀ i x, l[i]? = some x → ∃ b off, A = some ⟨b, off, none⟩ ∧ b < B ∧ w.cell? ⟨b, off + i, none⟩ = some (enc x)
theorem OneAt.below {α : Type} {w w' : World} {B : Nat} {enc : α → Value} {A : Option Addr} {n : Nat} {l : List α} (h : OneAt w B enc A n l) (hb : Below B w w') : OneAt w' B enc A n l :=
  ⟨h.len, fun i x hx => by
    obtain ⟨b, off, h1, h2, h3⟩ := h.at' i x hx
    exact ⟨b, off, h1, h2, (World.cell?_of_block (a := ⟨b, off + i, none⟩) (hb.block b h2)).trans h3⟩⟩
def encB (b : Bool) : Value := .bool b
def encU (k : UInt8) : Value := .int .u8 (k.toNat : Int)

def lessQ (q : Nat) (l : List Int) : List Int := l.filter (fun x => decide (x ≠ (q : Int)))
/-- The first loop's. -/
def Ord1 (w : World) (db mb k : Nat) (v : Value) (u : World) : Prop :=
  ∃ es A c cls ov ord, LawSt w db mb k es A c cls ov ord v ord u ∧ OrdIs k k cls ord ∧ (∀ (i : Nat) cc, cls[i]? = some cc → cc.death = -1)
/-- The second loop's. -/
def Ord2 (w : World) (db mb n j : Nat) (v : Value) (u : World) : Prop :=
  ∃ (time : Int) (es : List (PK × Nat)) (A : Option Addr) (c : Nat) (cls : List ClV) (ov : Value) (ord want : List Int), LawSt w db mb time es A c cls ov ord v want u ∧ OrdIs n time cls ord ∧ want = liveL cls ord ∧ 0 ≤ time ∧ time ≤ n + j

set_option maxHeartbeats 16000000 in
theorem order_zero (w : World) (A1 A2 : Option Addr) (c1 m c2 : Nat) (r : List UInt8) (hm : m ≤ 200) (h2 : OneAt w w.heap.size encU A2 m r) :
    Calls Try.prog 3 #[.slice A1 0 c1, .slice A2 m c2] w fun e w' => e = .returned (.bool true) ∧ Below w.heap.size w w' := by
  have H2 := Lib.hid h2
  have hm' : (m : Int) ≤ 200 := by omega
  clear h2
  go_enter Try.func3, Try.ntmps3
  go_wp2_with fail
  refine (alive14_any w).mono ?_
  rintro e w1 ⟨rfl, hb1⟩
  have HB1 := Lib.hid hb1
  clear hb1
  go_wp2_with fail
  refine (new_any w1).mono ?_
  rintro e w2 ⟨rfl, hD, hb2⟩
  have HD := Lib.hid hD
  have HB2 : Hid (Below w.heap.size w w2) := Lib.hid (below_call HB1.out hb2)
  clear hD hb2
  go_wp2_with fail
  go_loopw [6, 34] (fun v i u => v = .slice none 0 0 ∧ i = .int .i64 0 ∧ u = w2) (fun _ _ _ => 0)
  case atStart => exact ⟨rfl, rfl, rfl⟩
  case round =>
    obtain ⟨rfl, rfl, rfl⟩ := hrel
    go_wp2_with fail
    go_loopw [6, 69] (fun v i u => v = .slice none 0 0 ∧ i = .int .i64 0 ∧ u = wr) (fun _ _ _ => 0)
    case atStart => exact ⟨rfl, rfl, rfl⟩
    case round =>
      obtain ⟨rfl, rfl, rfl⟩ := hrel
      have HL := Lib.hid (list_none wr _ _ _ _ HD.out)
      have HAL := Lib.hid fun (u : World) (hb : Below wr.heap.size wr u) => alive_none u _ _ _ _ (HD.out.later hb) [112] 1 ⟨by decide, by decide⟩ 0
      have HT := Lib.hid fun (u : World) (hb : Below wr.heap.size wr u) => time_any u _ _ _ _ _ (HD.out.later hb)
      have HIN := Lib.hid fun (u : World) => ints_any u none none 0 0 0 0 [] [] ⟨rfl, fun i x h => by simp at h⟩ ⟨rfl, fun i x h => by simp at h⟩ (by omega) (by omega)
      by_cases hm0 : 0 < m
      · obtain ⟨x, hx⟩ : ∃ x, r[0]? = some x := ⟨_, List.getElem?_eq_getElem (by rw [H2.out.len]; exact hm0)⟩
        obtain ⟨b, off, e1, e2, e3⟩ := (H2.out.below HB2.out).at' 0 x hx
        subst e1
        have hm1 : (0 : Int) < (m : Int) := by omega
        unfold encU at e3
        rw [Nat.add_zero] at e3
        go_wp2_with fail
        refine HL.out.mono ?_
        rintro e u ⟨rfl, hb3⟩
        have HB3 := Lib.hid hb3
        clear hb3
        go_wp2_with fail
        refine (HT.out u HB3.out).mono ?_
        rintro e u2 ⟨rfl, rfl⟩
        go_wp2_with fail
        refine (HAL.out _ HB3.out).mono ?_
        rintro e u2 ⟨rfl, rfl⟩
        go_wp2_with fail
        refine (HIN.out _).mono ?_
        rintro e u2 ⟨rfl, hb4⟩
        have HB4 : Hid (Below w.heap.size w u2) := Lib.hid (below_call (below_call HB2.out HB3.out) hb4)
        clear hb4
        go_wp2_with fail
        go_loopw [126] (fun i u => i = .int .i64 0 ∧ u = u2) (fun _ _ => 0)
        case atStart => exact ⟨rfl, rfl⟩
        case round =>
          obtain ⟨rfl, rfl⟩ := hrel
          go_wp2_with fail
          go_ret
          exact ⟨rfl, HB4.out⟩
      · have hm1 : ¬ (0 : Int) < (m : Int) := by omega
        go_wp2_with fail
        refine HL.out.mono ?_
        rintro e u ⟨rfl, hb3⟩
        have HB3 := Lib.hid hb3
        clear hb3
        go_wp2_with fail
        refine (HT.out u HB3.out).mono ?_
        rintro e u2 ⟨rfl, rfl⟩
        go_wp2_with fail
        refine (HAL.out _ HB3.out).mono ?_
        rintro e u2 ⟨rfl, rfl⟩
        go_wp2_with fail
        refine (HIN.out _).mono ?_
        rintro e u2 ⟨rfl, hb4⟩
        have HB4 : Hid (Below w.heap.size w u2) := Lib.hid (below_call (below_call HB2.out HB3.out) hb4)
        clear hb4
        go_wp2_with fail
        go_loopw [126] (fun i u => i = .int .i64 0 ∧ u = u2) (fun _ _ => 0)
        case atStart => exact ⟨rfl, rfl⟩
        case round =>
          obtain ⟨rfl, rfl⟩ := hrel
          go_wp2_with fail
          go_ret
          exact ⟨rfl, HB4.out⟩

set_option maxHeartbeats 16000000 in
theorem order_pos (w : World) (A1 A2 : Option Addr) (n c1 m c2 : Nat) (l : List Bool) (r : List UInt8) (hn : 0 < n) (hn2 : n ≤ 200) (hm : m ≤ 200) (h1 : OneAt w w.heap.size encB A1 n l) (h2 : OneAt w w.heap.size encU A2 m r) :
    Calls Try.prog 3 #[.slice A1 n c1, .slice A2 m c2] w fun e w' => e = .returned (.bool true) ∧ Below w.heap.size w w' := by
  have H1 := Lib.hid h1
  have H2 := Lib.hid h2
  have hm' : (m : Int) ≤ 200 := by omega
  have hn' : (n : Int) ≤ 200 := by omega
  have hn0 : (0 : Int) < (n : Int) := by omega
  clear h1 h2
  go_enter Try.func3, Try.ntmps3
  go_wp2_with fail
  refine (alive14_any w).mono ?_
  rintro e w1 ⟨rfl, hb1⟩
  have HB1 := Lib.hid hb1
  clear hb1
  go_wp2_with fail
  refine (new_any w1).mono ?_
  rintro e w2 ⟨rfl, hD, hb2⟩
  obtain ⟨db, hdb⟩ : ∃ db, db = w1.heap.size + 1 := ⟨_, rfl⟩
  obtain ⟨mb, hmb⟩ : ∃ mb, mb = w1.heap.size := ⟨_, rfl⟩
  have HO : Hid (Ord1 w db mb 0 (.slice none 0 0) w2) := by
    rw [← hdb, ← hmb] at hD
    have := HB1.out.size
    exact Lib.hid ⟨[], none, 0, [], .slice none 0 0, [], ⟨hD, Row.nil _ _ _ _ _, Row.nil _ _ _ _ _, Row.nil _ _ _ _ _, (fun g h => by cases h), .inl ⟨rfl, rfl, rfl, rfl⟩, (fun i cc h => by simp at h), by omega, by omega, below_call HB1.out hb2⟩,
      ⟨rfl, rfl, List.nodup_nil, (fun x => by simp), (fun i cc h => by simp at h)⟩, (fun i cc h => by simp at h)⟩
  rw [← hdb]
  clear hD hb2 hdb hmb
  go_wp2_with fail
  go_loopw [6, 34] (fun v i u => ∃ k : Nat, k ≤ n ∧ i = .int .i64 k ∧ Hid (Ord1 w db mb k v u)) (fun _ i _ => n - (intOf i).toNat)
  case atStart => exact ⟨0, Nat.zero_le _, rfl, HO⟩
  case round =>
    obtain ⟨k, hk, rfl, HK⟩ := hrel
    by_cases hlt : k < n
    · obtain ⟨es, A, c, cls, ov, ord, hL, hO, hdd⟩ := HK.out
      obtain rfl : cls.length = k := hO.len
      have hx := List.getElem?_eq_getElem (show cls.length < l.length by rw [H1.out.len]; exact hlt)
      generalize l[cls.length]'_ = f at hx
      obtain ⟨b, off, e1, -, e3⟩ := (H1.out.below hL.below).at' _ f hx
      subst e1
      unfold encB at e3
      have hlt' : (cls.length : Int) < (n : Int) := by omega
      obtain ⟨W4, hW4⟩ : ∃ W4, W4 = wr.alloc (.cells #[.int .i64 2, .int .i64 (cls.length : Int), .string ⟨#[]⟩, .slice none 0 0] 33) := ⟨_, rfl⟩
      have hb4 : Below wr.heap.size wr W4 := by rw [hW4]; exact below_alloc (Below.refl _ _) _
      have HADD := Lib.hid (law_add w W4 db mb cls.length es A c cls ov ord _ _ (hL.later hb4) wr.heap.size (by rw [hW4]; exact blk_new rfl) (by omega) (by rw [hO.olen]; omega) (by omega) f)
      have HOK := Lib.hid (And.intro hO hdd)
      have HW4 := Lib.hid hW4
      clear hx hL hO hdd hW4 hb4 HK HO
      go_wp2_with fail
      rw [← HW4.out]
      refine HADD.out.mono ?_
      rintro e w5 ⟨rfl, es', A', c', cc, ov', hcb, hcd, hL5⟩
      have HL5 := Lib.hid hL5
      have hO5 := HOK.out.1.snoc cc hcb hcd (by omega) f
      have hd5 : ∀ (i : Nat) c2, (cls ++ [cc])[i]? = some c2 → c2.death = -1 := fun i c2 hi => by
        by_cases hil : i < cls.length
        · rw [List.getElem?_append_left hil] at hi
          exact HOK.out.2 i c2 hi
        · rw [List.getElem?_append_right (by omega)] at hi
          have : c2 = cc := by
            have := List.mem_of_getElem? hi
            simpa using this
          rw [this]
          exact hcd
      have HO5 := Lib.hid (And.intro hO5 hd5)
      have hol : ord.length ≤ 1000 := by rw [HOK.out.1.olen]; omega
      clear hL5 hO5 hd5 HADD HW4 e3 hcb hcd
      cases f
      · obtain ⟨A9, c9, w9, hr9, hL9⟩ := law_behind HL5.out (cls.length : Int) hol
        have H9 : Hid (Ord1 w db mb (cls.length + 1) (.slice A9 (ord.length + 1) c9) w9) := Lib.hid ⟨es', A', c', cls ++ [cc], ov', ord ++ [(cls.length : Int)], by exact_mod_cast hL9, by exact_mod_cast HO5.out.1, HO5.out.2⟩
        clear hL9
        go_wp2_with (refine wpList_run (by rfl) (.tmp 62) (.tmp 64) 27 (by rfl) (by rfl) (by rfl) hr9 ?_)
        go_roundw
        case rel => exact ⟨cls.length + 1, hlt, by go_num, H9⟩
        case measure => simp [intOf]; omega
      · obtain ⟨A9, c9, w9, hr9, hL9⟩ := law_front HL5.out (cls.length : Int) hol
        have H9 : Hid (Ord1 w db mb (cls.length + 1) (.slice A9 (ord.length + 1) c9) w9) := Lib.hid ⟨es', A', c', cls ++ [cc], ov', (cls.length : Int) :: ord, by exact_mod_cast hL9, by exact_mod_cast HO5.out.1, HO5.out.2⟩
        clear hL9
        go_wp2_with (refine wpList_run (by rfl) (.tmp 59) (.tmp 60) 27 (by rfl) (by rfl) (by rfl) hr9 ?_)
        go_roundw
        case rel => exact ⟨cls.length + 1, hlt, by go_num, H9⟩
        case measure => simp [intOf]; omega
    · obtain rfl : k = n := by omega
      have H20 : Hid (Ord2 w db mb k 0 u6 wr) := Lib.hid (by
        obtain ⟨es, A, c, cls, ov, ord, hL, hO, hdd⟩ := HK.out
        exact ⟨k, es, A, c, cls, ov, ord, ord, hL, hO, (liveL_all hO hdd).symm, by omega, by omega⟩)
      clear HK HO
      go_wp2_with fail
      go_loopw [6, 69] (fun v i u => ∃ j : Nat, j ≤ m ∧ i = .int .i64 j ∧ Hid (Ord2 w db mb k j v u)) (fun _ i _ => m - (intOf i).toNat)
      case atStart => exact ⟨0, Nat.zero_le _, rfl, H20⟩
      case round =>
        obtain ⟨j, hj, rfl, HK⟩ := hrel
        obtain ⟨wl, rfl⟩ : ∃ wl : World, wl = wr := ⟨_, rfl⟩
        by_cases hlt : j < m
        · obtain ⟨time, es, A, c, cls, ov, ord, want, hL, hO, hw, ht0, ht1⟩ := HK.out
          have hx := List.getElem?_eq_getElem (show j < r.length by rw [H2.out.len]; exact hlt)
          generalize r[j]'_ = x at hx
          obtain ⟨b, off, e1, -, e3⟩ := (H2.out.below hL.below).at' _ x hx
          subst e1
          unfold encU at e3
          have hlt' : (j : Int) < (m : Int) := by omega
          obtain ⟨Aw, cw, rfl⟩ := hL.wt.shape
          have hkb : ((k : Int) == 0) = false := beq_eq_false_iff_ne.2 (by omega)
          have hx1 := UInt8.toNat_lt x
          generalize x.toNat = y at e3 hx1
          have hy0 : (0 : Int) ≤ (y : Int) := by omega
          have hy1 : (y : Int) ≤ 255 := by omega
          have HS := Lib.hid (And.intro hL (And.intro hO hw))
          clear hx hx1 hL hO hw HK H20
          obtain ⟨q, hq⟩ : ∃ q : Nat, q = y % k := ⟨_, rfl⟩
          have hqk : q < k := by rw [hq]; exact Nat.mod_lt _ hn
          have hqq : (y : Int) % (k : Int) = (q : Int) := by rw [hq]; rfl
          have HQ := Lib.hid hqq
          clear hq hqq
          go_wp2_with fail
          rw [HQ.out]
          clear e3 hy0 hy1
          obtain ⟨i1, z1, hi1, hz4, hz5, hz6, hz7⟩ := int_info
          have hwl : want.length ≤ 200 := by
            rw [HS.out.2.2]
            refine Nat.le_trans (List.length_filter_le _ _) ?_
            rw [HS.out.2.1.olen]
            exact hn2
          have hwl' : (want.length : Int) ≤ 200 := by omega
          go_loopw [15, 85] (fun v i u => ∃ i2 : Nat, i2 ≤ want.length ∧ i = .int .i64 i2 ∧ Hid (Row u wl.heap.size 3 1 encI v (lessQ q (want.take i2)) ∧ Below wl.heap.size wl u)) (fun _ i _ => want.length - (intOf i).toNat)
          case atStart => exact ⟨0, Nat.zero_le _, rfl, Lib.hid ⟨Row.nil _ _ _ _ _, Below.refl _ _⟩⟩
          case round =>
            obtain ⟨i2, hi2, rfl, HR⟩ := hrel
            have hws := HR.out.2.size
            by_cases hlw : i2 < want.length
            · have hx := List.getElem?_eq_getElem hlw
              have hsn := List.take_succ_eq_append_getElem hlw
              generalize want[i2] = x2 at hx hsn
              obtain ⟨gw, e1, hgw, hcw⟩ : ∃ gw, Aw = some ⟨gw, 0, none⟩ ∧ gw < wl.heap.size ∧ wl.cell? ⟨gw, i2, none⟩ = some (.int .i64 x2) := by
                obtain ⟨g, cap, e1, hB, hg, _, hc⟩ := HS.out.1.wt.cells encI_len (by rintro rfl; cases hx)
                injection e1 with e1 e2 e3
                exact ⟨g, e1, hg, by have := (hc i2 _ hx 0 (.int .i64 x2) rfl).1; simpa using this⟩
              subst e1
              have hcw' := (HR.out.2.cell (p := ⟨gw, i2, none⟩) hgw).trans hcw
              have hlw' : (i2 : Int) < (want.length : Int) := by omega
              have hfl : (lessQ q (want.take i2)).length ≤ _ := List.length_filter_le _ (want.take i2)
              rw [List.length_take] at hfl
              have HSN := Lib.hid hsn
              clear hx hsn hcw
              by_cases hxq : x2 = (q : Int)
              · subst hxq
                have HSA : Hid (lessQ q (want.take (i2 + 1)) = lessQ q (want.take i2)) := Lib.hid (by rw [HSN.out]; unfold lessQ; rw [List.filter_append]; simp)
                go_wp2_with fail
                go_roundw
                case rel => exact ⟨i2 + 1, hlw, by go_num, Lib.hid (by rw [HSA.out]; exact HR.out)⟩
                case measure => simp [intOf]; omega
              · have HSA : Hid (lessQ q (want.take (i2 + 1)) = lessQ q (want.take i2) ++ [x2]) := Lib.hid (by rw [HSN.out]; unfold lessQ; rw [List.filter_append]; simp [hxq])
                have hb1 : (x2 == (q : Int)) = false := beq_eq_false_iff_ne.2 hxq
                have hb2 : (x2 != (q : Int)) = true := by rw [bne, hb1]; rfl
                clear hxq
                go_wp2_with (at_builtin; refine wpList_row rfl _ _ 27 rfl _ wl.heap.size 3 i1 z1 1 8 encI Try.underlying27 hi1 hz4 hz5 hz6 hz7 (by decide) encI_len encI_one _ (lessQ q (want.take i2)) x2 rfl (HR.out.1.alloc _) _ _ rfl (fun j u hu => cell_made _ _ _ j u (by simpa [encI] using hu)) (by unfold maxLen; omega) (by omega) (Nat.le_trans hws (by simp)) ?_)
                intro v' w5 hrow5 hg5
                have HR5 : Hid (Row w5 wl.heap.size 3 1 encI v' (lessQ q (want.take (i2 + 1))) ∧ Below wl.heap.size wl w5) := Lib.hid ⟨by rw [HSA.out]; exact hrow5, ((Fr.of_below (fun k => wl.heap.size ≤ k) HR.out.2).alloc _ |>.grown hg5 fun g e => .inl (HR.out.1.lt g e).1).below (Nat.le_refl _) (fun k hk => by omega)⟩
                clear hrow5 hg5
                go_wp2_with fail
                go_roundw
                case rel => exact ⟨i2 + 1, hlw, by go_num, HR5⟩
                case measure => simp [intOf]; omega
            · obtain rfl : i2 = want.length := by omega
              obtain ⟨ft, hft⟩ : ∃ ft, lessQ q want = ft := ⟨_, rfl⟩
              rw [List.take_length, hft] at HR
              obtain ⟨wn, rfl⟩ : ∃ wn : World, wn = wr := ⟨_, rfl⟩
              obtain ⟨Al, cl, rfl⟩ := HR.out.1.shape
              obtain ⟨hL, hO, hw⟩ := HS.out
              have hq2 : q < cls.length := by rw [hO.len]; exact hqk
              have hcm := List.getElem?_eq_getElem hq2
              generalize cls[q] = cc at hcm
              have hL2 := hL.want' (u' := wn) (wv' := .slice Al ft.length cl) (want' := ft) (fun g hg _ => HR.out.2.block g hg) (HR.out.1.down hL.below.size) (fun g e1 e2 => by
                have := (HR.out.1.lt g e1).1
                have := (hL.od.lt g e2).2
                omega) (below_call hL.below HR.out.2)
              have HKILL := Lib.hid (law_kill w wn db mb time es A c cls ov ord _ _ hL2 q cc hcm (by omega))
              have hfl : ft.length ≤ want.length := by rw [← hft]; exact List.length_filter_le _ _
              have HF : Hid ((0 ≤ cc.death → ft = want) ∧ (cc.death < 0 → ft.length < want.length)) := Lib.hid ⟨fun hd => by rw [← hft, hw]; exact liveL_dead hcm hd, fun hd => by rw [← hft, hw]; exact liveL_less hO hcm hd⟩
              have HN : Hid (cc.death < 0 → OrdIs k (time + 1) (cls.set q { cc with death := time + 1 }) ord ∧ ft = liveL (cls.set q { cc with death := time + 1 }) ord) := Lib.hid fun _ => ⟨hO.kill hcm, by rw [← hft, hw]; exact (liveL_kill hO hcm ht0).symm⟩
              have HL2 := Lib.hid (And.intro hL2 (And.intro hO hw))
              clear hL hO hw hL2 hcm hft HR hi1 hz4 hz5 hz6 hz7 hwl' hws
              go_wp2_with fail
              refine HKILL.out.mono ?_
              rintro e w8 (⟨hd, rfl, rfl⟩ | ⟨hd, rfl, hL8⟩)
              · obtain rfl := HF.out.1 hd
                have H9 : Hid (Ord2 w db mb k (j + 1) (.slice Al ft.length cl) w8) := Lib.hid ⟨time, es, A, c, cls, ov, ord, ft, HL2.out.1, HL2.out.2.1, HL2.out.2.2, ht0, by omega⟩
                clear hd HF HN HL2 HKILL hfl
                go_wp2_with fail
                go_roundw
                case rel => exact ⟨j + 1, hlt, by go_num, H9⟩
                case measure => simp [intOf]; omega
              · have hlt2 := HF.out.2 hd
                obtain ⟨hO9, hw9⟩ := HN.out hd
                have H9 : Hid (Ord2 w db mb k (j + 1) (.slice Al ft.length cl) w8) := Lib.hid ⟨time + 1, es, A, c, _, ov, ord, ft, hL8, hO9, hw9, by omega, by omega⟩
                have hlt3 : (ft.length : Int) < (want.length : Int) := by omega
                clear hd HF HN HL2 HKILL hfl hO9 hw9 hL8
                go_wp2_with fail
                go_roundw
                case rel => exact ⟨j + 1, hlt, by go_num, H9⟩
                case measure => simp [intOf]; omega
        · obtain rfl : j = m := by omega
          obtain ⟨time, es, A, c, cls, ov, ord, want, hL, hO, hw, ht0, ht1⟩ := HK.out
          obtain ⟨pb, ver, he, hp, hpw⟩ : ∃ pb ver, es = [(keyP, pb)] ∧ PrAt wl pb 2 ver ov 0 ∧ w.heap.size ≤ pb := by
            rcases hL.pr with ⟨_, _, h3, _⟩ | h
            · rw [h3] at hO
              have := hO.len
              simp at this
              omega
            · exact h
          subst he
          have hal : aliveL cls time ord = want := by rw [hO.alive, hw]
          have hin : ∀ x ∈ ord, 0 ≤ x ∧ x < (cls.length : Int) := fun x hx => by
            have := (hO.mem x).1 hx
            rw [hO.len]
            exact this
          have hol : ord.length ≤ 10000 := by rw [hO.olen]; omega
          have hli := list_one wl w.heap.size db mb pb time keyP A cls.length c cls hL.db' 2 ver ov ord hp hL.cl hL.od hin hol (fun i cc hi => (hL.facts i cc hi).fact)
          rw [hal] at hli
          have HLI := Lib.hid hli
          have HT := Lib.hid fun (u : World) (hb : Below wl.heap.size wl u) => time_any u _ _ _ _ _ (hL.db'.later hb)
          have HAL := Lib.hid fun (u : World) (hb : Below wl.heap.size wl u) => (alive_any u w.heap.size db mb pb time [(keyP, pb)] A cls.length c cls (hL.db'.later hb) [112] 1 ⟨by decide, by decide⟩ rfl 2 ver ov ord (hp.later hb) (hL.cl.later hb) (hL.od.later hb) hin hol time).mono fun e u' ⟨v, h1, h2, h3⟩ => (by
            rw [hal] at h2
            obtain ⟨Aq, cq, rfl, hI⟩ := h2.ints
            exact ⟨Aq, cq, h1, hI, h3⟩ : ∃ Aq cq, e = Ending.returned (.slice Aq want.length cq) ∧ IntsAt u' u'.heap.size Aq want.length want ∧ Below u.heap.size u u')
          obtain ⟨Aw, cw, rfl, hwI⟩ := hL.wt.ints
          have hwl : want.length ≤ 200 := by
            rw [hw]
            refine Nat.le_trans (List.length_filter_le _ _) ?_
            rw [hO.olen]
            exact hn2
          have hwl' : (want.length : Int) ≤ 200 := by omega
          have HWI := Lib.hid hwI
          have HB0 := Lib.hid hL.below
          clear hw hli hwI hal hin hol hp hL hO HK H20 ht0 ht1 hpw
          go_wp2_with fail
          refine HLI.out.mono ?_
          rintro e u1 ⟨v, xs, rfl, hrx, hhx, hb1⟩
          obtain ⟨Al, cl, hv⟩ := hrx.shape
          rw [hhx.1] at hv
          subst hv
          have HX := Lib.hid (And.intro hrx (And.intro hhx hb1))
          clear hrx hhx hb1
          go_wp2_with fail
          refine (HT.out u1 HX.out.2.2).mono ?_
          rintro e u2 ⟨rfl, rfl⟩
          go_wp2_with fail
          refine (HAL.out _ HX.out.2.2).mono ?_
          rintro e u2 ⟨Aq, cq, rfl, hI, hb2⟩
          have HB2 : Hid (Below wl.heap.size wl u2) := Lib.hid (below_call HX.out.2.2 hb2)
          have HB12 := Lib.hid hb2
          have HIN := Lib.hid (ints_any u2 Aq Aw want.length cq want.length cw want want hI ((HWI.out.below HB2.out).up HB2.out.size) (by omega) (by omega))
          clear hI hb2
          go_wp2_with fail
          refine HIN.out.mono ?_
          rintro e u3 ⟨rfl, hb3⟩
          have HB3 : Hid (Below u1.heap.size u1 u3) := Lib.hid (below_call HB12.out hb3)
          clear hb3 HIN HAL HT HLI
          go_wp2_with fail
          go_loopw [126] (fun i u => ∃ i2 : Nat, i2 ≤ want.length ∧ i = .int .i64 i2 ∧ Hid (Below u3.heap.size u3 u)) (fun i _ => want.length - (intOf i).toNat)
          case atStart => exact ⟨0, Nat.zero_le _, rfl, Lib.hid (Below.refl _ _)⟩
          case round =>
            obtain ⟨i2, hi2, rfl, HBr⟩ := hrel
            by_cases hlw : i2 < want.length
            · have hx := List.getElem?_eq_getElem hlw
              generalize want[i2] = x at hx
              obtain ⟨gw, ow, e1, hgw, hcw⟩ := HWI.out.at' i2 x hx
              subst e1
              obtain ⟨cc, y, hcc, hy, hcp, -⟩ := HX.out.2.1.2 i2 x hx
              obtain ⟨g, ey, -, hg⟩ := hcp
              obtain ⟨gl, capl, ev, -, hgl, -, hcl⟩ := HX.out.1.cells encTV_len (by rintro rfl; cases hy)
              have e4 : Al = some ⟨gl, 0, none⟩ := by injection ev
              subst e4
              have hBu : Below u1.heap.size u1 wr := below_call HB3.out HBr.out
              have hBw : Below wl.heap.size wl wr := below_call HX.out.2.2 hBu
              subst ey
              have t0 := (hBu.cell (p := ⟨gl, i2 * 4 + 0, none⟩) hgl).trans (hcl i2 _ hy 0 _ rfl).1
              have t1 := (hBu.cell (p := ⟨gl, i2 * 4 + 1, none⟩) hgl).trans (hcl i2 _ hy 1 _ rfl).1
              have t2 := (hBu.cell (p := ⟨gl, i2 * 4 + 2, none⟩) hgl).trans (hcl i2 _ hy 2 _ rfl).1
              have t3 := (hBu.cell (p := ⟨gl, i2 * 4 + 3, none⟩) hgl).trans (hcl i2 _ hy 3 _ rfl).1
              rw [Nat.add_zero] at t0
              simp only at t0 t1 t2 t3
              have hg1 : u1.cell? ⟨g, 1, none⟩ = some (.int .i64 x) := by rw [cell_of_row u1 g 1 _ _ (0, 0) hg]; rfl
              have hgb : g < u1.heap.size := (Array.getElem?_eq_some_iff.1 hg).1
              have g1 := (hBu.cell (p := ⟨g, 1, none⟩) hgb).trans hg1
              have q1 := (hBw.cell (p := ⟨gw, ow + i2, none⟩) hgw).trans hcw
              have hgr : g < wr.heap.size := Nat.lt_of_lt_of_le hgb hBu.size
              have hgwr : gw < wr.heap.size := Nat.lt_of_lt_of_le hgw hBw.size
              have hlw' : (i2 : Int) < (want.length : Int) := by omega
              clear hx hcw hcc hy hg hcl hBu hBw hg1 hgb hgl hgw ev
              go_wp2_with fail
              go_quiet (fail)
              go_wp2
              go_roundw
              case rel => exact ⟨i2 + 1, hlw, by go_num, Lib.hid (below_drewN (below_alloc HBr.out _) _)⟩
              case measure => simp [intOf]; omega
            · obtain rfl : i2 = want.length := by omega
              go_wp2_with fail
              go_ret
              exact ⟨rfl, below_call (below_call (below_call HB0.out HX.out.2.2) HB3.out) HBr.out⟩

set_option maxHeartbeats 4000000 in
theorem order_big (w : World) (A1 A2 : Option Addr) (n c1 m c2 : Nat) (hn : (n : Int) ≤ 9223372036854775807) (hm : (m : Int) ≤ 9223372036854775807) (hb : 200 < n ∨ 200 < m) :
    Calls Try.prog 3 #[.slice A1 n c1, .slice A2 m c2] w fun e w' => e = .returned (.bool true) ∧ Below w.heap.size w w' := by
  by_cases h1 : (200 : Int) < (n : Int)
  · clear hb
    go_enter Try.func3, Try.ntmps3
    go_wp2_with fail
    refine (alive14_any w).mono ?_
    rintro e w1 ⟨rfl, hb1⟩
    have HB1 := Lib.hid hb1
    clear hb1
    go_wp2_with fail
    go_ret
    exact ⟨rfl, HB1.out⟩
  · have h2 : (200 : Int) < (m : Int) := by omega
    clear hb
    go_enter Try.func3, Try.ntmps3
    go_wp2_with fail
    refine (alive14_any w).mono ?_
    rintro e w1 ⟨rfl, hb1⟩
    have HB1 := Lib.hid hb1
    clear hb1
    go_wp2_with fail
    go_ret
    exact ⟨rfl, HB1.out⟩
theorem order_any (w : World) (A1 A2 : Option Addr) (n c1 m c2 : Nat) (l : List Bool) (r : List UInt8) (hn : (n : Int) ≤ 9223372036854775807) (hm : (m : Int) ≤ 9223372036854775807) (h1 : OneAt w w.heap.size encB A1 n l) (h2 : OneAt w w.heap.size encU A2 m r) :
    Calls Try.prog 3 #[.slice A1 n c1, .slice A2 m c2] w fun e w' => e = .returned (.bool true) ∧ Below w.heap.size w w' := by
  by_cases hb : 200 < n ∨ 200 < m
  · exact order_big w A1 A2 n c1 m c2 hn hm hb
  · rcases Nat.eq_zero_or_pos n with rfl | hp
    · exact order_zero w A1 A2 c1 m c2 r (by omega) h2
    · exact order_pos w A1 A2 n c1 m c2 l r hp (by omega) (by omega) h1 h2
end Go.Proofs.Ytiaajpfebcccfaa
