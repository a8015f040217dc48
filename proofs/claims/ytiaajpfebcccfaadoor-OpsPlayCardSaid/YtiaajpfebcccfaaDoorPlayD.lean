/-
  What the document's List answers: all definitions, each put in its place by name and type. Condition: the table's block holds a slice that reads as a list of at most 1000 definitions.
-/
import Derived.Test.YtiaajpfebcccfaaDoorPlayC
import Derived.StillTailTactics
import Derived.Deep.CutBlock
import Derived.Laws.AppendOwnNone
import Derived.Deep.AppendLies
import Derived.Deep.RegionLaw
import Derived.Laws.Cover1
import Derived.Sort.Walk0
import Derived.Lib.Strings
namespace Go.Proofs.YtiaajpfebcccfaaDoor
open Go.RowKit Go.Maps
set_option maxRecDepth 100000

theorem str_less (a b : List UInt8) : Op.bytesLess a b = decide (a < b) := Proofs.bytesLess_eq a b

/-- A slice of definitions, as an append takes it. -/
structure SlDefs (w : World) (A : Option Addr) (n c : Nat) (l : List DefT) : Prop where
  len : l.length = n
  nil : A = none → n = 0 ∧ c = 0
  at' : ∀ i y, l[i]? = some y → ∃ b off, A = some ⟨b, off, none⟩ ∧ b < w.heap.size ∧ ∀ j u, (encDef y)[j]? = some u → w.cell? ⟨b, off + i * 3 + j, none⟩ = some u
theorem SlDefs.later {w w' : World} {A : Option Addr} {n c : Nat} {l : List DefT} (h : SlDefs w A n c l) (hb : Below w.heap.size w w') : SlDefs w' A n c l :=
  ⟨h.len, h.nil, fun i y hy => by
    obtain ⟨b, off, h1, h2, h3⟩ := h.at' i y hy
    exact ⟨b, off, h1, Nat.lt_of_lt_of_le h2 hb.size, fun j u hu => (hb.cell (p := ⟨b, off + i * 3 + j, none⟩) h2).trans (h3 j u hu)⟩⟩
theorem SlDefs.of_row {w : World} {B n cap : Nat} {A : Option Addr} {e : TypeId} {l : List DefT} (h : Row w B e 3 encDef (.slice A n cap) l) : SlDefs w A n cap l := by
  have hlen : n = l.length := by
    obtain ⟨A', c', e1⟩ := h.shape
    injection e1
  refine ⟨hlen.symm, ?_, fun i y hy => ?_⟩
  · rintro rfl
    rcases h.own.2 with ⟨e1, _⟩ | ⟨g, cap', cur, e1, _⟩
    · injection e1 with _ a b; exact ⟨a, b⟩
    · injection e1 with a; cases a
  · have hne : l ≠ [] := by rintro rfl; simp at hy
    obtain ⟨g, cap', e1, _, h3, _, h5⟩ := h.cells encDef_len hne
    injection e1 with a
    exact ⟨g, 0, a, h3, fun j u hu => by rw [Nat.zero_add]; exact (h5 i y hy j u hu).1⟩
theorem SlDefs.take {w : World} {A : Option Addr} {n c r : Nat} {l : List DefT} (h : SlDefs w A n c l) (hr : r ≤ n) : SlDefs w A r c (l.take r) :=
  ⟨by rw [List.length_take, h.len]; omega, fun e => ⟨by have := (h.nil e).1; omega, (h.nil e).2⟩, fun i y hy => by
    rw [List.getElem?_take] at hy
    split at hy
    · exact h.at' i y hy
    · cases hy⟩
theorem SlDefs.drop {w : World} {A : Option Addr} {n c r : Nat} {l : List DefT} (h : SlDefs w A n c l) (hr : r ≤ n) (hc : n ≤ c) : SlDefs w (if c = r then A else A.map fun x => x.add (r * 3)) (n - r) (c - r) (l.drop r) := by
  refine ⟨by rw [List.length_drop, h.len], fun e => ?_, fun i y hy => ?_⟩
  · split at e
    · have := h.nil e; omega
    · have : A = none := by cases A <;> simp_all
      have := h.nil this
      omega
  · rw [List.getElem?_drop] at hy
    obtain ⟨b, off, rfl, hb, h3⟩ := h.at' _ y hy
    have hi := (List.getElem?_eq_some_iff.1 hy).1
    rw [h.len] at hi
    rw [if_neg (by omega)]
    exact ⟨b, off + r * 3, by simp [Addr.add], hb, fun j u hu => by rw [show off + r * 3 + i * 3 + j = off + (r + i) * 3 + j by omega]; exact h3 j u hu⟩
theorem run_defs (w : World) (B : Nat) (v : Value) (l ys : List DefT) (A : Option Addr) (n c : Nat) (t' : TypeId) (h : Row w B 29 3 encDef v l) (hy : SlDefs w A n c ys) (hn : l.length + n ≤ 100000) (hB : B ≤ w.heap.size) :
    ∃ v' w', (Builtin.append_ #[22, 22] t' #[v, .slice A n c]).run Tryd.prog w = .ok v' w' ∧ Row w' B 29 3 encDef v' (l ++ ys) ∧ w.grownBy w' v.ownBlock := by
  obtain ⟨i, z, hi, hz, hsi, hby, hzs⟩ := refDef_info
  cases A with
  | none =>
    obtain ⟨rfl, rfl⟩ := hy.nil rfl
    have hys : ys = [] := List.eq_nil_of_length_eq_zero hy.len
    exact ⟨v, w, run_append_owned_none (P := Tryd.prog) (w := w) B 22 t' 29 i 3 Tryd.underlying22 hi v l.length (l.flatMap encDef) h.own, by rw [hys, List.append_nil]; exact h, ⟨rfl, rfl, rfl, Nat.le_refl _, fun _ _ _ => rfl⟩⟩
  | some ad =>
    obtain ⟨v', w', h1, h2, h3, _⟩ := run_append_own (P := Tryd.prog) w B 22 t' 29 i z 3 32 Tryd.underlying22 hi hz hsi hby hzs (by decide) v l.length (l.flatMap encDef) h.own ad n c (ys.flatMap encDef)
      (by rw [length_flatMap_enc encDef_len, hy.len]) (fun j u hu => by
        have hj : j < ys.length * 3 := by
          have := (List.getElem?_eq_some_iff.1 hu).1
          rwa [length_flatMap_enc encDef_len] at this
        have hdiv : j / 3 < ys.length := by omega
        have hxk := List.getElem?_eq_getElem hdiv
        generalize ys[j / 3] = y at hxk
        obtain ⟨b, off, hA, _, h5⟩ := hy.at' (j / 3) y hxk
        injection hA with hA
        subst hA
        have hadd : (⟨b, off, none⟩ : Addr).add j = ⟨b, off + j, none⟩ := by unfold Addr.add; split <;> simp_all
        rw [hadd]
        have hm : j % 3 < (encDef y).length := by rw [encDef_len]; omega
        have e1 := flatMap_get encDef_len ys (j / 3) (j % 3) y _ hxk (List.getElem?_eq_getElem hm)
        rw [show j / 3 * 3 + j % 3 = j by omega, hu] at e1
        have e2 := h5 (j % 3) _ (List.getElem?_eq_getElem hm)
        rw [show off + j / 3 * 3 + j % 3 = off + j by omega] at e2
        rw [e2, e1])
      (fun u hu => by
        rw [List.mem_flatMap] at hu
        obtain ⟨y, -, hy⟩ := hu
        exact encDef_one y u hy) (by unfold maxLen; omega) (by omega) hB
    refine ⟨v', w', h1, ⟨?_⟩, h3⟩
    rw [List.flatMap_append, List.length_append, hy.len]
    exact h2

theorem Row.cap_le {α : Type} {w : World} {B sz n cap : Nat} {A : Option Addr} {e : TypeId} {enc : α → List Value} {l : List α} (h : Row w B e sz enc (.slice A n cap) l) : n ≤ cap := by
  rcases h.own.2 with ⟨e1, _⟩ | ⟨g, cap', cur, e1, _, _, hn, _⟩
  · injection e1 with _ a b; omega
  · injection e1 with _ a b; omega
theorem wpList_run {P : Program} {w w' : World} {ops : Array Oper} {rest : List Oper} {o : Oper} {a : Act} {Q : Exit → Act → World → Prop} (hgd : o.guard = none) (s x : Operand) (t : TypeId)
    (ho : o.op = .call { callee := .builtin .append, args := #[s, x], argTypes := #[t, t] }) {v v' y : Value} (hs : a.eval s = v) (hx : a.eval x = y)
    (hrun : (Builtin.append_ #[t, t] o.type #[v, y]).run P w = .ok v' w') (h : wpList P ops Q rest (a.put o.dst v') w') : wpList P ops Q (o :: rest) a w := by
  refine wpList_plain hgd fun K hK => ?_
  unfold Oper.wp
  simp [execOp, ho, resolve, invoke, builtin, hs, hx, hrun, Result.andThen]
  exact hK _ _ h
theorem drew_drew (w : World) (a b : Nat) : (w.drewN a).drewN b = w.drewN (a + b) := by simp [World.drewN, Nat.add_assoc]
theorem step_run {P : Program} {w w' : World} {ops : Array Oper} {o : Oper} {a : Act} {K : Act → World → Prop} {Q : Exit → Act → World → Prop} {E : Prop} (hgd : o.guard = none) (s x : Operand) (t : TypeId)
    (ho : o.op = .call { callee := .builtin .append, args := #[s, x], argTypes := #[t, t] }) {v v' y : Value} (hs : a.eval s = v) (hx : a.eval x = y)
    (hrun : (Builtin.append_ #[t, t] o.type #[v, y]).run P w = .ok v' w') (h : K (a.put o.dst v') w') : if Region.wanted o (yielded ops a.tmps) = true then Oper.wp P o a w K Q else E := by
  have hw : Region.wanted o (yielded ops a.tmps) = true := by simp [Region.wanted, hgd]
  rw [if_pos hw]
  unfold Oper.wp
  simp [execOp, ho, resolve, invoke, builtin, hs, hx, hrun, Result.andThen]
  exact h
theorem Row.none_made (w : World) (B : Nat) (hB : B ≤ w.heap.size) : Row (w.alloc (.cells #[] 29)) B 29 3 encDef (.slice (some ⟨w.heap.size, 0, none⟩) 0 0) [] :=
  ⟨World.ownsRow_made w #[] 0 hB (Nat.zero_le _) rfl⟩

set_option maxHeartbeats 8000000 in
theorem rList_any (w : World) (rt : Nat) (L : List DefT) (h : RTab w rt L) (hL : L.length ≤ 1000) :
    Calls Tryd.prog 10 #[.pointer (some ⟨rt, 0, none⟩)] w fun e w' => ∃ v, e = .returned v ∧ Row w' w.heap.size 29 3 encDef v (rlist L) ∧ Below w.heap.size w w' := by
  obtain ⟨A, cap, hc, -, hA⟩ := h.open
  have hrl := h.lt
  have HA := Lib.hid hA
  obtain ⟨i, z, hi, hz, hsi, hby, hzs⟩ := refDef_info
  clear h hA
  go_enter Tryd.func10, Tryd.ntmps10
  go_wp2_with fail
  go_loopw [3, 13] (fun v i wr => ∃ k : Nat, k ≤ L.length ∧ i = .int .i64 k ∧ Row wr w.heap.size 29 3 encDef v (rlist (L.take k)) ∧ Below w.heap.size w wr) (fun _ i _ => L.length - (intOf i).toNat)
  case atStart => exact ⟨0, Nat.zero_le _, rfl, by simpa [rlist] using Row.nil _ _ _ _ _, Below.refl _ _⟩
  case round =>
    obtain ⟨k, hk, rfl, hR, hb⟩ := hrel
    have hrlen : (rlist (L.take k)).length = k := by rw [(rlist_perm _).length_eq, List.length_take]; omega
    by_cases hlt : k < L.length
    · have hne : L ≠ [] := by rintro rfl; simp at hlt
      obtain ⟨g, hA', hg, -, hcs⟩ := HA.out hne
      have hx := List.getElem?_eq_getElem hlt
      have htk := rlist_snoc L k hlt
      generalize L[k] = x at hx htk
      have d0 := hcs k x hx 0 _ rfl
      have d1 := hcs k x hx 1 _ rfl
      have d2 := hcs k x hx 2 _ rfl
      rw [← hb.cell (p := ⟨g, k * 3 + 0, none⟩) hg] at d0
      rw [← hb.cell (p := ⟨g, k * 3 + 1, none⟩) hg] at d1
      rw [← hb.cell (p := ⟨g, k * 3 + 2, none⟩) hg] at d2
      simp only [Nat.add_zero] at d0
      have hlt' : (k : Int) < (L.length : Int) := by omega
      have HT := Lib.hid htk
      have HN := Lib.hid hrlen
      have hwr : w.heap.size ≤ wr.heap.size := hb.size
      obtain ⟨A1, cap1, ev⟩ := hR.shape
      rw [hrlen] at ev
      subst ev
      obtain ⟨w1, hw1⟩ : ∃ w1, w1 = wr.alloc (.cells #[.int .i64 x.1, .int .i64 x.2.1, .string ⟨x.2.2.toArray⟩] 29) := ⟨_, rfl⟩
      have HBX : Hid (Below w.heap.size w w1) := by rw [hw1]; exact hb.alloc hb.size _
      have HRX : Hid (Row w1 w.heap.size 29 3 encDef (.slice A1 k cap1) (rlist (L.take k))) := by rw [hw1]; exact hR.alloc _
      have hbx : w1.heap[wr.heap.size]? = some (.cells #[.int .i64 x.1, .int .i64 x.2.1, .string ⟨x.2.2.toArray⟩] 29 (0, 0)) := by rw [hw1]; exact heap_alloc_new wr _
      obtain ⟨b0, b1, b2, bf⟩ := one_cells hbx
      have hw1s : w1.heap.size = wr.heap.size + 1 := by rw [hw1]; simp
      clear hcs hb hx hR htk hrlen
      subst hA'
      generalize rlist (L.take k) = O at *
      have hO : O.length = k := HN.out
      have HOC : Hid (O ≠ [] → ∃ g1, A1 = some ⟨g1, 0, none⟩ ∧ ∀ i y, O[i]? = some y → w1.cell? ⟨g1, i * 3, none⟩ = some (.int .i64 y.1) ∧ w1.cell? ⟨g1, i * 3 + 1, none⟩ = some (.int .i64 y.2.1) ∧ w1.cell? ⟨g1, i * 3 + 2, none⟩ = some (.string ⟨y.2.2.toArray⟩)) := Lib.hid fun hne' => by
        obtain ⟨g1, cap', e1, _, _, _, h5⟩ := HRX.out.cells encDef_len hne'
        cases e1
        exact ⟨g1, rfl, fun i y hy => ⟨(h5 i y hy 0 _ rfl).1, (h5 i y hy 1 _ rfl).1, (h5 i y hy 2 _ rfl).1⟩⟩
      have HO := Lib.hid hO
      clear hO
      go_upto_block 2 with fail
      rw [← hw1]
      have HW1 := Lib.hid hw1
      clear hw1 hbx d0 d1 d2
      go_cut [6, 13] from 13 to 69 (fun a i wx => a = .int .i64 (rat O x k : Nat) ∧ i = .int .i64 k ∧ ∃ q, wx = w1.drewN q)
      case first =>
        go_wp2_with fail
        go_loopw [6] (fun i wi => ∃ m q : Nat, m ≤ k ∧ i = .int .i64 m ∧ Hid (rat O x k = rat O x m) ∧ wi = w1.drewN q) (fun i _ => (intOf i).toNat)
        case atStart => exact ⟨k, 0, Nat.le_refl _, rfl, Lib.hid rfl, rfl⟩
        case round =>
          obtain ⟨m, q, hm, rfl, HRA, rfl⟩ := hrel
          obtain _ | m := m
          · have HL : Hid (rat O x k = 0) := Lib.hid (by rw [HRA.out]; rfl)
            go_wp2_with fail
            go_quiet (fail)
            go_wp2_with fail
            go_meet
            exact ⟨by rw [HL.out], rfl, ⟨_, drew_drew _ _ _⟩⟩
          · have hmO : m < O.length := by rw [HO.out]; exact hm
            have hy := List.getElem?_eq_getElem hmO
            have hneO : O ≠ [] := by rintro rfl; simp at hmO
            obtain ⟨g1, hA1, hcy⟩ := HOC.out hneO
            have hgd : O.getD m (0, 0, []) = O[m] := getD_at O hmO
            generalize O[m] = y at hy hgd
            obtain ⟨c0, c1, c2⟩ := hcy m y hy
            have hmk : (m : Int) < (k : Int) := by omega
            have hwrap : IntKind.i64.wrap (m : Int) = (m : Int) := IntWalk.i64_in _ (by omega)
            subst hA1
            obtain ⟨y1, y2, y3⟩ := y
            obtain ⟨x1, x2, x3⟩ := x
            simp only at c0 c1 c2 b0 b1 b2
            have HGD := Lib.hid hgd
            clear hy hcy hgd
            rcases ls_tri x3 y3 with hlt3 | heq3 | hgt3
            · have f1 : Op.bytesLess y3 x3 = false := by rw [str_less]; exact decide_eq_false (fun h => List.lt_irrefl _ (List.lt_trans h hlt3))
              have f2 : (y3 == x3) = false := beq_eq_false_iff_ne.2 (fun h => by subst h; exact List.lt_irrefl _ hlt3)
              have HL : Hid (rat O (x1, x2, x3) (m + 1) = rat O (x1, x2, x3) m) := Lib.hid (by show (if defLt _ _ then _ else _) = _; rw [HGD.out, if_pos (.inl hlt3)])
              clear hlt3 HGD
              go_wp2_with fail
              go_quiet (fail)
              go_wp2_with fail
              go_roundw
              case rel => exact ⟨m, _, by omega, rfl, Lib.hid (HRA.out.trans HL.out), rfl⟩
              case measure => simp [intOf]
            · subst heq3
              have f1 : Op.bytesLess x3 x3 = false := by rw [str_less]; exact decide_eq_false (List.lt_irrefl _)
              have f2 : (x3 == x3) = true := beq_self_eq_true _
              by_cases h2 : x2 < y2
              · have HL : Hid (rat O (x1, x2, x3) (m + 1) = rat O (x1, x2, x3) m) := Lib.hid (by show (if defLt _ _ then _ else _) = _; rw [HGD.out, if_pos (.inr ⟨rfl, h2⟩)])
                clear HGD
                go_wp2_with fail
                go_quiet (fail)
                go_wp2_with fail
                go_roundw
                case rel => exact ⟨m, _, by omega, rfl, Lib.hid (HRA.out.trans HL.out), rfl⟩
                case measure => simp [intOf]
              · have HL : Hid (rat O (x1, x2, x3) (m + 1) = m + 1) := Lib.hid (by
                  show (if defLt _ _ then _ else _) = _
                  rw [HGD.out, if_neg]
                  rintro (h | ⟨_, h⟩)
                  · exact List.lt_irrefl _ h
                  · exact h2 h)
                clear HGD
                go_wp2_with fail
                go_quiet (fail)
                go_wp2_with fail
                go_meet
                exact ⟨by rw [HRA.out, HL.out]; rfl, rfl, ⟨_, drew_drew _ _ _⟩⟩
            · have f1 : Op.bytesLess y3 x3 = true := by rw [str_less]; exact decide_eq_true hgt3
              have f2 : (y3 == x3) = false := beq_eq_false_iff_ne.2 (fun h => by subst h; exact List.lt_irrefl _ hgt3)
              have HL : Hid (rat O (x1, x2, x3) (m + 1) = m + 1) := Lib.hid (by
                show (if defLt _ _ then _ else _) = _
                rw [HGD.out, if_neg]
                rintro (h | ⟨h, _⟩)
                · exact List.lt_irrefl _ (List.lt_trans h hgt3)
                · subst h
                  exact List.lt_irrefl _ hgt3)
              clear HGD hgt3
              go_wp2_with fail
              go_quiet (fail)
              go_wp2_with fail
              go_meet
              exact ⟨by rw [HRA.out, HL.out]; rfl, rfl, ⟨_, drew_drew _ _ _⟩⟩
      case rest =>
        obtain ⟨rfl, rfl, q, rfl⟩ := hcut
        have hr := rat_le O x k
        have HI : Hid (rins O x = O.take (rat O x k) ++ x :: O.drop (rat O x k)) := Lib.hid (by unfold rins; rw [HO.out])
        generalize rat O x k = r at *
        obtain ⟨u1, hu1⟩ : ∃ u1, u1 = w1.drewN q := ⟨_, rfl⟩
        have hBu : Below w1.heap.size w1 u1 := by rw [hu1]; exact ⟨rfl, rfl, rfl, Nat.le_refl _, fun _ _ => rfl⟩
        rw [← hu1]
        have HB1 : Hid (Below w.heap.size w u1) := HBX.out.trans (hBu.mono HBX.out.size)
        have HR1 := Lib.hid (HRX.out.later hBu)
        have hs1 : SlDefs u1 A1 k cap1 O := SlDefs.of_row HR1.out
        have hcap := HR1.out.cap_le
        have d0 := (hBu.cell (p := ⟨wr.heap.size, 0, none⟩) (by simp only; omega)).trans b0
        have d1 := (hBu.cell (p := ⟨wr.heap.size, 1, none⟩) (by simp only; omega)).trans b1
        have d2 := (hBu.cell (p := ⟨wr.heap.size, 2, none⟩) (by simp only; omega)).trans b2
        have hu1s := hBu.size
        have hwu := HB1.out.size
        clear b0 b1 b2 bf hu1 hBu HW1
        have hba : Below u1.heap.size u1 (u1.alloc (.cells #[] 29)) := (Below.refl _ _).alloc (Nat.le_refl _) _
        obtain ⟨v8, u8, hr8, hR8, hg8⟩ := run_defs (u1.alloc (.cells #[] 29)) u1.heap.size _ [] (O.take r) A1 r cap1 22 (Row.none_made u1 u1.heap.size (Nat.le_refl _)) ((hs1.take hr).later hba) (by simp; omega) (by simp)
        rw [List.nil_append] at hR8
        have hb8 : Below u1.heap.size u1 u8 := below_grown hba hg8 (fun g e => by simp [Value.ownBlock] at e; omega) (by simp)
        have HS1 := Lib.hid hs1
        have HB8 := Lib.hid hb8
        have c0 := (hb8.cell (p := ⟨wr.heap.size, 0, none⟩) (by simp only; omega)).trans d0
        have c1 := (hb8.cell (p := ⟨wr.heap.size, 1, none⟩) (by simp only; omega)).trans d1
        have c2 := (hb8.cell (p := ⟨wr.heap.size, 2, none⟩) (by simp only; omega)).trans d2
        have HR8 := Lib.hid hR8
        have hrk : (r : Int) ≤ (k : Int) := by omega
        have hrc : (r : Int) ≤ (cap1 : Int) := by omega
        have hkc : (k : Int) ≤ (cap1 : Int) := by omega
        clear hg8 hba hR8 hb8 hs1 d0 d1 d2
        go_wp2_with (at_builtin; refine wpList_run rfl (.tmp 56) (.tmp 59) 22 rfl rfl (by rfl) hr8 ?_)
        clear hr8
        have hb9a : Below u1.heap.size u1 ((u8.alloc (.cells #[.int .i64 x.1, .int .i64 x.2.1, .string ⟨x.2.2.toArray⟩] 29)).drew) := (HB8.out.alloc HB8.out.size _).drew
        have hs9 : SlDefs ((u8.alloc (.cells #[.int .i64 x.1, .int .i64 x.2.1, .string ⟨x.2.2.toArray⟩] 29)).drew) (some ⟨u8.heap.size, 0, none⟩) 1 1 [x] := by
          refine ⟨rfl, (fun h => by cases h), fun i y hy => ?_⟩
          obtain ⟨rfl, rfl⟩ : i = 0 ∧ y = x := by
            rcases Nat.eq_zero_or_pos i with rfl | h0
            · simp at hy; exact ⟨rfl, hy.symm⟩
            · rw [List.getElem?_eq_none (by simp; omega)] at hy; cases hy
          refine ⟨_, 0, rfl, by simp, fun j u hu => ?_⟩
          rw [Nat.zero_mul, Nat.add_zero, Nat.zero_add]
          exact cell_one u8 _ _ j u (by simpa [encDef] using hu)
        obtain ⟨v9, w9, hr9, hR9, hg9⟩ := run_defs ((u8.alloc (.cells #[.int .i64 x.1, .int .i64 x.2.1, .string ⟨x.2.2.toArray⟩] 29)).drew) u1.heap.size v8 (O.take r) [x] _ 1 1 22 (HR8.out.later (((Below.refl _ _).alloc (Nat.le_refl _) _).drew)) hs9 (by rw [List.length_take, HO.out]; omega) (by have := HB8.out.size; simp; omega)
        have hb9 : Below u1.heap.size u1 w9 := below_grown hb9a hg9 (fun g e => (HR8.out.lt g e).1) (by have := HB8.out.size; simp; omega)
        obtain ⟨D, hD⟩ : ∃ D, D = (if cap1 = r then A1 else A1.map fun x => x.add (r * 3)) := ⟨_, rfl⟩
        have hs10 : SlDefs w9 D (k - r) (cap1 - r) (O.drop r) := by rw [hD]; exact (HS1.out.later hb9).drop hr hcap
        obtain ⟨v10, w10, hr10, hR10, hg10⟩ := run_defs w9 u1.heap.size v9 (O.take r ++ [x]) (O.drop r) D (k - r) (cap1 - r) 22 hR9 hs10 (by rw [List.length_append, List.length_take, HO.out]; simp; omega) hb9.size
        have HR10 := Lib.hid hR10
        have HB10 : Hid (Below u1.heap.size u1 w10) := Lib.hid (below_grown hb9 hg10 (fun g e => (hR9.lt g e).1) hb9.size)
        clear hb9a hs9 hR9 hg9 hb9 hs10 hR10 hg10
        go_wp2_with fail
        go_region_law (first | (refine step_run rfl (.tmp 61) (.tmp 63) 22 rfl (by rfl) (by rfl) hr9 ?_) | (refine step_run rfl (.tmp 64) (.tmp 67) 22 rfl (by rfl) (by rw [hD]; rfl) hr10 ?_))
        go_wp2_with fail
        go_roundw
        case rel =>
          refine ⟨k + 1, hlt, by go_num, ?_, HB1.out.trans (HB10.out.mono hwu)⟩
          have h10 := HR10.out.down hwu
          rw [List.append_assoc] at h10
          rw [HT.out, HI.out]
          exact h10
        case measure => simp [intOf]; omega
    · have hkn : k = L.length := by omega
      subst hkn
      rw [List.take_length] at hR
      have HR := Lib.hid hR
      have HBB := Lib.hid hb
      clear hR hb
      go_wp2_with fail
      go_ret
      exact ⟨_, rfl, HR.out, HBB.out⟩
end Go.Proofs.YtiaajpfebcccfaaDoor
