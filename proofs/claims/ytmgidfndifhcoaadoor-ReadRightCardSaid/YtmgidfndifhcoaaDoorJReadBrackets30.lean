import Derived.Test.YtmgidfndifhcoaaDoorJReadBrackets27
import Derived.Test.YtmgidfndifhcoaaDoorJReadBrackets28
import Derived.Test.YtmgidfndifhcoaaDoorJReadBrackets29
import Derived.Test.YtmgidfndifhcoaaDoorJReadBrackets17
import Derived.Test.YtmgidfndifhcoaaDoorJReadBrackets05
import Derived.Deep.RegionHeld3
import Derived.Deep.Cut
import Derived.Deep.CutRange
import Derived.Deep.DeepCutAuto
/-
  A text's tokens are few, short, of known kinds, their numbers of 64 bits. Plain laws; condition: the text is short.
-/
namespace Go.Proofs.YtmgidfndifhcoaaDoor

def nOk (n : Int) : Prop := -9223372036854775808 ≤ n ∧ n ≤ 9223372036854775807
theorem tops_ok (v : Nat) (h : ¬ 9223372036854775808 < v) : nOk (tops v) := by
  unfold tops nOk
  split <;> omega
theorem parseF_ok (base : Nat) (l : List UInt8) : nOk (parseF base l).1 := by
  unfold parseF
  split
  · simp [nOk]
  · split
    · simp [nOk]
    · exact tops_ok _ (by assumption)
theorem byte_ok (c : UInt8) : nOk (c.toNat : Int) := by
  have := c.toNat_lt
  unfold nOk
  omega
theorem digitsF_ok {base frm : Nat} {l : List UInt8} {x : Int × Nat} (h : digitsF base l frm = some x) : nOk x.1 := by
  unfold digitsF at h
  simp only at h
  split at h
  · injection h with h
    subst h
    exact parseF_ok _ _
  · cases h
theorem slashRes_ok {y : Option (List UInt8 × Nat)} {x : Int × Nat} (h : slashRes y = some x) : nOk x.1 := by
  unfold slashRes at h
  split at h
  · cases h; exact byte_ok _
  · cases h
theorem charF_ok {l : List UInt8} {x : Int × Nat} (h : charF l = some x) : nOk x.1 := by
  unfold charF at h
  split at h
  · unfold charAt2 at h
    split at h
    · cases h
    split at h
    · split at h
      · cases h
        simp [nOk]
      · cases h
    split at h
    · unfold charSlash at h
      split at h
      · cases h
      · exact slashRes_ok h
    · cases h
      exact byte_ok _
  · cases h
theorem numberF_ok {l : List UInt8} {x : Int × Nat} (h : numberF l = some x) : nOk x.1 := by
  unfold numberF at h
  split at h
  · exact digitsF_ok h
  split at h
  · exact digitsF_ok h
  split at h
  · exact digitsF_ok h
  split at h
  · exact charF_ok h
  · exact digitsF_ok h
theorem tokF_ok {l : List UInt8} {t : TokIs} (h : tokF l = some t) : nOk t.n ∧ 0 ≤ t.kind ∧ t.kind ≤ 7 := by
  have z : nOk 0 := by simp [nOk]
  cases l with
  | nil => cases h
  | cons c r =>
    unfold tokF at h
    simp only at h
    split at h
    · cases h; exact ⟨z, by simp, by simp⟩
    · split at h
      · cases h; exact ⟨z, by simp, by simp⟩
      · split at h
        · cases h; exact ⟨z, by simp, by simp⟩
        · split at h
          · cases h; exact ⟨z, by simp, by simp⟩
          · split at h
            · cases h; exact ⟨z, by simp, by simp⟩
            · split at h
              · cases hn : numberF (c :: r) with
                | none => rw [hn] at h; cases h
                | some x => rw [hn] at h; cases h; exact ⟨numberF_ok hn, by simp, by simp⟩
              · split at h
                · cases hn : getQ 39 r with
                  | none => rw [hn] at h; cases h
                  | some x => rw [hn] at h; cases h; exact ⟨z, by simp, by simp⟩
                · split at h
                  · cases hn : getQ 34 r with
                    | none => rw [hn] at h; cases h
                    | some x => rw [hn] at h; cases h; exact ⟨z, by simp, by simp⟩
                  · split at h
                    · cases h; exact ⟨z, by simp, by simp⟩
                    · cases h
structure TkOk (M : Nat) (t : Tok) : Prop where
  short : t.s.length ≤ M
  n : nOk t.n
  k0 : 0 ≤ t.kind
  k7 : t.kind ≤ 7
theorem lexF_ok (M : Nat) : ∀ (f : Nat) (l : List UInt8) (line : Nat) (first : Bool), l.length < f → l.length ≤ M → (∀ t ∈ (lexF f l line first).1, TkOk M t) ∧ (lexF f l line first).1.length ≤ l.length + 1 := by
  intro f
  induction f with
  | zero => intro l line first h; omega
  | succ f ih =>
    intro l line first hf hM
    simp only [lexF]
    split
    · exact ⟨fun t ht => (by simp at ht), (by simp)⟩
    · split
      · refine ⟨fun t ht => ?_, by simp⟩
        rw [List.mem_singleton] at ht
        subst ht
        exact ⟨Nat.zero_le _, by simp [nOk], by simp, by simp⟩
      · cases ht : tokF (skipB l).1 with
        | none => exact ⟨fun t ht => (by simp at ht), (by simp)⟩
        | some t =>
          simp only
          have h1 := tokF_pos ht
          have h2 := skipB_len l
          have hne : 0 < (skipB l).1.length := List.length_pos_iff.2 (by assumption)
          have h3 := tokF_le ht
          have h4 := tokF_short ht
          obtain ⟨h5, h6, h7⟩ := tokF_ok ht
          have hd : ((skipB l).1.drop t.len).length = (skipB l).1.length - t.len := List.length_drop
          obtain ⟨g1, g2⟩ := ih ((skipB l).1.drop t.len) (line + lines (l.take (l.length - (skipB l).1.length)) + lines ((skipB l).1.take t.len)) false (by omega) (by omega)
          refine ⟨fun u hu => ?_, by simp only [List.length_cons]; omega⟩
          rcases List.mem_cons.1 hu with rfl | hu
          · exact ⟨by simp only; omega, h5, h6, h7⟩
          · exact g1 u hu
theorem lexB_ok (l : List UInt8) : (∀ t ∈ (lexB l).1, TkOk l.length t) ∧ (lexB l).1.length ≤ l.length + 1 := lexF_ok l.length _ l 1 true (Nat.lt_succ_self _) (Nat.le_refl _)
theorem volA_le (M : Nat) : ∀ l : List Tok, (∀ t ∈ l, t.s.length ≤ M) → volA l ≤ l.length * (2 + 2 * M)
  | [], _ => by simp [volA]
  | t :: r, h => by
    have h1 := volA_le M r fun t ht => h t (List.mem_cons_of_mem _ ht)
    have h2 := h t List.mem_cons_self
    have e : volA (t :: r) = (2 + 2 * t.s.length) + volA r := by simp [volA]
    rw [e, List.length_cons, Nat.add_mul]
    omega
end Go.Proofs.YtmgidfndifhcoaaDoor
/-
  The closure of ReadBrackets: a text is lexed and its first clause read. Conditions: the text is short; the tables are laid.
-/
namespace Go.Proofs.YtmgidfndifhcoaaDoor
open Go.RowKit Go.Maps
set_option maxRecDepth 100000

theorem tokOk_lex {T : List UInt8} (h : T.length ≤ 1600) : TokOk (lexB T).1 := by
  obtain ⟨h1, h2⟩ := lexB_ok T
  have h3 := volA_le 1600 (lexB T).1 fun t ht => Nat.le_trans (h1 t ht).short h
  refine ⟨by omega, fun t ht => by have := (h1 t ht).short; omega, fun t ht => ⟨(h1 t ht).n, ?_⟩, ?_⟩
  · have := (h1 t ht).k0
    have := (h1 t ht).k7
    unfold okI
    omega
  · rw [vol_len]
    have h4 : (lexB T).1.length ≤ 1601 := by omega
    have h5 := Nat.mul_le_mul_right (2 + 2 * 1600) h4
    omega
/-- What the closure answers. -/
def oneF (T : List UInt8) : ClauseF × Int :=
  if (lexB T).2.2 ≠ 0 then (⟨noTm, [], 0, 0⟩, (lexB T).2.2)
  else if (readF (opsOf opsInit) (lexB T).1 0).2 = 0 ∧ (readF (opsOf opsInit) (lexB T).1 0).1.next ≠ ((lexB T).1.length : Int) - 1 then ((readF (opsOf opsInit) (lexB T).1 0).1, 6)
  else readF (opsOf opsInit) (lexB T).1 0
theorem ReadOut.keepS {w u : World} {c : ClauseF × Int} {e : Ending} (h : ReadOut w u c e) : Below w.heap.size w u := h.1

/-- The closure's last world. -/
theorem one_done {w W : World} {x : TV} {ft : Tm} {nv : Value} {fn : List (List UInt8 × Int)} {B : Nat} (hB : Below w.heap.size w W) (hc : W.heap[w.heap.size]? = some (.cells #[.int .i64 0, .int .i64 0, .string ⟨#[]⟩, .slice none 0 0, .slice none 0 0, .int .i64 0, .int .i64 0] 28 (0, 0)))
    (hx : TermS W (TyB W 25) x ft) (hn : Row W B 57 2 encB nv fn) (fl fx : Int) :
    ∃ WF, (((((((W.setCell ⟨w.heap.size, 0, none⟩ (.int .i64 x.k)).setCell ⟨w.heap.size, 1, none⟩ (.int .i64 x.n)).setCell ⟨w.heap.size, 2, none⟩ (.string ⟨x.s.toArray⟩)).setCell ⟨w.heap.size, 3, none⟩ (.slice x.A x.len x.cap)).setCell ⟨w.heap.size, 4, none⟩ nv).setCell ⟨w.heap.size, 5, none⟩ (.int .i64 fl)).setCell ⟨w.heap.size, 6, none⟩ (.int .i64 fx)) = WF ∧
      Below w.heap.size w WF ∧ TermS WF (TyB WF 25) x ft ∧ Row WF B 57 2 encB nv fn ∧ WF.heap[w.heap.size]? = some (.cells #[.int .i64 x.k, .int .i64 x.n, .string ⟨x.s.toArray⟩, .slice x.A x.len x.cap, nv, .int .i64 fl, .int .i64 fx] 28 (0, 0)) := by
  refine ⟨_, rfl, cl_below hB _ (Nat.le_refl _) _ _ _ _ _ _ _, ?_, ?_, blk_set7 hc _ _ _ _ _ _ _⟩
  · exact hx.keep (fun b hb => hb.keep (blk_set7_ne _ _ _ _ _ _ _ (hb.ne ⟨_, hc⟩ (by decide)))) fun b hb => blk_set7_ne _ _ _ _ _ _ _ (hb.ne ⟨_, hc⟩ (by decide))
  · exact Row.keep hn fun k hk => blk_set7_ne _ _ _ _ _ _ _ ((hn.ty hk).ne ⟨_, hc⟩ (by decide))

set_option maxHeartbeats 8000000 in
theorem one_any (w : World) (hE : RdEnv w) (T : List UInt8) (hT : T.length ≤ 1600) :
    Calls Tryd.prog 8 #[.string ⟨T.toArray⟩] w fun e w' => ReadOut w w' (oneF T) e := by
  obtain ⟨R, hR⟩ : ∃ R : Ending → World → Prop, R = fun e w' => ReadOut w w' (oneF T) e := ⟨_, rfl⟩
  rw [← hR]
  have HRR := Lib.hid hR
  have HE := Lib.hid hE
  have HTK := Lib.hid (tokOk_lex hT)
  have hTi : (T.length : Int) ≤ 16000 := by omega
  clear hR hE
  go_enter Tryd.func8, Tryd.ntmps8
  go_wp2_with fail
  refine (lex_any _ T hTi (HE.out.later ((Below.refl _ _).alloc (Nat.le_refl _) _)).max).mono ?_
  rintro e w2 ⟨v2, rfl, hr2, hb2⟩
  have hb2' : Below w.heap.size w w2 := ((Below.refl _ _).alloc (Nat.le_refl _) _).trans (hb2.mono (by rw [World.size_alloc]; omega))
  have hcb := (hb2.block w.heap.size (by rw [World.size_alloc]; omega)).trans (heap_alloc_new w _)
  have hs2 : w.heap.size < w2.heap.size := by have := hb2.size; rw [World.size_alloc] at this; omega
  obtain ⟨z0, z1, z2, z3, z4, z5, z6, zf⟩ := seven_at hcb
  have HB2 := Lib.hid hb2'
  have HR2 := Lib.hid hr2
  have HCB := Lib.hid hcb
  clear hr2 hb2 hb2' hcb
  generalize hL : lexB T = L at HTK HR2 ⊢
  obtain ⟨ts, ln, er⟩ := L
  dsimp only at HTK HR2 ⊢
  have HL := Lib.hid hL
  clear hL
  by_cases he : er ≠ 0
  · have h' : (er == 0) = false := beq_eq_false_iff_ne.2 he
    have h'' : (er != 0) = true := by simpa using he
    go_wp2_with fail
    have hC7 := blk_set7 HCB.out (.int .i64 0) (.int .i64 0) (.string ⟨#[]⟩) (.slice none 0 0) (.slice none 0 0) (.int .i64 0) (.int .i64 0)
    have hb7 := cl_below HB2.out w.heap.size (Nat.le_refl _) (.int .i64 0) (.int .i64 0) (.string ⟨#[]⟩) (.slice none 0 0) (.slice none 0 0) (.int .i64 0) (.int .i64 0)
    generalize hW : ((((((w2.setCell ⟨w.heap.size, 0, none⟩ (.int .i64 0)).setCell ⟨w.heap.size, 1, none⟩ (.int .i64 0)).setCell ⟨w.heap.size, 2, none⟩ (.string ⟨#[]⟩)).setCell ⟨w.heap.size, 3, none⟩ (.slice none 0 0)).setCell ⟨w.heap.size, 4, none⟩ (.slice none 0 0)).setCell ⟨w.heap.size, 5, none⟩ (.int .i64 0)).setCell ⟨w.heap.size, 6, none⟩ (.int .i64 0) = WF at hC7 hb7 ⊢
    clear hW z0 z1 z2 z3 z4 z5 z6 zf
    obtain ⟨z0, z1, z2, z3, z4, z5, z6, zf⟩ := seven_at hC7
    refine ⟨rfl, .tuple #[.agg #[.int .i64 0, .int .i64 0, .string ⟨#[]⟩, .slice none 0 0, .slice none 0 0, .int .i64 0, .int .i64 0], .int .i64 er], by simp [results, Tryd.results8, go_sem, z0, z1, z2, z3, z4, z5, z6], ?_⟩
    rw [HRR.out]
    have ho : oneF T = (⟨noTm, [], 0, 0⟩, er) := by unfold oneF; rw [HL.out, if_pos he]
    rw [ho]
    exact ⟨hb7, ⟨0, 0, [], none, 0, 0⟩, .slice none 0 0, 0, rfl, .leaf _ _ _ _ _ _ _ (Nat.zero_le _), Row.nil _ _ _ _ _⟩
  obtain rfl := Classical.not_not.1 he
  clear he
  obtain ⟨An, cn, rfl⟩ := HR2.out.shape
  go_wp2_with fail
  refine (new_any _ (HE.out.later HB2.out).kinds (HE.out.later HB2.out).tab).mono ?_
  rintro e w3 ⟨bt, bm, rfl, hT3, hbt, hbm, hne, hb3⟩
  have hr3 := HR2.out.later hb3
  have hcb3 := (hb3.block w.heap.size hs2).trans HCB.out
  have hE3 : RdEnv w3 := HE.out.later (HB2.out.trans (hb3.mono HB2.out.size))
  have HB3 := Lib.hid (HB2.out.trans (hb3.mono HB2.out.size))
  have hs3 : w.heap.size < w3.heap.size := Nat.lt_of_lt_of_le hs2 hb3.size
  have HRE := Lib.hid (read_any w3 An ts.length cn ts (toks_row hr3) HTK.out 0 bt bm opsInit hT3 hE3.kinds)
  have HCB3 := Lib.hid hcb3
  clear hr3 hcb3 hE3 hb3 hT3 z0 z1 z2 z3 z4 z5 z6 zf
  go_wp2_with fail
  refine HRE.out.mono ?_
  rintro e w4 ⟨hb4, x, nv, B, rfl, hx4, hn4⟩
  have hcb4 := (hb4.block w.heap.size hs3).trans HCB3.out
  have HB4 := Lib.hid (HB3.out.trans (hb4.mono HB3.out.size))
  have hs4 : w.heap.size < w4.heap.size := Nat.lt_of_lt_of_le hs3 hb4.size
  obtain ⟨An4, cn4, rfl⟩ := hn4.shape
  generalize hF : readF (opsOf opsInit) ts 0 = F at hx4 hn4 ⊢
  have HF := Lib.hid hF
  obtain ⟨⟨ft, fn, fl, fx⟩, fe⟩ := F
  dsimp only at hx4 hn4 ⊢
  have HX4 := Lib.hid hx4
  have HN4 := Lib.hid hn4
  have HCB4 := Lib.hid hcb4
  clear hF hx4 hn4 hcb4 hb4 HRE HR2 HCB HCB3
  unfold clV
  go_upto_region 5 with fail
  have hn5 := heap_alloc_new w4 (.cells #[.int .i64 x.k, .int .i64 x.n, .string ⟨x.s.toArray⟩, .slice x.A x.len x.cap, .slice An4 fn.length cn4, .int .i64 fl, .int .i64 fx] 28)
  have hk5 : ∀ k, k < w4.heap.size → (w4.alloc (.cells #[.int .i64 x.k, .int .i64 x.n, .string ⟨x.s.toArray⟩, .slice x.A x.len x.cap, .slice An4 fn.length cn4, .int .i64 fl, .int .i64 fx] 28)).heap[k]? = w4.heap[k]? := fun k hk => Below.heap_alloc _ _ _ hk
  have hb5 := HB4.out.trans ((Below.refl _ _).alloc HB4.out.size (.cells #[.int .i64 x.k, .int .i64 x.n, .string ⟨x.s.toArray⟩, .slice x.A x.len x.cap, .slice An4 fn.length cn4, .int .i64 fl, .int .i64 fx] 28))
  generalize hW5 : w4.alloc (.cells #[.int .i64 x.k, .int .i64 x.n, .string ⟨x.s.toArray⟩, .slice x.A x.len x.cap, .slice An4 fn.length cn4, .int .i64 fl, .int .i64 fx] 28) = W5 at hn5 hk5 hb5 ⊢
  have HX5 : Hid (TermS W5 (TyB W5 25) x ft) := Lib.hid (HX4.out.keep (fun b hb => hb.keep (hk5 b hb.lt)) fun b hb => hk5 b hb.lt)
  have HN5 : Hid (Row W5 B 57 2 encB (.slice An4 fn.length cn4) fn) := Lib.hid (Row.keep HN4.out fun k hk => hk5 k (HN4.out.lt k hk).2)
  have HB5 := Lib.hid hb5
  have hcb5 := (hk5 w.heap.size hs4).trans HCB4.out
  have HCB5 := Lib.hid hcb5
  have HG5 := Lib.hid hn5
  have hne5 : w4.heap.size ≠ w.heap.size := by omega
  clear hW5 hk5 hb5 HX4 HN4 HCB4 HB4 hs4 hs3 hs2 HB3 HB2
  generalize w4.heap.size = g at hn5 hne5 HG5 ⊢
  obtain ⟨z0, z1, z2, z3, z4, z5, z6, zf⟩ := seven_at hcb5
  obtain ⟨y0, y1, y2, y3, y4, y5, y6, yf⟩ := seven_at hn5
  clear hn5 hcb5 yf
  by_cases hfe : fe ≠ 0
  · have h' : (fe == 0) = false := beq_eq_false_iff_ne.2 hfe
    go_wp2_with fail
    obtain ⟨WF, hWF, hbF, hxF, hnF, hcF⟩ := one_done HB5.out HCB5.out HX5.out HN5.out fl fx
    rw [hWF]
    clear hWF z0 z1 z2 z3 z4 z5 z6 zf
    obtain ⟨z0, z1, z2, z3, z4, z5, z6, zf⟩ := seven_at hcF
    refine ⟨rfl, .tuple #[.agg #[.int .i64 x.k, .int .i64 x.n, .string ⟨x.s.toArray⟩, .slice x.A x.len x.cap, .slice An4 fn.length cn4, .int .i64 fl, .int .i64 fx], .int .i64 (fe)], by simp [results, Tryd.results8, go_sem, z0, z1, z2, z3, z4, z5, z6], ?_⟩
    rw [HRR.out]
    have ho : oneF T = (⟨ft, fn, fl, fx⟩, fe) := by
      unfold oneF
      rw [HL.out]
      dsimp only
      rw [HF.out, if_neg (by simp)]
      exact if_neg fun h => hfe h.1
    rw [ho]
    exact ⟨hbF, x, _, B, rfl, hxF, hnF⟩
  obtain rfl := Classical.not_not.1 hfe
  clear hfe
  have hw : wrap64 ((ts.length : Int) - 1) = (ts.length : Int) - 1 := by have := HTK.out.few; unfold wrap64; omega
  by_cases hx6 : fx ≠ (ts.length : Int) - 1
  · have h' : (fx == (ts.length : Int) - 1) = false := beq_eq_false_iff_ne.2 hx6
    have h'' : (fx != (ts.length : Int) - 1) = true := by simpa using hx6
    have hln := HTK.out.few
    go_wp2_with fail
    obtain ⟨WF, hWF, hbF, hxF, hnF, hcF⟩ := one_done HB5.out HCB5.out HX5.out HN5.out fl fx
    rw [hWF]
    clear hWF z0 z1 z2 z3 z4 z5 z6 zf
    obtain ⟨z0, z1, z2, z3, z4, z5, z6, zf⟩ := seven_at hcF
    refine ⟨rfl, .tuple #[.agg #[.int .i64 x.k, .int .i64 x.n, .string ⟨x.s.toArray⟩, .slice x.A x.len x.cap, .slice An4 fn.length cn4, .int .i64 fl, .int .i64 fx], .int .i64 (6)], by simp [results, Tryd.results8, go_sem, z0, z1, z2, z3, z4, z5, z6], ?_⟩
    rw [HRR.out]
    have ho : oneF T = (⟨ft, fn, fl, fx⟩, 6) := by
      unfold oneF
      rw [HL.out]
      dsimp only
      rw [HF.out, if_neg (by simp)]
      exact if_pos ⟨rfl, hx6⟩
    rw [ho]
    exact ⟨hbF, x, _, B, rfl, hxF, hnF⟩
  · obtain rfl := Classical.not_not.1 hx6
    have hln := HTK.out.few
    go_wp2_with fail
    obtain ⟨WF, hWF, hbF, hxF, hnF, hcF⟩ := one_done HB5.out HCB5.out HX5.out HN5.out fl ((ts.length : Int) - 1)
    rw [hWF]
    clear hWF z0 z1 z2 z3 z4 z5 z6 zf
    obtain ⟨z0, z1, z2, z3, z4, z5, z6, zf⟩ := seven_at hcF
    refine ⟨rfl, .tuple #[.agg #[.int .i64 x.k, .int .i64 x.n, .string ⟨x.s.toArray⟩, .slice x.A x.len x.cap, .slice An4 fn.length cn4, .int .i64 fl, .int .i64 ((ts.length : Int) - 1)], .int .i64 (0)], by simp [results, Tryd.results8, go_sem, z0, z1, z2, z3, z4, z5, z6], ?_⟩
    rw [HRR.out]
    have ho : oneF T = (⟨ft, fn, fl, (ts.length : Int) - 1⟩, 0) := by
      unfold oneF
      rw [HL.out]
      dsimp only
      rw [HF.out, if_neg (by simp)]
      exact if_neg fun h => hx6 h.2
    rw [ho]
    exact ⟨hbF, x, _, B, rfl, hxF, hnF⟩
end Go.Proofs.YtmgidfndifhcoaaDoor
/-
  prolixref03.Same: are two terms the same? Condition: they can be read.
-/
namespace Go.Proofs.YtmgidfndifhcoaaDoor
open Go.RowKit
set_option maxRecDepth 100000

noncomputable def sameTm (t u : Tm) : Bool := @decide (t = u) (Classical.propDecidable _)
theorem sameTm_iff (t u : Tm) : sameTm t u = true ↔ t = u := by
  unfold sameTm
  exact @decide_eq_true_iff _ (Classical.propDecidable _)
theorem sameTm_self (t : Tm) : sameTm t t = true := (sameTm_iff t t).2 rfl
theorem sameTm_false {t u : Tm} (h : t ≠ u) : sameTm t u = false := by
  cases hb : sameTm t u with
  | false => rfl
  | true => exact absurd ((sameTm_iff t u).1 hb) h
theorem s10_drew {w : World} {p0 p1 p2 p3 p4 p5 p6 p7 p8 p9 : Addr} {x0 x1 x2 x3 x4 x5 x6 x7 x8 x9 : Option Value} (h : w.cell? p0 = x0 ∧ w.cell? p1 = x1 ∧ w.cell? p2 = x2 ∧ w.cell? p3 = x3 ∧ w.cell? p4 = x4 ∧ w.cell? p5 = x5 ∧ w.cell? p6 = x6 ∧ w.cell? p7 = x7 ∧ w.cell? p8 = x8 ∧ w.cell? p9 = x9) :
    w.drew.cell? p0 = x0 ∧ w.drew.cell? p1 = x1 ∧ w.drew.cell? p2 = x2 ∧ w.drew.cell? p3 = x3 ∧ w.drew.cell? p4 = x4 ∧ w.drew.cell? p5 = x5 ∧ w.drew.cell? p6 = x6 ∧ w.drew.cell? p7 = x7 ∧ w.drew.cell? p8 = x8 ∧ w.drew.cell? p9 = x9 := h
theorem cell_later {w w' : World} {p : Addr} {x : Value} (h : w.cell? p = some x) (hb : Below w.heap.size w w') : w'.cell? p = some x := (hb.cell (World.block_lt_of_cell? w _ h)).trans h
theorem s10_later {w w' : World} {p0 p1 p2 p3 p4 p5 p6 p7 p8 p9 : Addr} {x0 x1 x2 x3 x4 x5 x6 x7 x8 x9 : Value} (h : w.cell? p0 = some x0 ∧ w.cell? p1 = some x1 ∧ w.cell? p2 = some x2 ∧ w.cell? p3 = some x3 ∧ w.cell? p4 = some x4 ∧ w.cell? p5 = some x5 ∧ w.cell? p6 = some x6 ∧ w.cell? p7 = some x7 ∧ w.cell? p8 = some x8 ∧ w.cell? p9 = some x9) (hb : Below w.heap.size w w') :
    w'.cell? p0 = some x0 ∧ w'.cell? p1 = some x1 ∧ w'.cell? p2 = some x2 ∧ w'.cell? p3 = some x3 ∧ w'.cell? p4 = some x4 ∧ w'.cell? p5 = some x5 ∧ w'.cell? p6 = some x6 ∧ w'.cell? p7 = some x7 ∧ w'.cell? p8 = some x8 ∧ w'.cell? p9 = some x9 :=
  ⟨cell_later h.1 hb, cell_later h.2.1 hb, cell_later h.2.2.1 hb, cell_later h.2.2.2.1 hb, cell_later h.2.2.2.2.1 hb, cell_later h.2.2.2.2.2.1 hb, cell_later h.2.2.2.2.2.2.1 hb, cell_later h.2.2.2.2.2.2.2.1 hb, cell_later h.2.2.2.2.2.2.2.2.1 hb, cell_later h.2.2.2.2.2.2.2.2.2 hb⟩
/-- Where the loop stands: the two boxes, and that the first k arguments are the same. -/
structure SmAt (w wr : World) (x y : TV) (l m : List Tm) (k : Nat) : Prop where
  below : Below w.heap.size w wr
  b0 : wr.cell? ⟨w.heap.size, 3, none⟩ = some (.slice x.A x.len x.cap)
  b1 : wr.cell? ⟨w.heap.size + 1, 3, none⟩ = some (.slice y.A y.len y.cap)
  same : ∀ i, i < k → l[i]? = m[i]?

set_option maxHeartbeats 8000000 in
theorem same_any : ∀ (n : Nat) (t u : Tm) (x y : TV) (w : World), t.size ≤ n → t.size ≤ 10000000 → u.size ≤ 10000000 → TermAt w w.heap.size x t → TermAt w w.heap.size y u →
    Calls Tryd.prog 12 #[tvV x, tvV y] w fun e w' => e = .returned (.bool (sameTm t u)) ∧ Below w.heap.size w w' := by
  intro n
  induction n with
  | zero => intro t u x y w h; have := size_pos t; omega
  | succ n ih =>
    intro t u x y w hn hst hsu hx hy
    obtain ⟨k1, k2, k3, k4, k5, k6⟩ := hx.open
    obtain ⟨j1, j2, j3, j4, j5, j6⟩ := hy.open
    have hta : t.args.length + 1 ≤ t.size := args_size t
    have hua : u.args.length + 1 ≤ u.size := args_size u
    have hxl : (x.len : Int) ≤ 10000000 := by omega
    have hyl : (y.len : Int) ≤ 10000000 := by omega
    obtain ⟨q, hq⟩ : ∃ q, q = sameTm t u := ⟨_, rfl⟩
    rw [← hq]
    have HQ := Lib.hid hq
    clear hq
    by_cases e1 : x.k = y.k
    case neg =>
      have hne : q = false := HQ.out.trans (sameTm_false fun e => e1 (by rw [← k1, ← j1, e]))
      have b1 : (x.k != y.k) = true := bne_iff_ne.2 e1
      clear HQ k6 j6
      unfold tvV
      go_enter Tryd.func12, Tryd.ntmps12
      go_wp2_with fail
      go_ret
      exact ⟨by rw [hne]; rfl, ((Below.refl _ _).alloc (Nat.le_refl _) _).alloc (by simp) _⟩
    have b1 : (x.k != y.k) = false := by rw [e1]; simp
    by_cases e2 : x.n = y.n
    case neg =>
      have hne : q = false := HQ.out.trans (sameTm_false fun e => e2 (by rw [← k2, ← j2, e]))
      have b2 : (x.n != y.n) = true := bne_iff_ne.2 e2
      clear e1
      clear HQ k6 j6
      unfold tvV
      go_enter Tryd.func12, Tryd.ntmps12
      go_wp2_with fail
      go_ret
      exact ⟨by rw [hne]; rfl, ((Below.refl _ _).alloc (Nat.le_refl _) _).alloc (by simp) _⟩
    have b2 : (x.n != y.n) = false := by rw [e2]; simp
    by_cases e3 : x.s = y.s
    case neg =>
      have hne : q = false := HQ.out.trans (sameTm_false fun e => e3 (by rw [← k3, ← j3, e]))
      have b3 : (x.s != y.s) = true := bne_iff_ne.2 e3
      have b3' : (x.s == y.s) = false := beq_eq_false_iff_ne.2 e3
      clear e1 e2
      clear HQ k6 j6
      unfold tvV
      go_enter Tryd.func12, Tryd.ntmps12
      go_wp2_with fail
      go_ret
      exact ⟨by rw [hne]; rfl, ((Below.refl _ _).alloc (Nat.le_refl _) _).alloc (by simp) _⟩
    have b3 : (x.s != y.s) = false := by rw [e3]; simp
    have b3' : (x.s == y.s) = true := by rw [e3]; simp
    by_cases e4 : x.len = y.len
    case neg =>
      have hne : q = false := HQ.out.trans (sameTm_false fun e => e4 (by rw [← k4, ← j4, e]))
      have b4 : (x.len != y.len) = true := bne_iff_ne.2 e4
      have b4' : ((x.len : Int) != (y.len : Int)) = true := bne_iff_ne.2 (by omega)
      clear e1 e2 e3
      clear HQ k6 j6
      unfold tvV
      go_enter Tryd.func12, Tryd.ntmps12
      go_wp2_with fail
      go_ret
      exact ⟨by rw [hne]; rfl, ((Below.refl _ _).alloc (Nat.le_refl _) _).alloc (by simp) _⟩
    obtain ⟨xk, xn, xs, xA, xl, xc⟩ := x
    obtain ⟨yk, yn, ys, yA, yl, yc⟩ := y
    simp only at *
    subst e1 e2 e3 e4
    clear b1 b2 b3 b3'
    have HK := Lib.hid k6
    have HJ := Lib.hid j6
    have hT : ∀ v : Tm, v = .mk v.k v.n v.s v.args := fun v => by cases v; rfl
    have HEQ : Hid (t = u ↔ t.args = u.args) := Lib.hid ⟨fun e => by rw [e], fun e => by rw [hT t, hT u, e, k1, k2, k3, j1, j2, j3]⟩
    have HST := Lib.hid (And.intro hn (And.intro hst hsu))
    have hlt : t.args.length = u.args.length := k4.trans j4.symm
    have h0 : SmAt w ((w.alloc (.cells #[.int .i64 xk, .int .i64 xn, .string ⟨xs.toArray⟩, .slice xA xl xc] 25)).alloc (.cells #[.int .i64 xk, .int .i64 xn, .string ⟨xs.toArray⟩, .slice yA xl yc] 25)) ⟨xk, xn, xs, xA, xl, xc⟩ ⟨xk, xn, xs, yA, xl, yc⟩ t.args u.args 0 := by
      refine ⟨((Below.refl _ _).alloc (Nat.le_refl _) _).alloc (by simp) _, ?_, ?_, fun i hi => absurd hi (Nat.not_lt_zero _)⟩
      · exact cell_later (cell_made w _ _ 3 _ rfl) ((Below.refl _ _).alloc (Nat.le_refl _) _)
      · have := cell_made (w.alloc (.cells #[.int .i64 xk, .int .i64 xn, .string ⟨xs.toArray⟩, .slice xA xl xc] 25)) #[.int .i64 xk, .int .i64 xn, .string ⟨xs.toArray⟩, .slice yA xl yc] 25 3 (.slice yA xl yc) rfl
        rw [World.size_alloc] at this
        exact this
    have H0 := Lib.hid h0
    have HX := Lib.hid hx
    have HY := Lib.hid hy
    have HIH := Lib.hid ih
    clear k6 j6 h0 hx hy ih hn hst hsu k1 k2 k3 j1 j2 j3
    unfold tvV
    go_enter Tryd.func12, Tryd.ntmps12
    go_wp2_with fail
    go_loopw [37] (fun i wr => ∃ k : Nat, k ≤ xl ∧ i = .int .i64 (k : Nat) ∧ Hid (SmAt w wr ⟨xk, xn, xs, xA, xl, xc⟩ ⟨xk, xn, xs, yA, xl, yc⟩ t.args u.args k)) (fun i _ => xl - (intOf i).toNat)
    case atStart => exact ⟨0, Nat.zero_le _, rfl, H0⟩
    case round =>
      obtain ⟨k, hk, rfl, HR⟩ := hrel
      by_cases hkl : k < xl
      · have hi1 : k < t.args.length := by omega
        have hi2 : k < u.args.length := by omega
        obtain ⟨xe, b, off, a1, a2, a3, a4⟩ := HK.out k _ (List.getElem?_eq_getElem hi1)
        obtain ⟨ye, b', off', c1, c2, c3, c4⟩ := HJ.out k _ (List.getElem?_eq_getElem hi2)
        have hz1 := List.getElem?_eq_getElem hi1
        have hz2 := List.getElem?_eq_getElem hi2
        have hsz1 : t.args[k].size ≤ n ∧ t.args[k].size ≤ 10000000 := by
          have h1 := mem_sizes t.args _ (List.getElem_mem hi1)
          have h2 := size_args t
          have := HST.out.1
          have := HST.out.2.1
          omega
        have hsz2 : u.args[k].size ≤ 10000000 := by
          have h1 := mem_sizes u.args _ (List.getElem_mem hi2)
          have h2 := size_args u
          have := HST.out.2.2
          omega
        generalize t.args[k] = tk at *
        generalize u.args[k] = uk at *
        subst a1 c1
        have hbw := HR.out.below
        have hsx : ∀ j v, (encTV xe)[j]? = some v → wr.cell? ⟨b, off + k * 4 + j, none⟩ = some v := fun j v hv => (hbw.cell (p := ⟨b, off + k * 4 + j, none⟩) a2).trans (a4 j v hv)
        have hsy : ∀ j v, (encTV ye)[j]? = some v → wr.cell? ⟨b', off' + k * 4 + j, none⟩ = some v := fun j v hv => (hbw.cell (p := ⟨b', off' + k * 4 + j, none⟩) c2).trans (c4 j v hv)
        have HS := Lib.hid (And.intro HR.out.b0 (And.intro HR.out.b1 (And.intro (hsx 0 _ rfl) (And.intro (hsx 1 _ rfl) (And.intro (hsx 2 _ rfl) (And.intro (hsx 3 _ rfl) (And.intro (hsy 0 _ rfl) (And.intro (hsy 1 _ rfl) (And.intro (hsy 2 _ rfl) (hsy 3 _ rfl))))))))))
        simp only [Nat.add_zero] at HS
        have hkI : (k : Int) < (xl : Int) := by omega
        have hk0 : (0 : Int) ≤ (k : Int) := by omega
        have hwk : IntKind.i64.wrap ((k : Int) + 1) = (k : Int) + 1 := IntWalk.i64_in _ (by omega)
        have HCALL : Hid (∀ W, Below wr.heap.size wr W → Calls Tryd.prog 12 #[.agg #[.int .i64 xe.k, .int .i64 xe.n, .string ⟨xe.s.toArray⟩, .slice xe.A xe.len xe.cap], .agg #[.int .i64 ye.k, .int .i64 ye.n, .string ⟨ye.s.toArray⟩, .slice ye.A ye.len ye.cap]] W fun e w' => e = .returned (.bool (sameTm tk uk)) ∧ Below W.heap.size W w') := Lib.hid fun W hW => by
          have h1 := hbw.trans (hW.mono hbw.size)
          exact HIH.out tk uk xe ye W hsz1.1 hsz1.2 hsz2 ((a3.keep (Nat.le_refl _) h1.block).up h1.size) ((c3.keep (Nat.le_refl _) h1.block).up h1.size)
        obtain ⟨z, hz⟩ : ∃ z, z = sameTm tk uk := ⟨_, rfl⟩
        rw [← hz] at HCALL
        have HZ := Lib.hid hz
        have HZZ := Lib.hid (And.intro hz1 hz2)
        clear a2 a3 a4 c2 c3 c4 hsx hsy hz hz1 hz2 hsz1 hsz2 hbw
        go_upto_region 6 with fail
        go_region_held3 (fun v => v.cell? ⟨w.heap.size, 3, none⟩ = some (.slice (some ⟨b, off, none⟩) xl xc) ∧ v.cell? ⟨w.heap.size + 1, 3, none⟩ = some (.slice (some ⟨b', off', none⟩) xl yc) ∧ v.cell? ⟨b, off + k * 4, none⟩ = some (.int .i64 xe.k) ∧ v.cell? ⟨b, off + k * 4 + 1, none⟩ = some (.int .i64 xe.n) ∧ v.cell? ⟨b, off + k * 4 + 2, none⟩ = some (.string ⟨xe.s.toArray⟩) ∧ v.cell? ⟨b, off + k * 4 + 3, none⟩ = some (.slice xe.A xe.len xe.cap) ∧
            v.cell? ⟨b', off' + k * 4, none⟩ = some (.int .i64 ye.k) ∧ v.cell? ⟨b', off' + k * 4 + 1, none⟩ = some (.int .i64 ye.n) ∧ v.cell? ⟨b', off' + k * 4 + 2, none⟩ = some (.string ⟨ye.s.toArray⟩) ∧ v.cell? ⟨b', off' + k * 4 + 3, none⟩ = some (.slice ye.A ye.len ye.cap))
          (first | (with_reducible exact HS.out) | (with_reducible exact s10_drew HS.out) | (with_reducible exact s10_later (s10_drew HS.out) hb2) | (with_reducible exact s10_drew (s10_later (s10_drew HS.out) hb2)))
          (first | (go_at_call 12; refine (HCALL.out _ (Below.refl _ _).drew).mono ?_; rintro e w2 ⟨rfl, hb2⟩))
        have hb3 := below_call' (Below.refl wr.heap.size wr).drew hb2
        have HB3 := Lib.hid hb3
        clear hb2 hb3
        cases z with
        | false =>
          have hne : q = false := HQ.out.trans (sameTm_false fun e => by
            have h1 := HEQ.out.1 e
            have h2 := HZZ.out
            rw [h1, h2.2] at h2
            have h3 : uk = tk := by simpa using h2.1
            have h4 := HZ.out
            rw [h3, sameTm_self] at h4
            cases h4)
          clear HQ
          go_wp2_with fail
          go_ret
          exact ⟨by rw [hne]; rfl, HR.out.below.trans (HB3.out.mono HR.out.below.size)⟩
        | true =>
          have hN : SmAt w w2 ⟨xk, xn, xs, some ⟨b, off, none⟩, xl, xc⟩ ⟨xk, xn, xs, some ⟨b', off', none⟩, xl, yc⟩ t.args u.args (k + 1) :=
            ⟨HR.out.below.trans (HB3.out.mono HR.out.below.size), cell_later HR.out.b0 HB3.out, cell_later HR.out.b1 HB3.out, fun i hi => by
              rcases Nat.lt_succ_iff_lt_or_eq.1 hi with h | h
              · exact HR.out.same i h
              · subst h
                rw [HZZ.out.1, HZZ.out.2, (sameTm_iff _ _).1 HZ.out.symm]⟩
          have HN := Lib.hid hN
          clear hN
          go_wp2_with fail
          go_roundw
          case rel => exact ⟨k + 1, by omega, rfl, HN⟩
          case measure =>
            simp only [intOf]
            omega
      · have hqe : q = true := HQ.out.trans ((sameTm_iff _ _).2 (HEQ.out.2 (List.ext_getElem? fun i => by
          by_cases hi : i < k
          · exact HR.out.same i hi
          · rw [List.getElem?_eq_none (by omega), List.getElem?_eq_none (by omega)])))
        clear HQ
        go_wp2_with fail
        go_ret
        exact ⟨by rw [hqe]; rfl, HR.out.below⟩
end Go.Proofs.YtmgidfndifhcoaaDoor
