import Derived.Test.YtmgidfndifhcoaaDoorJReadBehind00
import Derived.Test.YtmgidfndifhcoaaDoorJReadBrackets32
import Derived.Test.YtmgidfndifhcoaaDoorJReadBrackets31
import Derived.Deep.RegionHeld3
import Derived.Test.YtmgidfndifhcoaaDoorJReadBrackets01
import Derived.Test.YtmgidfndifhcoaaDoorJReadBrackets28
import Derived.Test.YtmgidfndifhcoaaDoorJReadBrackets35
import Derived.Test.YtmgidfndifhcoaaDoorCards
import Derived.Test.YtmgidfndifhcoaaDoorTie
import Derived.HandedShaped
import Derived.Shelf.Vars
import Derived.Deep.DeepWitnessRowRef
import Derived.LaidMore
import Derived.Stop.LaidErr
import Derived.Lib.LaidTab
import Derived.MakeChecks
import Derived.Lay
/-
  How many names a clause that is read may have. Plain laws; no condition.
-/
namespace Go.Proofs.YtmgidfndifhcoaaDoor

section
variable {o : OpsF} {ts : List Tok} {s s' : RdS}
theorem var_names (s : RdS) (x : List UInt8) : (varF s x).names.length ≤ s.names.length + 1 := by
  unfold varF
  split
  · exact Nat.le_succ _
  · dsimp only
    split
    · exact Nat.le_succ _
    · show (s.names ++ _).length ≤ _
      rw [List.length_append]
      exact Nat.le_refl _
theorem primary_names (h : primaryF o ts s = .ok s') : s'.names.length ≤ s.names.length + 1 := by
  unfold primaryF at h
  dsimp only at h
  split at h
  · split at h
    · cases h
    · injection h with h
      subst h
      exact Nat.le_succ _
  · split at h
    · injection h with h
      subst h
      exact var_names (s.go 1) _
    · split at h
      · injection h with h
        subst h
        exact Nat.le_succ _
      · split at h
        · rw [(punct_keeps h).names]
          exact Nat.le_succ _
        · split at h
          · rw [(atom_keeps h).names]
            exact Nat.le_succ _
          · cases h
theorem operator_names (h : operatorF o ts s = some s') : s'.names = s.names := by
  unfold operatorF at h
  dsimp only at h
  split at h
  · cases h
  · split at h
    · injection h with h
      subst h
      rfl
    · split at h
      · injection h with h
        subst h
        rfl
      · cases h
theorem expect_names {c : UInt8} {f : RdS → RdS} (h : (s.expect ts c).map f = .ok s') (hf : ∀ x : RdS, (f x).names = x.names) : s'.names = s.names := by
  obtain ⟨rfl, _⟩ := expect_map h
  exact hf _
theorem backG_names {f : WaitF} (h : backG ts s f = .ok s') : s'.names = s.names := by
  unfold backG at h
  dsimp only at h
  split at h
  · exact expect_names h fun _ => rfl
  · split at h
    · exact expect_names h fun _ => rfl
    · split at h
      · injection h with h
        subst h
        rfl
      · split at h
        · injection h with h
          subst h
          rfl
        · split at h
          · split at h
            · injection h with h
              subst h
              rfl
            · exact expect_names h fun _ => rfl
          · split at h
            · split at h
              · injection h with h
                subst h
                rfl
              · split at h
                · injection h with h
                  subst h
                  rfl
                · exact expect_names h fun _ => rfl
            · split at h
              · exact expect_names h fun _ => rfl
              · injection h with h
                subst h
                rfl
theorem round_names (h : roundF o ts s = .on s') : s'.names.length ≤ s.names.length + 1 := by
  unfold roundF at h
  split at h
  · exact primary_names (toO_on h)
  · split at h
    · rename_i x hx
      injection h with h
      subst h
      rw [operator_names hx]
      exact Nat.le_succ _
    · split at h
      · rename_i f r hw
        have := backG_names (toO_on h)
        rw [this]
        exact Nat.le_succ _
      · split at h
        · cases h
        · cases h
end
theorem end_names (o : OpsF) (ts : List Tok) : ∀ (n : Nat) (s sf : RdS), leftF ts s ≤ n → endF o ts s = .fin sf → sf.names.length ≤ s.names.length + n
  | n, s, sf, hn, he => by
    rw [end_step] at he
    cases hr : roundF o ts s with
    | on s1 =>
      rw [hr] at he
      have hl := round_less hr
      have h1 := round_names hr
      match n, hn with
      | 0, hn => omega
      | n + 1, hn =>
        have := end_names o ts n s1 sf (by omega) he
        omega
    | fin s1 =>
      rw [hr] at he
      injection he with he
      subst he
      obtain ⟨rfl, _, _, _, _⟩ := round_fin hr
      omega
    | bad a => rw [hr] at he; cases he
theorem read_names {o : OpsF} {ts : List Tok} {i : Nat} {c : ClauseF} (hr : readF o ts (i : Int) = (c, 0)) : c.names.length ≤ 3 * ts.length + 1 := by
  obtain ⟨_, _, sf, he, _, _, _, rfl⟩ := read_ok hr
  have := end_names o ts _ _ _ (Nat.le_refl _) he
  have h2 : leftF ts (startF i) ≤ 3 * ts.length + 1 := by
    show 3 * (ts.length - i) + 0 + 1 ≤ _
    omega
  have h3 : (startF i).names.length = 0 := rfl
  show sf.names.length ≤ _
  omega
end Go.Proofs.YtmgidfndifhcoaaDoor
/-
  The law of ReadBehind answers true. Conditions: the tables are laid; the argument's numbers are such.
-/
namespace Go.Proofs.YtmgidfndifhcoaaDoor
open Go.RowKit Go.Maps
set_option maxRecDepth 100000

theorem cat_b (a b : List UInt8) : (⟨a.toArray⟩ ++ ⟨b.toArray⟩ : ByteArray) = ⟨(a ++ b).toArray⟩ := by
  apply ByteArray.ext
  simp
theorem opsOf_other (es : List (OpK × OpV)) (p t : Int) (n m : List UInt8) (h : m ≠ n) : (opsOf (opTab es p t n)).pre m = (opsOf es).pre m ∧ (opsOf (opTab es p t n)).inf m = (opsOf es).inf m ∧ (opsOf (opTab es p t n)).post m = (opsOf es).post m := by
  have hk : ∀ s : Int, mget (opTab es p t n) (s, m) = mget es (s, m) := by
    intro s
    have hne : (s, m) ≠ (kSort t, n) := fun e => h (congrArg Prod.snd e)
    unfold opTab
    split
    · rfl
    · split
      · exact mget_mdel_other _ _ _ hne
      · exact mget_mput_other _ _ _ _ hne
  have ht : ∀ s : Int, tsides (opTab es p t n) s m = tsides es s m := fun s => by unfold tsides; rw [hk s]
  unfold opsOf
  simp only [ht]
  exact ⟨trivial, trivial, trivial⟩
/-- A clause that Read answers, in a block of its own. -/
theorem out_clause {u u' : World} {c : ClauseF × Int} {e : Ending} (ho : ReadOut u u' c e) :
    ∃ x An m, e = .returned (.tuple #[clV x (.slice An c.1.names.length m) c.1.line c.1.next, .int .i64 c.2]) ∧
      ∀ U, U = u'.alloc (.cells #[.int .i64 x.k, .int .i64 x.n, .string ⟨x.s.toArray⟩, .slice x.A x.len x.cap, .slice An c.1.names.length m, .int .i64 c.1.line, .int .i64 c.1.next] 28) →
      Below u.heap.size u U ∧ TermAt U U.heap.size x c.1.t ∧ NmAt U U.heap.size An c.1.names.length c.1.names ∧ u'.heap.size < U.heap.size ∧ u.heap.size ≤ u'.heap.size ∧
      U.heap[u'.heap.size]? = some (.cells #[.int .i64 x.k, .int .i64 x.n, .string ⟨x.s.toArray⟩, .slice x.A x.len x.cap, .slice An c.1.names.length m, .int .i64 c.1.line, .int .i64 c.1.next] 28 (0, 0)) := by
  obtain ⟨hb, x, nv, B, rfl, hx, hn⟩ := ho
  obtain ⟨An, m, rfl⟩ := hn.shape
  refine ⟨x, An, m, rfl, fun U hU => ?_⟩
  subst hU
  have hb' := hb.trans ((Below.refl _ _).alloc hb.size (.cells #[.int .i64 x.k, .int .i64 x.n, .string ⟨x.s.toArray⟩, .slice x.A x.len x.cap, .slice An c.1.names.length m, .int .i64 c.1.line, .int .i64 c.1.next] 28))
  refine ⟨hb', ?_, (NmAt.of hn).later ((Below.refl _ _).alloc (Nat.le_refl _) _), by rw [World.size_alloc]; omega, hb.size, heap_alloc_new _ _⟩
  exact ((hx.at fun b hb => hb.lt) : TermAt u' u'.heap.size x c.1.t).later ((Below.refl _ _).alloc (Nat.le_refl _) _)
theorem tokOk_lex2 {T : List UInt8} (h : T.length ≤ 1700) : TokOk (lexB T).1 := by
  obtain ⟨h1, h2⟩ := lexB_ok T
  have h3 := volA_le 1700 (lexB T).1 fun t ht => Nat.le_trans (h1 t ht).short h
  refine ⟨by omega, fun t ht => by have := (h1 t ht).short; omega, fun t ht => ⟨(h1 t ht).n, ?_⟩, ?_⟩
  · have := (h1 t ht).k0
    have := (h1 t ht).k7
    unfold okI
    omega
  · rw [vol_len]
    have h4 : (lexB T).1.length ≤ 1701 := by omega
    have h5 := Nat.mul_le_mul_right (2 + 2 * 1700) h4
    omega
theorem letter_str (n : Nat) (w : World) : (convert 21 9 (.int .i32 (97 + (n : Int) % 26))).run Tryd.prog w = .ok (.string ⟨#[UInt8.ofNat (97 + n % 26)]⟩) w := by
  have hs : Tryd.prog.underlying 21 = some (.int .i32) := Tryd.underlying21
  have hd : Tryd.prog.underlying 9 = some .string := Tryd.underlying9
  have he : Utf8.encode (97 + (n : Int) % 26) = ⟨#[UInt8.ofNat (97 + n % 26)]⟩ := by
    have e : (97 + (n : Int) % 26) = ((97 + n % 26 : Nat) : Int) := by omega
    have hv : Utf8.valid ((97 + n % 26 : Nat) : Int) = true := by unfold Utf8.valid; simp; omega
    rw [e]
    unfold Utf8.encode
    simp only [hv, if_true, Int.toNat_natCast]
    rw [if_pos (by omega)]
  have hc : (convert 21 9 (.int .i32 (97 + (n : Int) % 26))).run Tryd.prog w = .ok (.string (Utf8.encode (97 + (n : Int) % 26))) w := by
    simp [convert, run_underlying hs, run_underlying hd, Conv.intToString]
  rw [hc, he]
/-- What may be said of a clause that was read of few tokens. -/
theorem read_bounds {o : OpsF} {ts : List Tok} {c : ClauseF} (hr : readF o ts ((0 : Nat) : Int) = (c, 0)) : c.t.size ≤ 20000 := by
  obtain ⟨_, _, sf, _, _, _, h3, rfl⟩ := read_ok hr
  exact h3
set_option maxHeartbeats 8000000 in
theorem behind_any (w : World) (hE : RdEnv w) (a b : List UInt8) (nm ty pr : Nat) (hnm : nm < 256) (hty : ty < 256) (hpr : pr < 65536) :
    Calls Tryd.prog 4 #[.agg #[.string ⟨a.toArray⟩, .string ⟨b.toArray⟩, .int .u8 (nm : Int), .int .u8 (ty : Int), .int .u16 (pr : Int)]] w fun e w' => e = .returned (.bool true) ∧ Below w.heap.size w w' := by
  have HE := Lib.hid hE
  clear hE
  go_enter Tryd.func4, Tryd.ntmps4
  go_wp2_with fail
  have hb0 := (Below.refl w.heap.size w).alloc (Nat.le_refl _) (.cells #[.string ⟨a.toArray⟩, .string ⟨b.toArray⟩, .int .u8 (nm : Int), .int .u8 (ty : Int), .int .u16 (pr : Int)] 42)
  have hc0 := heap_alloc_new w (.cells #[.string ⟨a.toArray⟩, .string ⟨b.toArray⟩, .int .u8 (nm : Int), .int .u8 (ty : Int), .int .u16 (pr : Int)] 42)
  have hs0 : w.heap.size < (w.alloc (.cells #[.string ⟨a.toArray⟩, .string ⟨b.toArray⟩, .int .u8 (nm : Int), .int .u8 (ty : Int), .int .u16 (pr : Int)] 42)).heap.size := by simp
  generalize w.alloc (.cells #[.string ⟨a.toArray⟩, .string ⟨b.toArray⟩, .int .u8 (nm : Int), .int .u8 (ty : Int), .int .u16 (pr : Int)] 42) = w0 at hb0 hc0 hs0 ⊢
  refine (alive_any w0 (HE.out.later hb0)).mono ?_
  rintro e w1 ⟨rfl, hb1⟩
  have hc1 := (hb1.block w.heap.size hs0).trans hc0
  have HB1 := Lib.hid (hb0.trans (hb1.mono hb0.size))
  have HE1 : Hid (RdEnv w1) := Lib.hid (HE.out.later HB1.out)
  have q0 : w1.cell? ⟨w.heap.size, 0, none⟩ = some (.string ⟨a.toArray⟩) := by rw [cell_of_row w1 w.heap.size 0 _ _ (0, 0) hc1]; rfl
  have q1 : w1.cell? ⟨w.heap.size, 1, none⟩ = some (.string ⟨b.toArray⟩) := by rw [cell_of_row w1 w.heap.size 1 _ _ (0, 0) hc1]; rfl
  have q2 : w1.cell? ⟨w.heap.size, 2, none⟩ = some (.int .u8 (nm : Int)) := by rw [cell_of_row w1 w.heap.size 2 _ _ (0, 0) hc1]; rfl
  have q3 : w1.cell? ⟨w.heap.size, 3, none⟩ = some (.int .u8 (ty : Int)) := by rw [cell_of_row w1 w.heap.size 3 _ _ (0, 0) hc1]; rfl
  have q4 : w1.cell? ⟨w.heap.size, 4, none⟩ = some (.int .u16 (pr : Int)) := by rw [cell_of_row w1 w.heap.size 4 _ _ (0, 0) hc1]; rfl
  clear hb0 hc0 hs0 hb1 hc1 HE
  go_wp2_with fail
  go_quiet (fail)
  clear q0 q1 q2 q3 q4
  generalize hWd : w1.drewN nq = wd
  replace HB1 : Hid (Below w.heap.size w wd) := Lib.hid (by rw [← hWd]; exact below_drewN' HB1.out nq)
  replace HE1 : Hid (RdEnv wd) := Lib.hid (by rw [← hWd]; exact HE1.out.later (below_drewN' (Below.refl _ _) nq))
  clear hWd
  clear w1
  by_cases hla : 800 < a.length
  · have hla' : (800 : Int) < (a.length : Int) := by omega
    go_wp2_with fail
    go_ret
    exact ⟨rfl, HB1.out⟩
  have hla' : ¬ (800 : Int) < (a.length : Int) := by omega
  by_cases hlb : 800 < b.length
  · have hlb' : (800 : Int) < (b.length : Int) := by omega
    go_wp2_with fail
    go_ret
    exact ⟨rfl, HB1.out⟩
  have hlb' : ¬ (800 : Int) < (b.length : Int) := by omega
  go_wp2_with fail
  rw [show (⟨a.toArray⟩ ++ ⟨#[32, 46, 10]⟩ : ByteArray) = ⟨(a ++ [32, 46, 10]).toArray⟩ from cat_b a [32, 46, 10]]
  have hlu : (a ++ [32, 46, 10]).length ≤ 810 := by simp only [List.length_append, List.length_cons, List.length_nil]; omega
  have hlm : (a ++ [32, 46, 10] ++ b).length ≤ 1610 := by rw [List.length_append]; omega
  have HU : Hid (Ends (a ++ [32, 46, 10])) := Lib.hid (Ends.app rfl)
  have HTK := Lib.hid (tokOk_lex (T := a ++ [32, 46, 10]) (by omega))
  refine (lex_any wd (a ++ [32, 46, 10]) (by omega) HE1.out.max).mono ?_
  rintro e w2 ⟨v2, rfl, hr2, hb2⟩
  have HB2 := Lib.hid (HB1.out.trans (hb2.mono HB1.out.size))
  have HE2 : Hid (RdEnv w2) := Lib.hid (HE1.out.later hb2)
  have HR2 := Lib.hid hr2
  have HLX : Hid (∃ L, L = lexB (a ++ [32, 46, 10])) := Lib.hid ⟨_, rfl⟩
  obtain ⟨L, hL⟩ := HLX.out
  have HL := Lib.hid hL.symm
  rw [← hL] at HTK HR2 ⊢
  clear hL HLX hr2 hb2 HB1 HE1
  obtain ⟨ts, ln, er⟩ := L
  dsimp only at HTK HR2 ⊢
  by_cases he : er ≠ 0
  · have h' : (er == 0) = false := beq_eq_false_iff_ne.2 he
    have h'' : (er != 0) = true := by simpa using he
    go_wp2_with fail
    go_ret
    exact ⟨rfl, HB2.out⟩
  obtain rfl := Classical.not_not.1 he
  clear he
  obtain ⟨An, cn, rfl⟩ := HR2.out.shape
  go_wp2_with fail
  refine (new_any w2 HE2.out.kinds HE2.out.tab).mono ?_
  rintro e w3 ⟨bt, bm, rfl, hT3, hbt, hbm, hne, hb3⟩
  have HR3 := Lib.hid (HR2.out.later hb3)
  have HE3 : Hid (RdEnv w3) := Lib.hid (HE2.out.later hb3)
  have HB3 := Lib.hid (HB2.out.trans (hb3.mono HB2.out.size))
  have HRE := Lib.hid (read_any w3 An ts.length cn ts (toks_row HR3.out) HTK.out 0 bt bm opsInit hT3 HE3.out.kinds)
  clear hT3 hbt hbm hne hb3 HR2 HE2 HB2
  go_wp2_with fail
  refine HRE.out.mono ?_
  rintro e v0 ho
  clear HRE
  obtain ⟨F, hF⟩ : ∃ F, F = readF (opsOf opsInit) ts 0 := ⟨_, rfl⟩
  have HF := Lib.hid hF.symm
  rw [← hF] at ho
  clear hF
  obtain ⟨⟨ft, fn, fl, fx⟩, fe⟩ := F
  obtain ⟨x0, N0, m0, rfl, hU⟩ := out_clause ho
  dsimp only at hU ⊢
  unfold clV
  go_upto_region 10 with fail
  obtain ⟨U0, hU0⟩ : ∃ U, U = v0.alloc (.cells #[.int .i64 x0.k, .int .i64 x0.n, .string ⟨x0.s.toArray⟩, .slice x0.A x0.len x0.cap, .slice N0 fn.length m0, .int .i64 fl, .int .i64 fx] 28) := ⟨_, rfl⟩
  rw [← hU0]
  obtain ⟨hb, ht, hn, hl, hg, hc⟩ := hU U0 hU0
  clear hU0 hU ho
  generalize v0.heap.size = g0 at hl hc hg ⊢
  have HR4 := Lib.hid (HR3.out.later hb)
  have HE4 : Hid (RdEnv U0) := Lib.hid (HE3.out.later hb)
  have HB4 := Lib.hid (HB3.out.trans (hb.mono HB3.out.size))
  have HT0 := Lib.hid ht
  have HN0 := Lib.hid hn
  have HC0 := Lib.hid hc
  have HL0 := Lib.hid hl
  have y6 : U0.cell? ⟨g0, 6, none⟩ = some (.int .i64 fx) := by rw [cell_of_row U0 g0 6 _ _ (0, 0) hc]; rfl
  clear hb ht hn hl hg hc HR3 HE3 HB3
  by_cases hfe : fe ≠ 0
  · have h' : (fe == 0) = false := beq_eq_false_iff_ne.2 hfe
    have h'' : (fe != 0) = true := by simpa using hfe
    go_wp2_with fail
    go_ret
    exact ⟨rfl, HB4.out⟩
  obtain rfl := Classical.not_not.1 hfe
  clear hfe
  have hln := HTK.out.few
  have hw : wrap64 ((ts.length : Int) - 1) = (ts.length : Int) - 1 := by unfold wrap64; omega
  by_cases hx6 : fx ≠ (ts.length : Int) - 1
  · have h' : (fx == (ts.length : Int) - 1) = false := beq_eq_false_iff_ne.2 hx6
    have h'' : (fx != (ts.length : Int) - 1) = true := by simpa using hx6
    go_wp2_with fail
    go_ret
    exact ⟨rfl, HB4.out⟩
  have hx7 : (fx != (ts.length : Int) - 1) = false := by simpa using hx6
  have hx8 := Classical.not_not.1 hx6
  have HBH := Lib.hid (behind_same (b := b) HU.out HL.out HF.out hx8)
  have HSZ := Lib.hid (read_bounds HF.out)
  have HNF : Hid (fn.length ≤ 100000) := Lib.hid (by have h1 := read_names (i := 0) HF.out; have h2 := HTK.out.few; dsimp only at h1; omega)
  clear hx6
  go_wp2_with fail
  clear hx7 hw hln hx8 y6
  rw [show (⟨a.toArray⟩ ++ ⟨#[32, 46, 10]⟩ ++ ⟨b.toArray⟩ : ByteArray) = ⟨(a ++ [32, 46, 10] ++ b).toArray⟩ from (congrArg (· ++ (⟨b.toArray⟩ : ByteArray)) (cat_b a [32, 46, 10])).trans (cat_b (a ++ [32, 46, 10]) b)]
  have HTM := Lib.hid (tokOk_lex2 (T := a ++ [32, 46, 10] ++ b) (by omega))
  refine (lex_any U0 (a ++ [32, 46, 10] ++ b) (by omega) HE4.out.max).mono ?_
  rintro e w5 ⟨v5, rfl, hr5, hb5⟩
  generalize lexB (a ++ [32, 46, 10] ++ b) = M at HTM hr5 HBH ⊢
  obtain ⟨tm, lm, em⟩ := M
  dsimp only at HTM hr5 HBH ⊢
  obtain ⟨Am, cm, rfl⟩ := hr5.shape
  have HR5 := Lib.hid (HR4.out.later hb5)
  have HM5 := Lib.hid hr5
  have HE5 : Hid (RdEnv w5) := Lib.hid (HE4.out.later hb5)
  have HB5 := Lib.hid (HB4.out.trans (hb5.mono HB4.out.size))
  have HT5 := Lib.hid (HT0.out.later hb5)
  have HN5 := Lib.hid (HN0.out.later hb5)
  have HC5 := Lib.hid ((hb5.block g0 HL0.out).trans HC0.out)
  have HL5 := Lib.hid (Nat.lt_of_lt_of_le HL0.out hb5.size)
  have y6 : w5.cell? ⟨g0, 6, none⟩ = some (.int .i64 fx) := by rw [cell_of_row w5 g0 6 _ _ (0, 0) HC5.out]; rfl
  have hlt : ¬ ((tm.length : Int) < fx) := by have := HBH.out.2; omega
  have HFM : Hid (readF (opsOf opsInit) tm 0 = (⟨ft, fn, fl, fx⟩, 0)) := Lib.hid HBH.out.1
  clear hr5 hb5 HR4 HE4 HB4 HT0 HN0 HC0 HL0 HBH
  go_wp2_with fail
  clear y6 hlt
  refine (new_any w5 HE5.out.kinds HE5.out.tab).mono ?_
  rintro e w6 ⟨bt2, bm2, rfl, hT6, hbt, hbm, hne, hb6⟩
  have HE6 : Hid (RdEnv w6) := Lib.hid (HE5.out.later hb6)
  have hbw6 := hb6
  have HRE := Lib.hid (read_any w6 Am tm.length cm tm (toks_row (HM5.out.later hb6)) HTM.out 0 bt2 bm2 opsInit hT6 HE6.out.kinds)
  clear hT6 hbt hbm hne
  go_wp2_with fail
  refine HRE.out.mono ?_
  rintro e v1 ho
  clear HRE
  rw [HFM.out] at ho
  obtain ⟨x1, N1, m1, rfl, hU⟩ := out_clause ho
  dsimp only at hU ⊢
  unfold clV
  go_upto_region 16 with fail
  obtain ⟨U1, hU1⟩ : ∃ U, U = v1.alloc (.cells #[.int .i64 x1.k, .int .i64 x1.n, .string ⟨x1.s.toArray⟩, .slice x1.A x1.len x1.cap, .slice N1 fn.length m1, .int .i64 fl, .int .i64 fx] 28) := ⟨_, rfl⟩
  rw [← hU1]
  obtain ⟨hb, ht, hn, hl, hg, hc⟩ := hU U1 hU1
  clear hU1 hU ho
  generalize v1.heap.size = g1 at hl hc hg ⊢
  have hb' := hbw6.trans (hb.mono hbw6.size)
  have HR7 := Lib.hid (HR5.out.later hb')
  have HE7 : Hid (RdEnv U1) := Lib.hid (HE6.out.later hb)
  have HB7 := Lib.hid (HB5.out.trans (hb'.mono HB5.out.size))
  have HT7 := Lib.hid (HT5.out.later hb')
  have HN7 := Lib.hid (HN5.out.later hb')
  have HC7 := Lib.hid ((hb'.block g0 HL5.out).trans HC5.out)
  have HL7 := Lib.hid (Nat.lt_of_lt_of_le HL5.out hb'.size)
  have HTy := Lib.hid ht
  have HNy := Lib.hid hn
  have HCy := Lib.hid hc
  have HLy := Lib.hid hl
  clear hb ht hn hl hg hc hb' hbw6 hb6 HR5 HE6 HE5 HB5 HT5 HN5 HC5 HL5 HM5 HFM HTM
  go_wp2_with fail
  refine (new_any U1 HE7.out.kinds HE7.out.tab).mono ?_
  rintro e w8 ⟨bt3, bm3, rfl, hT8, hbt, hbm, hne, hb8⟩
  have HTAB := Lib.hid hT8
  have HBT := Lib.hid (And.intro hbm hne)
  have HB8 := Lib.hid (HB7.out.trans (hb8.mono HB7.out.size))
  have HU8 := Lib.hid hb8
  have HW1 := Lib.hid HB7.out.size
  have HE8 : Hid (RdEnv w8) := Lib.hid (HE7.out.later hb8)
  have HR8 := Lib.hid (HR7.out.later hb8)
  clear hT8 hbt hbm hne hb8 HB7
  go_upto_region 17 with fail
  obtain ⟨ch, hcv⟩ : ∃ ch : UInt8, (convert 21 9 (.int .i32 (97 + (nm : Int) % 26))).run Tryd.prog w8 = .ok (.string ⟨#[ch]⟩) w8 := ⟨UInt8.ofNat (97 + nm % 26), letter_str nm w8⟩
  go_upto_region 18 with fail
  rw [show ((⟨#[111, 112]⟩ : ByteArray) ++ ⟨#[ch]⟩) = ⟨[111, 112, ch].toArray⟩ from cat_b [111, 112] [ch]]
  obtain ⟨s, hs⟩ : ∃ s : List UInt8, s = [111, 112, ch] := ⟨_, rfl⟩
  rw [← hs]
  have HS3 : Hid (s.length = 3) := Lib.hid (by rw [hs]; rfl)
  clear hs hcv
  have htn := HTK.out.few
  go_wp2_with fail
  go_loopw [98] (fun i wr => ∃ k : Nat, k ≤ ts.length ∧ i = .int .i64 k ∧ Hid (Below w8.heap.size w8 wr) ∧ Hid (∀ j t, j < k → ts[j]? = some t → t.s ≠ s)) (fun i _ => ts.length - (intOf i).toNat)
  case atStart => exact ⟨0, Nat.zero_le _, rfl, Lib.hid (Below.refl _ _), Lib.hid fun j t h => absurd h (Nat.not_lt_zero _)⟩
  case round =>
    obtain ⟨k, hk, rfl, HBr, HNo⟩ := hrel
    by_cases hlt : k < ts.length
    · have hx := List.getElem?_eq_getElem hlt
      generalize ts[k] = t at hx
      obtain ⟨g, cap, hv, _, hg, _, hcl⟩ := (HR8.out).cells encTok_len (by rintro rfl; simp at hlt)
      injection hv with hA _ _
      have hgr : ∀ j u, (encTok t)[j]? = some u → wr.cell? ⟨g, k * 6 + j, none⟩ = some u := fun j u hu => (HBr.out.cell (p := ⟨g, k * 6 + j, none⟩) hg).trans (hcl k t hx j u hu).1
      have c0 := hgr 0 _ rfl
      have c1 := hgr 1 _ rfl
      have c2 := hgr 2 _ rfl
      have c3 := hgr 3 _ rfl
      have c4 := hgr 4 _ rfl
      have c5 := hgr 5 _ rfl
      simp only [Nat.add_zero] at c0
      have HX := Lib.hid hx
      have hlt' : (k : Int) < (ts.length : Int) := by omega
      clear hgr hcl hx hg
      subst hA
      by_cases hts : t.s = s
      · subst hts
        go_wp2_with fail
        go_ret
        exact ⟨rfl, HB8.out.trans ((HBr.out.alloc HBr.out.size _).mono HB8.out.size)⟩
      · have hne := beq_str t.s s hts
        have HNE := Lib.hid hts
        clear hts
        go_wp2_with fail
        go_roundw
        case rel => exact ⟨k + 1, hlt, by go_num, Lib.hid (HBr.out.alloc HBr.out.size _), Lib.hid fun j u hj hu => by
          by_cases hjk : j = k
          · subst hjk
            have := HX.out.symm.trans hu
            injection this with this
            subst this
            exact HNE.out
          · exact HNo.out j u (by omega) hu⟩
        case measure => simp [intOf]; omega
    · have hkn : k = ts.length := by omega
      subst hkn
      have HALL : Hid (∀ t ∈ ts, t.s ≠ s) := Lib.hid fun t ht => by
        obtain ⟨j, hj⟩ := List.mem_iff_getElem?.1 ht
        exact HNo.out j t (List.getElem?_eq_some_iff.1 hj).1 hj
      clear HNo hk hlt
      have hbn := HBT.out.2
      have hnl : s.length ≤ 9223372036854775807 := by have := HS3.out; omega
      go_wp2_with fail
      refine (op_any wr bt3 bm3 opsInit (HTAB.out.later HBr.out) (HE8.out.later HBr.out).kinds hbn _ _ s hnl).mono ?_
      rintro e w9 ⟨rfl, hT9, hF9⟩
      have hFM : Hid (∀ p t, readF (opsOf (opTab opsInit p t s)) ts ((0 : Nat) : Int) = (⟨ft, fn, fl, fx⟩, 0)) := Lib.hid fun p t => strange_same HF.out fun u hu => opsOf_other opsInit p t s u.s (HALL.out u hu)
      have hbU := HU8.out.trans (HBr.out.mono HU8.out.size)
      have hb9 : Below U1.heap.size U1 w9 := hbU.trans (hF9.below hbU.size fun k hk e => by have := HBT.out.1; omega)
      obtain ⟨es9, hT9', hF9'⟩ : ∃ es9, TabAt w9 bt3 bm3 es9 ∧ readF (opsOf es9) ts ((0 : Nat) : Int) = (⟨ft, fn, fl, fx⟩, 0) := ⟨_, hT9, hFM.out _ _⟩
      have HF9 : Hid (readF (opsOf es9) ts 0 = (⟨ft, fn, fl, fx⟩, 0)) := Lib.hid hF9'
      have HE9 : Hid (RdEnv w9) := Lib.hid (HE7.out.later hb9)
      have HB9 := Lib.hid ((HB8.out.trans (HBr.out.mono HB8.out.size)).trans (hF9.below (Nat.le_trans HB8.out.size HBr.out.size) fun k hk e => by have := HBT.out.1; have := HU8.out.size; have := HB8.out.size; have := HW1.out; omega))
      have HU9 := Lib.hid hb9
      have HRE := Lib.hid (read_any w9 An ts.length cn ts (toks_row (HR7.out.later hb9)) HTK.out 0 bt3 bm3 es9 hT9' HE9.out.kinds)
      clear hF9' hT9' hT9 hF9 hFM hbU hb9 HBr HALL HTAB HBT HB8 HU8 HE8 HR8 HF htn hnl hbn
      go_wp2_with fail
      refine HRE.out.mono ?_
      rintro e v2 ho
      clear HRE
      rw [HF9.out] at ho
      obtain ⟨x2, N2, m2, rfl, hU⟩ := out_clause ho
      dsimp only at hU ⊢
      unfold clV
      go_upto_region 26 with fail
      obtain ⟨U2, hU2⟩ : ∃ U, U = v2.alloc (.cells #[.int .i64 x2.k, .int .i64 x2.n, .string ⟨x2.s.toArray⟩, .slice x2.A x2.len x2.cap, .slice N2 fn.length m2, .int .i64 fl, .int .i64 fx] 28) := ⟨_, rfl⟩
      rw [← hU2]
      obtain ⟨hb, ht, hn, hl, hg, hc⟩ := hU U2 hU2
      clear hU2 hU ho
      generalize v2.heap.size = g2 at hl hc hg ⊢
      have hb' := HU9.out.trans (hb.mono HU9.out.size)
      have HB := Lib.hid (HB9.out.trans (hb.mono HB9.out.size))
      have ht0 := HT7.out.later hb'
      have hn0 := HN7.out.later hb'
      have hc0 := (hb'.block g0 HL7.out).trans HC7.out
      have ht1 := HTy.out.later hb'
      have hn1 := HNy.out.later hb'
      have hc1 := (hb'.block g1 HLy.out).trans HCy.out
      have hnf : fn.length ≤ 100000 := HNF.out
      have hn2 := hn
      have f00 : U2.cell? ⟨g0, 0, none⟩ = some (.int .i64 x0.k) := by rw [cell_of_row U2 g0 0 _ _ (0, 0) hc0]; rfl
      have f01 : U2.cell? ⟨g0, 1, none⟩ = some (.int .i64 x0.n) := by rw [cell_of_row U2 g0 1 _ _ (0, 0) hc0]; rfl
      have f02 : U2.cell? ⟨g0, 2, none⟩ = some (.string ⟨x0.s.toArray⟩) := by rw [cell_of_row U2 g0 2 _ _ (0, 0) hc0]; rfl
      have f03 : U2.cell? ⟨g0, 3, none⟩ = some (.slice x0.A x0.len x0.cap) := by rw [cell_of_row U2 g0 3 _ _ (0, 0) hc0]; rfl
      have f04 : U2.cell? ⟨g0, 4, none⟩ = some (.slice N0 fn.length m0) := by rw [cell_of_row U2 g0 4 _ _ (0, 0) hc0]; rfl
      have f05 : U2.cell? ⟨g0, 5, none⟩ = some (.int .i64 fl) := by rw [cell_of_row U2 g0 5 _ _ (0, 0) hc0]; rfl
      have f06 : U2.cell? ⟨g0, 6, none⟩ = some (.int .i64 fx) := by rw [cell_of_row U2 g0 6 _ _ (0, 0) hc0]; rfl
      have f10 : U2.cell? ⟨g1, 0, none⟩ = some (.int .i64 x1.k) := by rw [cell_of_row U2 g1 0 _ _ (0, 0) hc1]; rfl
      have f11 : U2.cell? ⟨g1, 1, none⟩ = some (.int .i64 x1.n) := by rw [cell_of_row U2 g1 1 _ _ (0, 0) hc1]; rfl
      have f12 : U2.cell? ⟨g1, 2, none⟩ = some (.string ⟨x1.s.toArray⟩) := by rw [cell_of_row U2 g1 2 _ _ (0, 0) hc1]; rfl
      have f13 : U2.cell? ⟨g1, 3, none⟩ = some (.slice x1.A x1.len x1.cap) := by rw [cell_of_row U2 g1 3 _ _ (0, 0) hc1]; rfl
      have f14 : U2.cell? ⟨g1, 4, none⟩ = some (.slice N1 fn.length m1) := by rw [cell_of_row U2 g1 4 _ _ (0, 0) hc1]; rfl
      have f15 : U2.cell? ⟨g1, 5, none⟩ = some (.int .i64 fl) := by rw [cell_of_row U2 g1 5 _ _ (0, 0) hc1]; rfl
      have f16 : U2.cell? ⟨g1, 6, none⟩ = some (.int .i64 fx) := by rw [cell_of_row U2 g1 6 _ _ (0, 0) hc1]; rfl
      have f20 : U2.cell? ⟨g2, 0, none⟩ = some (.int .i64 x2.k) := by rw [cell_of_row U2 g2 0 _ _ (0, 0) hc]; rfl
      have f21 : U2.cell? ⟨g2, 1, none⟩ = some (.int .i64 x2.n) := by rw [cell_of_row U2 g2 1 _ _ (0, 0) hc]; rfl
      have f22 : U2.cell? ⟨g2, 2, none⟩ = some (.string ⟨x2.s.toArray⟩) := by rw [cell_of_row U2 g2 2 _ _ (0, 0) hc]; rfl
      have f23 : U2.cell? ⟨g2, 3, none⟩ = some (.slice x2.A x2.len x2.cap) := by rw [cell_of_row U2 g2 3 _ _ (0, 0) hc]; rfl
      have f24 : U2.cell? ⟨g2, 4, none⟩ = some (.slice N2 fn.length m2) := by rw [cell_of_row U2 g2 4 _ _ (0, 0) hc]; rfl
      have f25 : U2.cell? ⟨g2, 5, none⟩ = some (.int .i64 fl) := by rw [cell_of_row U2 g2 5 _ _ (0, 0) hc]; rfl
      have f26 : U2.cell? ⟨g2, 6, none⟩ = some (.int .i64 fx) := by rw [cell_of_row U2 g2 6 _ _ (0, 0) hc]; rfl
      have cc : ∀ (p : Addr) (v : Value), U2.cell? p = some v → ∀ u, Below U2.heap.size U2 u → u.cell? p = some v := fun p v h u hb => (World.cell?_of_block (hb.block _ (World.block_lt_of_cell? U2 _ h))).trans h
      have HS : Hid (∀ u, Below U2.heap.size U2 u → u.cell? ⟨g0, 0, none⟩ = some (.int .i64 x0.k) ∧ u.cell? ⟨g0, 1, none⟩ = some (.int .i64 x0.n) ∧ u.cell? ⟨g0, 2, none⟩ = some (.string ⟨x0.s.toArray⟩) ∧ u.cell? ⟨g0, 3, none⟩ = some (.slice x0.A x0.len x0.cap) ∧ u.cell? ⟨g0, 4, none⟩ = some (.slice N0 fn.length m0) ∧ u.cell? ⟨g0, 5, none⟩ = some (.int .i64 fl) ∧ u.cell? ⟨g0, 6, none⟩ = some (.int .i64 fx) ∧ u.cell? ⟨g1, 0, none⟩ = some (.int .i64 x1.k) ∧ u.cell? ⟨g1, 1, none⟩ = some (.int .i64 x1.n) ∧ u.cell? ⟨g1, 2, none⟩ = some (.string ⟨x1.s.toArray⟩) ∧ u.cell? ⟨g1, 3, none⟩ = some (.slice x1.A x1.len x1.cap) ∧ u.cell? ⟨g1, 4, none⟩ = some (.slice N1 fn.length m1) ∧ u.cell? ⟨g1, 5, none⟩ = some (.int .i64 fl) ∧ u.cell? ⟨g1, 6, none⟩ = some (.int .i64 fx) ∧ u.cell? ⟨g2, 0, none⟩ = some (.int .i64 x2.k) ∧ u.cell? ⟨g2, 1, none⟩ = some (.int .i64 x2.n) ∧ u.cell? ⟨g2, 2, none⟩ = some (.string ⟨x2.s.toArray⟩) ∧ u.cell? ⟨g2, 3, none⟩ = some (.slice x2.A x2.len x2.cap) ∧ u.cell? ⟨g2, 4, none⟩ = some (.slice N2 fn.length m2) ∧ u.cell? ⟨g2, 5, none⟩ = some (.int .i64 fl) ∧ u.cell? ⟨g2, 6, none⟩ = some (.int .i64 fx)) := Lib.hid fun u hb => ⟨cc _ _ f00 u hb, cc _ _ f01 u hb, cc _ _ f02 u hb, cc _ _ f03 u hb, cc _ _ f04 u hb, cc _ _ f05 u hb, cc _ _ f06 u hb, cc _ _ f10 u hb, cc _ _ f11 u hb, cc _ _ f12 u hb, cc _ _ f13 u hb, cc _ _ f14 u hb, cc _ _ f15 u hb, cc _ _ f16 u hb, cc _ _ f20 u hb, cc _ _ f21 u hb, cc _ _ f22 u hb, cc _ _ f23 u hb, cc _ _ f24 u hb, cc _ _ f25 u hb, cc _ _ f26 u hb⟩
      have hfr : ∀ (x : TV) (A : Option Addr) (c : Nat), NmAt U2 U2.heap.size A fn.length fn → ∀ u, Below U2.heap.size U2 u → Calls Tryd.prog 15 #[clV x (.slice A fn.length c) fl fx] u fun e u' => ∃ A' c', e = .returned (clV x (.slice A' fn.length c') fl fx) ∧ NmAt u' u'.heap.size A' fn.length fn ∧ Below u.heap.size u u' ∧ Below U2.heap.size U2 u' := fun x A c hA u hb => by
        refine (from06_any u x A fn.length c fl fx fn (hA.keep hb.size hb.block) hnf).mono ?_
        rintro e u' ⟨A', c', rfl, h1, h2⟩
        exact ⟨A', c', rfl, h1, h2, hb.trans (h2.mono hb.size)⟩
      have hsm : ∀ (x y : TV), TermAt U2 U2.heap.size x ft → TermAt U2 U2.heap.size y ft → ∀ u A1 c1 A2 c2, Below U2.heap.size U2 u → NmAt u u.heap.size A1 fn.length fn → NmAt u u.heap.size A2 fn.length fn → Calls Tryd.prog 14 #[clV x (.slice A1 fn.length c1) fl fx, clV y (.slice A2 fn.length c2) fl fx] u fun e u' => e = .returned (.bool true) ∧ Below u.heap.size u u' ∧ Below U2.heap.size U2 u' := fun x y hx hy u A1 c1 A2 c2 hb h1 h2 => by
        refine (same06_any u x y ft A1 A2 fn.length c1 c2 fl fx fn (hx.keep hb.size hb.block) (hy.keep hb.size hb.block) (by have := HSZ.out; omega) h1 h2 hnf).mono ?_
        rintro e u' ⟨rfl, hb'⟩
        exact ⟨rfl, hb', hb.trans (hb'.mono hb.size)⟩
      have HF0 := Lib.hid (hfr x0 N0 m0 hn0)
      have HF1 := Lib.hid (hfr x1 N1 m1 hn1)
      have HF2 := Lib.hid (hfr x2 N2 m2 hn2)
      have HM1 := Lib.hid (hsm x0 x1 ht0 ht1)
      have HM2 := Lib.hid (hsm x0 x2 ht0 ht)
      have hbr := Below.refl U2.heap.size U2
      have hbd : Below U2.heap.size U2 U2.drew := (Below.refl U2.heap.size U2).drew
      clear f00 f01 f02 f03 f04 f05 f06 f10 f11 f12 f13 f14 f15 f16 f20 f21 f22 f23 f24 f25 f26 cc hfr hsm hc hc0 hc1 hn hn0 hn1 hn2 ht ht0 ht1 hl hg hb hb' hnf HT7 HTy HN7 HNy HC7 HCy HL7 HLy HR7 HE7 HE9 HU9 HB9 HF9 HNF HSZ HW1 HTK HL HU HS3
      unfold clV at HF0 HF1 HF2 HM1 HM2
      go_region_held3 (fun u => u.cell? ⟨g0, 0, none⟩ = some (.int .i64 x0.k) ∧ u.cell? ⟨g0, 1, none⟩ = some (.int .i64 x0.n) ∧ u.cell? ⟨g0, 2, none⟩ = some (.string ⟨x0.s.toArray⟩) ∧ u.cell? ⟨g0, 3, none⟩ = some (.slice x0.A x0.len x0.cap) ∧ u.cell? ⟨g0, 4, none⟩ = some (.slice N0 fn.length m0) ∧ u.cell? ⟨g0, 5, none⟩ = some (.int .i64 fl) ∧ u.cell? ⟨g0, 6, none⟩ = some (.int .i64 fx) ∧ u.cell? ⟨g1, 0, none⟩ = some (.int .i64 x1.k) ∧ u.cell? ⟨g1, 1, none⟩ = some (.int .i64 x1.n) ∧ u.cell? ⟨g1, 2, none⟩ = some (.string ⟨x1.s.toArray⟩) ∧ u.cell? ⟨g1, 3, none⟩ = some (.slice x1.A x1.len x1.cap) ∧ u.cell? ⟨g1, 4, none⟩ = some (.slice N1 fn.length m1) ∧ u.cell? ⟨g1, 5, none⟩ = some (.int .i64 fl) ∧ u.cell? ⟨g1, 6, none⟩ = some (.int .i64 fx) ∧ u.cell? ⟨g2, 0, none⟩ = some (.int .i64 x2.k) ∧ u.cell? ⟨g2, 1, none⟩ = some (.int .i64 x2.n) ∧ u.cell? ⟨g2, 2, none⟩ = some (.string ⟨x2.s.toArray⟩) ∧ u.cell? ⟨g2, 3, none⟩ = some (.slice x2.A x2.len x2.cap) ∧ u.cell? ⟨g2, 4, none⟩ = some (.slice N2 fn.length m2) ∧ u.cell? ⟨g2, 5, none⟩ = some (.int .i64 fl) ∧ u.cell? ⟨g2, 6, none⟩ = some (.int .i64 fx))
        (first | (with_reducible exact HS.out _ (by assumption)))
        (first | (go_at_call 15; with_reducible refine (HF0.out _ (by assumption)).mono ?_; rintro e u1 ⟨A1, c1, rfl, hn1, hu1, hb1⟩) | (go_at_call 15; with_reducible refine (HF1.out _ (by assumption)).mono ?_; rintro e u2 ⟨A2, c2, rfl, hn2, hu2, hb2⟩; have hn1' := NmAt.later hn1 hu2) | (go_at_call 15; with_reducible refine (HF2.out _ (by assumption)).mono ?_; rintro e u3 ⟨A3, c3, rfl, hn3, hu3, hb3⟩; have hn1'' := NmAt.later hn1 hu3) | (go_at_call 14; with_reducible refine (HM1.out _ _ _ _ _ (by assumption) (by assumption) (by assumption)).mono ?_; rintro e u4 ⟨rfl, hu4, hb4⟩) | (go_at_call 14; with_reducible refine (HM2.out _ _ _ _ _ (by assumption) (by assumption) (by assumption)).mono ?_; rintro e u5 ⟨rfl, hu5, hb5⟩))
      all_goals
        go_wp2_with fail
        go_ret
        exact ⟨rfl, HB.out.trans (hb5.mono HB.out.size)⟩
end Go.Proofs.YtmgidfndifhcoaaDoor
/-
  ReadBehind holds: for every two texts and operator the law answers true, and the argument reads behind the call as it read before. The row lists three package-level variables; the card ties them to the program's text.
-/
namespace Go.Proofs.YtmgidfndifhcoaaDoor.ReadBehindC
set_option maxRecDepth 100000
open Go.ChangeShapes Go.WideShapes Go.ChangeAt Go.RowKit Go.Deep
open Go.ChangeMaps (open_string)

theorem array5 {α : Type} {cs : Array α} (h : cs.size = 5) : ∃ c0 c1 c2 c3 c4, cs = #[c0, c1, c2, c3, c4] := by
  obtain ⟨l⟩ := cs
  match l, h with
  | [c0, c1, c2, c3, c4], _ => exact ⟨c0, c1, c2, c3, c4, rfl⟩
theorem behFields : ∃ f0 f1 f2 f3 f4 : Field, Tryd.prog.underlying 42 = some (.struct #[f0, f1, f2, f3, f4]) ∧ f0.type = 9 ∧ f1.type = 9 ∧ f2.type = 5 ∧ f3.type = 5 ∧ f4.type = 40 ∧ f0.offset = 0 ∧ f1.offset = 1 ∧ f2.offset = 2 ∧ f3.offset = 3 ∧ f4.offset = 4 :=
  ⟨_, _, _, _, _, Tryd.underlying42, rfl, rfl, rfl, rfl, rfl, rfl, rfl, rfl, rfl, rfl⟩
theorem behCells : Tryd.prog.cellsOf 42 = 5 := by kernel_rfl
theorem strCells : Tryd.prog.cellsOf 9 = 1 := by kernel_rfl
theorem u8Cells : Tryd.prog.cellsOf 5 = 1 := by kernel_rfl
theorem u16Cells : Tryd.prog.cellsOf 40 = 1 := by kernel_rfl
theorem open_behind {H : Type} {enc : TypeId × Value → H} {W : World} {b0 : Nat} {v : Value} {d : DataW H} {p : List MemPlace} (hv : Value.okWide Tryd.prog W .any b0 42 v) (h : DataW.Trod enc Tryd.prog W 0 (fun _ => true) true 42 v d p) :
    ∃ (a b : List UInt8) (nm ty pr : Nat), v = .agg #[.string ⟨a.toArray⟩, .string ⟨b.toArray⟩, .int .u8 (nm : Int), .int .u8 (ty : Int), .int .u16 (pr : Int)] ∧ nm < 256 ∧ ty < 256 ∧ pr < 65536 := by
  obtain ⟨f0, f1, f2, f3, f4, hu, t0, t1, t2, t3, t4, o0, o1, o2, o3, o4⟩ := behFields
  obtain ⟨cs, rfl, hsz⟩ := okWide_struct hu hv
  obtain ⟨c0, c1, c2, c3, c4, rfl⟩ := array5 (hsz.trans behCells)
  obtain ⟨fuel, hf⟩ := h
  obtain ⟨xs, n, _, _, _, hlen, hel⟩ := DataW.trod_struct hu hf
  have hlen' : xs.length = 5 := hlen
  match xs, hlen' with
  | [y0, y1, y2, y3, y4], _ =>
    have e0 := hel 0 f0 rfl
    have e1 := hel 1 f1 rfl
    have e2 := hel 2 f2 rfl
    have e3 := hel 3 f3 rfl
    have e4 := hel 4 f4 rfl
    rw [t0, o0, strCells] at e0
    rw [t1, o1, strCells] at e1
    rw [t2, o2, u8Cells] at e2
    rw [t3, o3, u8Cells] at e3
    rw [t4, o4, u16Cells] at e4
    simp only [Value.cells, List.drop_zero, List.take_succ_cons, List.take_zero, List.drop_succ_cons, List.getElem?_cons_zero, List.getElem?_cons_succ] at e0 e1 e2 e3 e4
    obtain ⟨a, ha, _, _⟩ := DataW.trod_string Tryd.underlying9 e0
    obtain ⟨b, hb, _, _⟩ := DataW.trod_string Tryd.underlying9 e1
    obtain ⟨nm, hn, _, wn⟩ := DataW.trod_int Tryd.underlying5 e2
    obtain ⟨ty, ht, _, wt⟩ := DataW.trod_int Tryd.underlying5 e3
    obtain ⟨pr, hp, _, wp⟩ := DataW.trod_int Tryd.underlying40 e4
    simp only [List.cons.injEq, and_true] at ha hb hn ht hp
    subst ha hb hn ht hp
    have bn := bounds_u8 wn
    have bt := bounds_u8 wt
    have bp := bounds_u16 wp
    obtain ⟨nm, rfl⟩ : ∃ k : Nat, nm = (k : Int) := ⟨nm.toNat, by omega⟩
    obtain ⟨ty, rfl⟩ : ∃ k : Nat, ty = (k : Int) := ⟨ty.toNat, by omega⟩
    obtain ⟨pr, rfl⟩ : ∃ k : Nat, pr = (k : Int) := ⟨pr.toNat, by omega⟩
    exact ⟨a.data.toList, b.data.toList, nm, ty, pr, rfl, by omega, by omega, by omega⟩
theorem own : ownKnob Tryd.prog.godebug = none := by kernel_rfl
theorem laidOut : laidOutB Tryd.prog = true := by kernel_rfl
theorem params_ok : ∀ t ∈ Tryd.f4.params.toList, Tryd.prog.readableRec t = true ∧ t < Tryd.prog.types.size := by
  intro t ht
  have h : t ∈ [42] := ht
  simp only [List.mem_cons, List.mem_nil_iff, or_false] at h
  subst h
  exact ⟨by kernel_rfl, of_decide_eq_true (by kernel_rfl)⟩

theorem contract (H : Type) (enc : TypeId × Value → H) (W : World) (base : Nat) (args : Array Value) (ds gs : List (DataW H)) (before : List MemPlace)
    (hval : ∀ (j : Nat) t v, Tryd.f4.params[j]? = some t → args[j]? = some v → Value.okWide Tryd.prog W .any base t v)
    (hW : DataW.Whole enc Tryd.prog Tryd.f4.params.toList Rows.readBehindSpec.vars false W args.toList ds gs before) (hL : laidMetH Tryd.prog Rows.readBehindRow.laid W) (hsh : W.ShapedOpen Tryd.prog) :
    Calls Tryd.prog 4 args W fun e W' => ∃ v, e = .returned v ∧ Rows.readBehindSpec.post enc Tryd.prog Tryd.f4 false true false false W args v W' := by
  have hW' := hW
  obtain ⟨p, q, hA0, hV, rfl, hfz, hnd⟩ := hW
  have hA : DataW.TrodAll enc Tryd.prog W 0 (fun _ => true) true Tryd.f4.params.toList args.toList ds p := hA0
  rw [Tryd.params4] at hA hval
  obtain ⟨v0, vs0, d0, ds0, p0, q0, hargs, rfl, rfl, h0, r0⟩ := trodAll_cons hA
  obtain ⟨rfl, rfl, rfl⟩ := trodAll_nil r0
  obtain rfl : args = #[v0] := by cases args; simp_all
  obtain ⟨rfl, rfl⟩ := trodVars_none hV
  obtain ⟨a, b, nm, ty, pr, rfl, bn, bt, bp⟩ := open_behind (hval 0 42 v0 rfl rfl) h0
  obtain ⟨m, hm⟩ := cell_of_shapedOpen_int (P := Tryd.prog) (g := 3) (t := 3) (zero := #[.int .i64 0]) hsh (of_decide_eq_true (by kernel_rfl)) (by kernel_rfl) rfl (by kernel_rfl) (by kernel_rfl) Tryd.underlying3
  rw [MakeChecks.laidMetH_plain _ _ _ (by kernel_rfl)] at hL
  have hL1 := hL.tail
  have walk := behind_any W ⟨⟨m, hm⟩, kinds_of_laid hL1.tail, space_of_laid hL1⟩ a b nm ty pr bn bt bp
  refine walk.mono fun e W' ⟨he, hb⟩ => ?_
  subst he
  exact ⟨_, rfl, law_post laidOut Tryd.underlying4 rfl rfl hW' hb params_ok rfl rfl rfl⟩

theorem laid_met (os : Os) (args : Array Value) : laidMet Tryd.prog Rows.readBehindRow.laid (((World.doorLaid Tryd.prog 70 os).forCall (fun _ _ => 0) ⟨#[], args, []⟩).memory) :=
  laidMet_of_run' 8 (by kernel_rfl) (by kernel_rfl)
theorem reads (os : Os) {H : Type} (enc : TypeId × Value → H) : ∃ places, DataW.whole enc Tryd.prog ((World.doorLaid Tryd.prog 70 os).forCall (fun _ _ => 0) ⟨#[], #[.agg #[.string ByteArray.empty, .string ByteArray.empty, .int .u8 0, .int .u8 0, .int .u16 0]], []⟩).memory Tryd.f4.params.toList Rows.readBehindSpec.vars false #[.agg #[.string ByteArray.empty, .string ByteArray.empty, .int .u8 0, .int .u8 0, .int .u16 0]].toList 8 = some ([.agg [.lit (.string []), .lit (.string []), .lit (.int .u8 0), .lit (.int .u8 0), .lit (.int .u16 0)]], [], places) :=
  ⟨[], by kernel_rfl⟩

theorem lifted (os : Os) (started : os.Started) (H : Type) (enc : TypeId × Value → H) (F : Stop.Interp) :
    ReturnsInHanded {} Tryd.checked os 4 .any ((OpenSpec.ofChange Rows.readBehindSpec).preRow enc Tryd.prog Tryd.f4 Rows.readBehindRow.domain false Rows.readBehindRow.laid) (((OpenSpec.ofChange Rows.readBehindSpec).at F).post enc Tryd.prog Tryd.f4 false true false false) := by
  obtain ⟨places, hx⟩ := reads os enc
  refine returnsInHanded_of_row (C := Tryd.checked) (s := OpenSpec.ofChange Rows.readBehindSpec) own started (by kernel_rfl) Tryd.func4
    (witness_row_atRef (enc := enc) (C := Tryd.checked) false (World.doorLaid Tryd.prog 70 os) #[.agg #[.string ByteArray.empty, .string ByteArray.empty, .int .u8 0, .int .u8 0, .int .u16 0]] rfl (by kernel_rfl) (by kernel_rfl) (by kernel_rfl)
      (OpenSpec.preRow_of_cond 8 hx (by kernel_rfl) (fun k hk => by cases hk) (by kernel_rfl) (laid_met os _))) ?_
  intro W base args ds gs before hval hW _ _ _ hL hsh _
  exact contract H enc W base args ds gs before hval hW hL hsh

theorem said : Rows.ReadBehindSaid :=
  OpenClaim.holds_of_cond 4 Tryd.f4 rfl rfl rfl rfl rfl rfl rfl ⟨rfl, rfl, rfl, rfl, rfl⟩ rfl rfl rfl rfl rfl (by kernel_rfl) Tryd.func4 (by kernel_rfl)
    (of_decide_eq_true (by kernel_rfl)) (by unfold Func.isWrapper; first | (rw [if_pos (by decide +kernel)]; kernel_rfl) | (rw [if_neg (by decide +kernel)]; exact ⟨rfl, rfl⟩))
    (fun os started H enc _ F => by rw [OpenClaim.pre_eq_preRow]; exact lifted os started H enc F)

theorem plain (f : FuncId) (fn : Func) (hf : Tryd.pinned.checked.prog.funcNamed "prolix/prolixlaw06.ReadBehind" = some f) (hfn : Tryd.pinned.checked.prog.funcs[f]? = some fn) :
    false = Tryd.pinned.checked.prog.looks [] ∧ ∀ (j : Nat) t, fn.params[j]? = some t → Tryd.pinned.checked.prog.wantsStandIn t = false := by
  obtain rfl : f = 4 := Option.some.inj ((show Tryd.prog.funcNamed "prolix/prolixlaw06.ReadBehind" = some 4 by kernel_rfl).symm.trans hf) |>.symm
  obtain rfl : fn = Tryd.f4 := (Option.some.inj (Tryd.func4.symm.trans hfn)).symm
  refine ⟨by kernel_rfl, fun j t ht => ?_⟩
  rw [Tryd.params4] at ht
  have hm : t ∈ [42] := by simpa using Array.mem_of_getElem? ht
  have hall : ([42].all fun u => !Tryd.prog.wantsStandIn u) = true := by kernel_rfl
  exact (show Tryd.prog.wantsStandIn t = false by simpa using List.all_eq_true.1 hall t hm)

theorem card : Rows.ReadBehindCardSaid :=
  Claim7.holds_tied_plain_at .later [] _ _ _ _ said (fun _ h => by cases h) (by kernel_rfl) (fun _ h => by cases h) readBehind_row_tie rfl ⟨rfl, rfl⟩ (by kernel_rfl) rfl plain (by kernel_rfl)
end Go.Proofs.YtmgidfndifhcoaaDoor.ReadBehindC
