/-
  What the document's own Lex answers at a text of at most 16000 bytes: the tokens, the line and the error of the plain law, in a row of the call's own.
-/
import Derived.Test.YtpiekfkkhgighaaRefJ
import Derived.Test.YtpiekfkkhgighaaRefE
import Derived.Test.YtpiekfkkhgighaaTokW9
namespace Go.Proofs.Ytpiekfkkhgighaa
open Go.RowKit
set_option maxRecDepth 100000

/-- Where the plain law stands at a round's head. -/
structure LexEq (T : List UInt8) (a ln : Nat) (ts : List Tok) : Prop where
  le : a ≤ T.length
  len : ts.length ≤ a
  ln_eq : ln = 1 + lines (T.take a)
  eq : lexB T = (ts ++ (lexF (T.length + 1) (T.drop a) ln (decide (ts = []))).1, (lexF (T.length + 1) (T.drop a) ln (decide (ts = []))).2)
section
variable {T : List UInt8} {a ln k : Nat} {ts : List Tok}
theorem lines_on (hak : a ≤ k) : 1 + lines (T.take a) + lines ((T.drop a).take (k - a)) = 1 + lines (T.take k) := by
  have h : T.take k = T.take a ++ (T.drop a).take (k - a) := by
    rw [show k = a + (k - a) by omega, List.take_add, show a + (k - a) - a = k - a by omega]
  rw [h, lines_app]
  omega
theorem LexEq.step (h : LexEq T a ln ts) (hak : a ≤ k) (hkT : k ≤ T.length) (hR : (skipB (T.drop a)).1 = T.drop k) :
    lexF (T.length + 1) (T.drop a) ln (decide (ts = [])) = if (skipB (T.drop a)).2 = false then ([], ((1 + lines (T.take k) : Nat) : Int), 5)
    else if T.drop k = [] then ([⟨0, ((1 + lines (T.take k) : Nat) : Int), 0, [], false, false⟩], 0, 0)
    else match tokF (T.drop k) with
      | none => ([], ((1 + lines (T.take k) : Nat) : Int), 5)
      | some t =>
        (⟨t.kind, ((1 + lines (T.take k) : Nat) : Int), t.n, t.s, decide (((T.drop k).drop t.len).head? = some 40), !(decide (ts = [])) && (T.drop k).length == (T.drop a).length⟩ :: (lexF (T.length + 1) ((T.drop k).drop t.len) (1 + lines (T.take k) + lines ((T.drop k).take t.len)) false).1,
          (lexF (T.length + 1) ((T.drop k).drop t.len) (1 + lines (T.take k) + lines ((T.drop k).take t.len)) false).2) := by
  have hle := h.le
  rw [lexF_step _ _ _ _ (by rw [List.length_drop]; omega), hR, take_len T hak hkT, h.ln_eq, lines_on hak]
  rfl
theorem LexEq.bad (h : LexEq T a ln ts) (hak : a ≤ k) (hkT : k ≤ T.length) (hR : (skipB (T.drop a)).1 = T.drop k) (h2 : (skipB (T.drop a)).2 = false) :
    lexB T = (ts, ((1 + lines (T.take k) : Nat) : Int), 5) := by
  rw [h.eq, h.step hak hkT hR, if_pos h2]; simp
theorem LexEq.fin (h : LexEq T a ln ts) (hak : a ≤ k) (hkT : k = T.length) (hR : (skipB (T.drop a)).1 = T.drop k) (h2 : (skipB (T.drop a)).2 = true) :
    lexB T = (ts ++ [⟨0, ((1 + lines (T.take k) : Nat) : Int), 0, [], false, false⟩], 0, 0) := by
  rw [h.eq, h.step hak (Nat.le_of_eq hkT) hR, if_neg (by rw [h2]; exact Bool.noConfusion), if_pos (by rw [hkT]; simp)]
theorem LexEq.none (h : LexEq T a ln ts) (hak : a ≤ k) (hkT : k < T.length) (hR : (skipB (T.drop a)).1 = T.drop k) (h2 : (skipB (T.drop a)).2 = true) (ht : tokF (T.drop k) = none) :
    lexB T = (ts, ((1 + lines (T.take k) : Nat) : Int), 5) := by
  rw [h.eq, h.step hak (Nat.le_of_lt hkT) hR, if_neg (by rw [h2]; exact Bool.noConfusion), if_neg (by intro e; have := congrArg List.length e; rw [List.length_drop] at this; simp at this; omega), ht]; simp
theorem LexEq.go (h : LexEq T a ln ts) (hak : a ≤ k) (hkT : k < T.length) (hR : (skipB (T.drop a)).1 = T.drop k) (h2 : (skipB (T.drop a)).2 = true) {t : TokIs} (ht : tokF (T.drop k) = some t) (hl : k + t.len ≤ T.length) (hp : 0 < t.len) :
    LexEq T (k + t.len) (1 + lines (T.take (k + t.len))) (ts ++ [⟨t.kind, ((1 + lines (T.take k) : Nat) : Int), t.n, t.s, openB T (k + t.len), tight ts k a⟩]) := by
  have ha := h.le
  have e1 : (!(decide (ts = [])) && (T.drop k).length == (T.drop a).length) = tight ts k a := by
    unfold tight
    rw [List.length_drop, List.length_drop]
    congr 1
    · simp
    · rw [Bool.eq_iff_iff, beq_iff_eq, beq_iff_eq]; omega
  have e2 : decide ((T.drop (k + t.len)).head? = some 40) = openB T (k + t.len) := by
    unfold openB
    rw [List.head?_drop]
  have e3 := lines_on (T := T) (a := k) (k := k + t.len) (by omega)
  rw [show k + t.len - k = t.len by omega] at e3
  refine ⟨hl, ?_, rfl, ?_⟩
  · have := h.len
    simp
    omega
  rw [h.eq, h.step hak (Nat.le_of_lt hkT) hR, if_neg (by rw [h2]; exact Bool.noConfusion), if_neg (by intro e; have := congrArg List.length e; rw [List.length_drop] at this; simp at this; omega), ht]
  simp only [e1, List.drop_drop, e2, e3]
  simp
end
/-- The place at which the token ahead ended. -/
def lastI (ts : List Tok) (a : Nat) : Int := if ts = [] then -1 else (a : Int)
theorem tight_end (ts : List Tok) (k a : Nat) : ((k : Int) == lastI ts a) = tight ts k a := by
  unfold lastI tight
  cases ts with
  | nil =>
    rw [if_pos rfl, Bool.eq_iff_iff, beq_iff_eq]
    simp
  | cons t r =>
    rw [if_neg (by simp), Bool.eq_iff_iff, beq_iff_eq]
    simp
/-- What stands at a round's head. -/
structure RLexInv (w : World) (T : List UInt8) (a : Nat) (v : Value) (ts : List Tok) (u : World) : Prop where
  row : Row u w.heap.size 46 6 encTok v ts
  below : Below w.heap.size w u
  eq : LexEq T a (1 + lines (T.take a)) ts
theorem lines_le (l : List UInt8) (k : Nat) : lines (l.take k) ≤ l.length := Nat.le_trans (List.count_le_length ..) (by rw [List.length_take]; omega)

theorem cell_alloc2 (w : World) (o : Obj) (cs : Array Value) (t : TypeId) (i : Nat) (u : Value) (h : cs[i]? = some u) : ((w.alloc o).alloc (.cells cs t)).cell? ⟨w.heap.size + 1, i, none⟩ = some u := by
  have := cell_alloc1 (w.alloc o) cs t i u h
  rwa [show (w.alloc o).heap.size = w.heap.size + 1 by simp] at this
set_option maxHeartbeats 8000000 in
theorem rlex_any (w : World) (T : List UInt8) (hT : (T.length : Int) ≤ 16000) :
    Calls Try.prog 7 #[.string ⟨T.toArray⟩] w (LexDone w T) := by
  have hT2 : decide (65536 < (T.length : Int)) = false := decide_eq_false (by omega)
  have HI0 : Hid (RLexInv w T 0 (.slice none 0 0) [] w) := Lib.hid ⟨Row.nil _ _ _ _ _, Below.refl _ _, ⟨Nat.zero_le _, Nat.le_refl _, rfl, by simp [lexB, lines]⟩⟩
  obtain ⟨i0, z0, hi0, hz0, hz1, hzB, hz3⟩ := tok_info
  go_enter Try.func7, Try.ntmps7
  go_wp2_with fail
  go_loopw [5, 6, 7] (fun v i en wr => ∃ (a : Nat) (ts : List Tok), i = .int .i64 a ∧ en = .int .i64 (lastI ts a) ∧ RLexInv w T a v ts wr) (fun _ i _ _ => T.length - (intOf i).toNat)
  case atStart => exact ⟨0, [], rfl, rfl, HI0.out⟩
  case round =>
    obtain ⟨a, ts, rfl, rfl, hI⟩ := hrel
    have hle := hI.eq.le
    have hlen := hI.eq.len
    have hwr := hI.below.size
    obtain ⟨k', hR, hk'⟩ := skipB_drop (T.drop a)
    rw [List.drop_drop] at hR
    rw [List.length_drop] at hk'
    obtain ⟨k, hk⟩ : ∃ k, a + k' = k := ⟨_, rfl⟩
    rw [hk] at hR
    have hak : a ≤ k := by omega
    have hkT : k ≤ T.length := by omega
    have HI := Lib.hid hI
    have HR := Lib.hid hR
    have hlin := lines_le T k
    have HLin := Lib.hid hlin
    clear hI HI0 hR hk hk' hlin
    go_wp2_with fail
    refine (rskip_any _ T a hle (by omega)).mono ?_
    rintro e w' ⟨rfl, rfl⟩
    rw [HR.out]
    rw [show (T.length - (T.drop k).length : Nat) = k by rw [List.length_drop]; omega]
    obtain ⟨ok, hok⟩ : ∃ ok, (skipB (T.drop a)).2 = ok := ⟨_, rfl⟩
    rw [hok]
    have HOK := Lib.hid hok
    clear hok
    obtain ⟨L, hL⟩ : ∃ L, 1 + lines (T.take k) = L := ⟨_, rfl⟩
    have HL := Lib.hid hL
    clear hL
    cases ok with
    | false =>
      have HE := Lib.hid (HI.out.eq.bad hak hkT HR.out HOK.out)
      go_wp2_with fail
      refine (rline_any _ T k hkT (by omega)).mono ?_
      rintro e w' ⟨rfl, rfl⟩
      rw [HL.out]
      rw [HL.out] at HE
      go_wp2_with fail
      go_ret3
      exact ⟨_, by rw [HE.out]; rfl, by rw [HE.out]; exact HI.out.row, HI.out.below⟩
    | true =>
      rcases Nat.eq_or_lt_of_le hkT with hk | hk
      · have hge : decide (T.length ≤ k) = true := decide_eq_true (by omega)
        have HE := Lib.hid (HI.out.eq.fin hak hk HR.out HOK.out)
        rw [HL.out] at HE
        clear hk
        go_wp2_with fail
        refine (rline_any _ T k hkT (by omega)).mono ?_
        rintro e w' ⟨rfl, rfl⟩
        rw [HL.out]
        go_wp2_with (at_builtin; refine wpList_row rfl _ _ 23 rfl _ w.heap.size 46 i0 z0 6 48 encTok Try.underlying23 hi0 hz0 hz1 hzB hz3 (by decide) encTok_len encTok_one _ ts ⟨0, (L : Int), 0, [], false, false⟩ rfl (HI.out.row.alloc _) _ _ rfl (fun j u hu => cell_alloc1 _ _ _ j u (by rw [← Array.getElem?_toList]; exact hu)) (by unfold maxLen; omega) (by omega) (Nat.le_trans hwr (by simp)) ?_)
        intro v' w5 hrow5 hg5
        have HR5 := Lib.hid hrow5
        have HG5 := Lib.hid hg5
        clear hrow5 hg5
        go_wp2_with fail
        go_ret3
        refine ⟨_, by rw [HE.out]; rfl, by rw [HE.out]; exact HR5.out, ?_⟩
        have hF : Fr (fun k => w.heap.size ≤ k) w w5 := ((Fr.of_below _ HI.out.below).alloc _).grown HG5.out fun g e => .inl (HI.out.row.lt g e).1
        exact hF.below (Nat.le_refl _) fun k hk => by omega
      · have hge : decide (T.length ≤ k) = false := decide_eq_false (by omega)
        go_wp2_with fail
        refine (rone_any _ T k hk (by omega)).mono ?_
        rintro e w2 ⟨⟨t, ht1, ht2, rfl⟩, hb2⟩
        have HI2 : Hid (RLexInv w T a _ ts w2) := Lib.hid ⟨HI.out.row.later hb2, HI.out.below.trans (hb2.mono HI.out.below.size), HI.out.eq⟩
        have hw2 : w.heap.size ≤ w2.heap.size := HI2.out.below.size
        clear hb2
        unfold tokR
        cases htk : tokF (T.drop k) with
        | none =>
          have h0 := ht2 htk
          have HE := Lib.hid (HI.out.eq.none hak hk HR.out HOK.out htk)
          rw [HL.out] at HE
          rw [h0]
          clear ht1 ht2 h0 htk
          go_wp2_with fail
          refine (rline_any _ T k hkT (by omega)).mono ?_
          rintro e w' ⟨rfl, rfl⟩
          rw [HL.out]
          go_wp2_with fail
          go_ret3
          exact ⟨_, by rw [HE.out]; rfl, by rw [HE.out]; exact HI2.out.row.alloc _, HI2.out.below.alloc HI2.out.below.size _⟩
        | some u =>
          obtain rfl := ht1 u htk
          have htp := tokF_pos htk
          have htl := tokF_le htk
          rw [List.length_drop] at htl
          have HGo := Lib.hid (HI.out.eq.go hak hk HR.out HOK.out htk (by omega) htp)
          rw [HL.out] at HGo
          have ht0 : ((t.len : Int) == 0) = false := by rw [beq_eq_false_iff_ne]; omega
          have ht0' : (t.len == 0) = false := by rw [beq_eq_false_iff_ne]; omega
          have hmt : ((ts.length : Int) == 16384) = false := by rw [beq_eq_false_iff_ne]; omega
          have hmt2 : (ts.length == 16384) = false := by rw [beq_eq_false_iff_ne]; omega
          obtain ⟨q, hq⟩ : ∃ q, tight ts k a = q := ⟨_, rfl⟩
          have hte := tight_end ts k a
          rw [hq] at HGo hte
          obtain ⟨z, hz⟩ : ∃ z, k + t.len = z := ⟨_, rfl⟩
          rw [hz] at HGo
          have hzi : (k : Int) + (t.len : Int) = (z : Int) := by omega
          have hzT : z ≤ T.length := by omega
          have hak2 : a < z := by omega
          have hzb : (k : Int) + (t.len : Int) ≤ 16000 := by omega
          obtain ⟨A, cap, rfl⟩ := HI2.out.row.shape
          have HZ := Lib.hid hz
          clear ht1 ht2 htk hq hz
          go_wp2_with fail
          refine (rline_any _ T k hkT (by omega)).mono ?_
          rintro e w' ⟨rfl, rfl⟩
          rw [HL.out]
          by_cases hz2 : z < T.length
          · obtain ⟨d, -, hxd, hgd⟩ := byte_at T z hz2
            obtain ⟨o, ho⟩ : ∃ o, ((d.toNat : Int) == 40) = o := ⟨_, rfl⟩
            have hopen : openB T z = o := by unfold openB; rw [hgd, open_byte, ho]
            rw [hopen] at HGo
            have hz2' : (z : Int) < (T.length : Int) := by omega
            clear hgd hopen
            go_wp2_with (at_builtin; refine wpList_row rfl _ _ 23 rfl _ w.heap.size 46 i0 z0 6 48 encTok Try.underlying23 hi0 hz0 hz1 hzB hz3 (by decide) encTok_len encTok_one _ ts ⟨t.kind, (L : Int), t.n, t.s, o, q⟩ rfl ((HI2.out.row.alloc _).alloc _) _ _ rfl (fun j u hu => cell_alloc2 _ _ _ _ j u (by rw [← Array.getElem?_toList]; exact hu)) (by unfold maxLen; omega) (by omega) (Nat.le_trans hw2 (by simp; omega)) ?_)
            intro v' w5 hrow5 hg5
            have HI5 : Hid (RLexInv w T z v' _ w5) := Lib.hid ⟨hrow5, (((Fr.of_below (fun k => w.heap.size ≤ k) HI2.out.below).alloc _).alloc _ |>.grown hg5 fun g e => .inl (HI2.out.row.lt g e).1).below (Nat.le_refl _) (fun k hk => by omega), HGo.out⟩
            clear hrow5 hg5
            go_wp2_with fail
            go_roundw
            case rel => exact ⟨z, _, rfl, by rw [lastI, if_neg (by simp)], HI5.out⟩
            case measure => simp [intOf]; omega
          · have hopen : openB T z = false := by unfold openB; rw [List.getElem?_eq_none (by omega)]; rfl
            rw [hopen] at HGo
            have hz2' : decide (z < T.length) = false := decide_eq_false hz2
            clear hopen
            go_wp2_with (at_builtin; refine wpList_row rfl _ _ 23 rfl _ w.heap.size 46 i0 z0 6 48 encTok Try.underlying23 hi0 hz0 hz1 hzB hz3 (by decide) encTok_len encTok_one _ ts ⟨t.kind, (L : Int), t.n, t.s, false, q⟩ rfl ((HI2.out.row.alloc _).alloc _) _ _ rfl (fun j u hu => cell_alloc2 _ _ _ _ j u (by rw [← Array.getElem?_toList]; exact hu)) (by unfold maxLen; omega) (by omega) (Nat.le_trans hw2 (by simp; omega)) ?_)
            intro v' w5 hrow5 hg5
            have HI5 : Hid (RLexInv w T z v' _ w5) := Lib.hid ⟨hrow5, (((Fr.of_below (fun k => w.heap.size ≤ k) HI2.out.below).alloc _).alloc _ |>.grown hg5 fun g e => .inl (HI2.out.row.lt g e).1).below (Nat.le_refl _) (fun k hk => by omega), HGo.out⟩
            clear hrow5 hg5
            go_wp2_with fail
            go_roundw
            case rel => exact ⟨z, _, rfl, by rw [lastI, if_neg (by simp)], HI5.out⟩
            case measure => simp [intOf]; omega
end Go.Proofs.Ytpiekfkkhgighaa
