/-
  What name.Get answers: what is within quotes, and how many bytes that took. No condition but the sizes that are named.
-/
import Derived.Test.YtpiekfkkhgighaaDoorEsc
import Derived.Test.YtpiekfkkhgighaaDoorRow
import Derived.Laws.IdiomStrings
import Derived.Laws.BytesArg
import Derived.LoopTactic
namespace Go.Proofs.YtpiekfkkhgighaaDoor
open Go.RowKit Go.Maps
set_option maxRecDepth 100000

def encB (c : UInt8) : List Value := [.int .u8 (c.toNat : Int)]
theorem encB_len (c : UInt8) : (encB c).length = 1 := rfl
theorem encB_one (c : UInt8) : ∀ u ∈ encB c, u.oneCell' = true := by
  intro u hu
  simp only [encB, List.mem_singleton] at hu
  subst hu
  rfl
theorem byte_info : ∃ i z, Tryd.prog.info? 5 = some i ∧ i.zero = some z ∧ i.size = 1 ∧ i.bytes = 1 ∧ z.cells.size = 1 := by
  refine ⟨_, _, rfl, rfl, ?_, ?_, ?_⟩ <;> kernel_rfl
theorem Row.string {P : Program} {w : World} {B : Nat} {src dst e : TypeId} (hs : P.underlying src = some (.slice e)) (he : P.underlying e = some (.int .u8)) (hd : P.underlying dst = some .string)
    {v : Value} {l : List UInt8} (h : Row w B e 1 encB v l) : (convert src dst v).run P w = .ok (.string ⟨l.toArray⟩) w := by
  rcases Classical.em (l = []) with rfl | hne
  · obtain ⟨A, cap, rfl⟩ := h.shape
    cases A with
    | none => exact run_convert_bytes_nil w src e hs he _ _ dst hd
    | some a => exact run_convert_bytes_back w src dst e a cap [] hs he hd (fun j hj => by simp at hj)
  · obtain ⟨g, cap, rfl, _, _, _, hc⟩ := h.cells encB_len hne
    refine run_convert_bytes_back w src dst e _ cap l hs he hd (fun j hj => ?_)
    have := (hc j l[j] (List.getElem?_eq_getElem hj) 0 _ rfl).1
    have hplain : (⟨g, 0, none⟩ : Addr).add j = ⟨g, j, none⟩ := by unfold Addr.add; split <;> simp_all
    rw [hplain]
    simpa using this
theorem cell_alloc1 (w : World) (cs : Array Value) (t : TypeId) (i : Nat) (u : Value) (h : cs[i]? = some u) : (w.alloc (.cells cs t)).cell? ⟨w.heap.size, i, none⟩ = some u := by
  rw [World.cell?_alloc_at _ _ _ _ rfl]
  exact h

def getRes : Option (List UInt8 × Nat) → Value
  | some (t, n) => .tuple #[.string ⟨t.toArray⟩, .int .i64 (n : Int), .int .i64 0]
  | none => .tuple #[.string ⟨[].toArray⟩, .int .i64 0, .int .i64 5]
theorem getF_nil (q : UInt8) (f i : Nat) (b : List UInt8) : getF q f [] i b = none := by cases f <;> rfl
theorem coded_bd : ∀ (base : Nat) (l : List UInt8) (n i : Nat), n ≤ 255 → (codedF base l n i).1 ≤ 255 := by
  intro base l
  induction l with
  | nil => intro n i _; exact Nat.zero_le _
  | cons c r ih =>
    intro n i hn
    unfold codedF
    split
    · exact hn
    · split
      · exact Nat.zero_le _
      · split
        · exact Nat.zero_le _
        · exact ih _ _ (by omega)
theorem known_bd (c : UInt8) (n : Nat) (h : escKnown c = some n) : n ≤ 255 := by
  unfold escKnown at h
  (repeat' split at h) <;> first | (simp only [Option.some.injEq] at h; omega) | (cases h)
theorem escapeF_bd (r : List UInt8) : (escapeF r).1 ≤ 255 ∧ (escapeF r).2.1 ≤ r.length := by
  cases r with
  | nil => exact ⟨Nat.zero_le _, Nat.zero_le _⟩
  | cons c r =>
    have hb := coded_bd 16 r 0 0 (by omega)
    have hb2 := coded_bd 8 (c :: r) 0 0 (by omega)
    have hl := codedF_le 16 r
    have hl2 := codedF_le 8 (c :: r)
    cases h : escKnown c with
    | some n =>
      have e : escapeF (c :: r) = (n, 1, true) := by simp only [escapeF, h]
      rw [e]
      exact ⟨known_bd c n h, by simp⟩
    | none =>
      have e : escapeF (c :: r) = if c = 120 then ((codedF 16 r 0 0).1, (codedF 16 r 0 0).2.1 + 1, (codedF 16 r 0 0).2.2)
          else if c = 48 ∧ (r = [] ∨ (isOct (r.headD 0) = false ∧ r.headD 0 ≠ 92)) then (0, 1, true)
          else if isOct c then codedF 8 (c :: r) 0 0 else (0, 0, false) := by rw [escapeF, h]
      rw [e]
      by_cases h1 : c = 120
      · rw [if_pos h1]
        simp only [List.length_cons]
        omega
      rw [if_neg h1]
      by_cases h2 : c = 48 ∧ (r = [] ∨ (isOct (r.headD 0) = false ∧ r.headD 0 ≠ 92))
      · rw [if_pos h2]
        simp only [List.length_cons]
        omega
      rw [if_neg h2]
      by_cases h3 : isOct c = true
      · rw [if_pos h3]
        exact ⟨hb2, hl2⟩
      · rw [if_neg h3]
        exact ⟨Nat.zero_le _, Nat.zero_le _⟩
section
variable {q c : UInt8} {f i k : Nat} {l r b : List UInt8}
theorem getF_close (hf : r.length < f) (h : r.head? ≠ some c) : getF c f (c :: r) i b = some (b, i + 1) := by rw [getQ_step _ _ _ _ _ _ hf, if_pos rfl, if_neg h]
theorem getF_twice (hf : r.length < f) (h : r.head? = some c) : getF c f (c :: r) i b = getF c f r.tail (i + 2) (b ++ [c]) := by rw [getQ_step _ _ _ _ _ _ hf, if_pos rfl, if_pos h]
theorem getF_ten (hf : r.length < f) (h : (10 : UInt8) ≠ q) : getF q f (10 :: r) i b = none := by rw [getQ_step _ _ _ _ _ _ hf, if_neg h, if_pos rfl]
theorem getF_plain (hf : r.length < f) (h : c ≠ q) (h2 : c ≠ 10) (h3 : c ≠ 92) : getF q f (c :: r) i b = getF q f r (i + 1) (b ++ [c]) := by rw [getQ_step _ _ _ _ _ _ hf, if_neg h, if_neg h2, if_pos h3]
theorem getF_slash (hf : r.length < f) (h : (92 : UInt8) ≠ q) : getF q f (92 :: r) i b = if r = [] then none else if r.head? = some 10 then getF q f r.tail (i + 2) b
    else if (escapeF r).2.2 then getF q f (r.drop (escapeF r).2.1) (i + 1 + (escapeF r).2.1) (b ++ [UInt8.ofNat (escapeF r).1]) else none := by
  rw [getQ_step _ _ _ _ _ _ hf, if_neg h, if_neg (by decide), if_neg (by decide)]
theorem head_drop (l : List UInt8) (k : Nat) : (l.drop k).head? = l[k]? := by rw [List.head?_drop]
end

/-- What holds at each round's head. -/
structure GetInv (w1 : World) (q : UInt8) (l : List UInt8) (R : Option (List UInt8 × Nat)) (bm : Nat) (k : Nat) (v : Value) (acc : List UInt8) (wr : World) : Prop where
  row : Row wr w1.heap.size 5 1 encB v acc
  below : Below w1.heap.size w1 wr
  map : MapAt wr bm ekB evN escL
  acc_le : acc.length ≤ k
  ans : getF q l.length (l.drop k) k acc = R
theorem GetInv.step {w1 : World} {q : UInt8} {l : List UInt8} {R : Option (List UInt8 × Nat)} {bm k k' : Nat} {v v' : Value} {acc : List UInt8} {wr w' : World} {c : UInt8} {o : Obj} (h : GetInv w1 q l R bm k v acc wr) (hbm : bm < w1.heap.size)
    (hr : Row w' w1.heap.size 5 1 encB v' (acc ++ [c])) (hg : (wr.alloc o).grownBy w' v.ownBlock) (hk : k < k') (ha : getF q l.length (l.drop k') k' (acc ++ [c]) = R) : GetInv w1 q l R bm k' v' (acc ++ [c]) w' := by
  have hs := h.below.size
  have hlow : ∀ g, v.ownBlock = some g → w1.heap.size ≤ g := fun g e => (h.row.lt g e).1
  have hb : Below w1.heap.size w1 w' := by
    refine ⟨hg.os.trans h.below.os, hg.tape.trans h.below.tape, hg.output.trans h.below.output, ?_, fun j hj => ?_⟩
    · have := hg.size
      simp at this
      omega
    · rw [hg.block j (by simp; omega) (fun e => by have := hlow j e.symm; omega), Below.heap_alloc _ _ j (by omega)]
      exact h.below.block j hj
  refine ⟨hr, hb, ?_, ?_, ha⟩
  · exact h.map.keep (by rw [hb.block bm hbm, h.below.block bm hbm])
  · have := h.acc_le
    rw [List.length_append]
    simp
    omega

set_option maxHeartbeats 4000000 in
theorem get_any (w : World) (l : List UInt8) (q : UInt8) (qi : Int) (hq : qi = (q.toNat : Int)) (hn : (l.length : Int) ≤ 1000000) :
    Calls Tryd.prog 47 #[.string ⟨l.toArray⟩, .int .u8 qi] w fun e w' => e = .returned (getRes (getQ q l)) ∧ Below w.heap.size w w' := by
  subst hq
  generalize hR : getQ q l = R
  have HR := Lib.hid hR
  clear hR
  obtain ⟨i, z, hi, hz, hsi, hby, hzs⟩ := byte_info
  go_enter Tryd.func47, Tryd.ntmps47
  go_wp2_with fail
  refine (escapes_any w).mono ?_
  rintro e w1 ⟨bm, rfl, hM, hbm, hb1⟩
  have hbm1 := hM.lt
  have HI0 : Hid (GetInv w1 q l R bm 0 (.slice none 0 0) [] w1) := ⟨Row.nil _ _ _ _ _, Below.refl _ _, hM, Nat.zero_le _, HR.out⟩
  have HB1 := Lib.hid hb1
  clear hM hb1 HR
  go_wp2_with fail
  go_loopw [7, 9] (fun v i wr => ∃ (k : Nat) (acc : List UInt8), k ≤ l.length ∧ i = .int .i64 k ∧ GetInv w1 q l R bm k v acc wr) (fun _ i _ => l.length - (intOf i).toNat)
  case atStart => exact ⟨0, [], Nat.zero_le _, rfl, HI0.out⟩
  case round =>
    obtain ⟨k, acc, hk, rfl, hI⟩ := hrel
    have hacc := hI.acc_le
    have hwr := hI.below.size
    have HI := Lib.hid hI
    clear hI HI0
    by_cases hlt : k < l.length
    · obtain ⟨c, hd, hx, -⟩ := byte_at l k hlt
      have hlt' : (k : Int) < (l.length : Int) := by omega
      have hf : (l.drop (k + 1)).length < l.length := by rw [List.length_drop]; omega
      have ha := HI.out.ans
      rw [hd] at ha
      have HA := Lib.hid ha
      have hhd := head_drop l (k + 1)
      have HHD := Lib.hid hhd
      clear ha hd hhd
      by_cases h1 : c = q
      · subst h1
        by_cases h2 : (k : Int) + 1 = l.length
        · have t2 : ((k : Int) + 1 == (l.length : Int)) = true := by rw [h2]; simp
          have hst := HI.out.row.string (P := Tryd.prog) (dst := 9) Tryd.underlying93 Tryd.underlying5 Tryd.underlying9
          have ha := HA.out
          rw [getF_close hf (by rw [HHD.out, List.getElem?_eq_none (by omega)]; simp)] at ha
          have HA2 := Lib.hid ha
          clear ha HA h2 HHD
          go_wp2_with fail
          go_ret3
          rw [← HA2.out]
          exact ⟨by simp [getRes], HB1.out.trans (HI.out.below.mono HB1.out.size)⟩
        · have t2 : ((k : Int) + 1 == (l.length : Int)) = false := beq_eq_false_iff_ne.2 h2
          have hlt2 : k + 1 < l.length := by omega
          have hlt2' : (k : Int) + 1 < (l.length : Int) := by omega
          obtain ⟨d, hd1, hx1, hg1⟩ := byte_at l (k + 1) hlt2
          rw [hg1] at HHD
          have HD1 := Lib.hid hd1
          clear hd1 hg1 h2
          by_cases h3 : d = c
          · subst h3
            have t3 : ((d.toNat : Int) != (d.toNat : Int)) = false := by simp
            have ha := HA.out
            rw [getF_twice hf HHD.out, List.tail_drop] at ha
            have HA1 := Lib.hid ha
            clear ha HA HHD HD1
            go_wp2_with (at_builtin; refine wpList_row rfl _ _ 93 rfl _ w1.heap.size 5 i z 1 1 encB Tryd.underlying93 hi hz hsi hby hzs (by decide) encB_len encB_one _ acc d rfl (HI.out.row.alloc _) _ _ rfl (fun j u hu => cell_alloc1 _ _ _ j u (by simpa [encB] using hu)) (by unfold maxLen; omega) (by omega) (Nat.le_trans hwr (by simp)) ?_)
            intro v' w5 hrow5 hg5
            have HI5 := Lib.hid (HI.out.step (c := d) (k' := k + 2) hbm1 hrow5 hg5 (by omega) HA1.out)
            clear hrow5 hg5
            go_wp2_with fail
            go_roundw
            case rel => exact ⟨k + 2, _, by omega, by go_num, HI5.out⟩
            case measure => simp [intOf]; omega
          · have t3 : ((d.toNat : Int) == (c.toNat : Int)) = false := byte_ne h3
            have t3' : ((d.toNat : Int) != (c.toNat : Int)) = true := by rw [bne, t3]; rfl
            have hst := HI.out.row.string (P := Tryd.prog) (dst := 9) Tryd.underlying93 Tryd.underlying5 Tryd.underlying9
            have ha := HA.out
            rw [getF_close hf (by rw [HHD.out]; simpa using h3)] at ha
            have HA2 := Lib.hid ha
            clear ha HA HHD HD1 h3
            go_wp2_with fail
            go_ret3
            rw [← HA2.out]
            exact ⟨by simp [getRes], HB1.out.trans (HI.out.below.mono HB1.out.size)⟩
      · have t1 : ((c.toNat : Int) == (q.toNat : Int)) = false := byte_ne h1
        by_cases h10 : c = 10
        · subst h10
          have ha := HA.out
          rw [getF_ten hf h1] at ha
          have HA2 := Lib.hid ha
          have t1' : ((10 : Int) == (q.toNat : Int)) = false := t1
          clear ha HA h1 t1
          go_wp2_with fail
          go_ret3
          rw [← HA2.out]
          exact ⟨rfl, HB1.out.trans (HI.out.below.mono HB1.out.size)⟩
        have t10 : ((c.toNat : Int) == 10) = false := byte_ne h10
        by_cases h92 : c = 92
        · subst h92
          have hq92 : ((92 : Int) == (q.toNat : Int)) = false := t1
          have ha := HA.out
          rw [getF_slash hf h1] at ha
          have HA' := Lib.hid ha
          clear ha HA h1 h10 t10 t1
          by_cases h2 : (k : Int) + 1 = l.length
          · have t2 : ((k : Int) + 1 == (l.length : Int)) = true := by rw [h2]; simp
            have ha := HA'.out
            rw [if_pos (List.drop_eq_nil_of_le (by omega))] at ha
            have HA2 := Lib.hid ha
            clear ha HA' h2 HHD
            go_wp2_with fail
            go_ret3
            rw [← HA2.out]
            exact ⟨rfl, HB1.out.trans (HI.out.below.mono HB1.out.size)⟩
          have t2 : ((k : Int) + 1 == (l.length : Int)) = false := beq_eq_false_iff_ne.2 h2
          have hlt2 : k + 1 < l.length := by omega
          have hlt2' : (k : Int) + 1 < (l.length : Int) := by omega
          obtain ⟨d, hd1, hx1, hg1⟩ := byte_at l (k + 1) hlt2
          rw [hg1] at HHD
          have ha := HA'.out
          rw [if_neg (by rw [hd1]; simp), HHD.out, List.tail_drop] at ha
          have HA2 := Lib.hid ha
          have HD1 := Lib.hid hd1
          clear hd1 hg1 h2 ha HA' HHD
          by_cases h3 : d = 10
          · have t3 : ((d.toNat : Int) == 10) = true := byte_eq h3
            have ha := HA2.out
            rw [if_pos (by rw [h3])] at ha
            have HI5 : Hid (GetInv w1 q l R bm (k + 2) _ acc wr) := ⟨HI.out.row, HI.out.below, HI.out.map, by omega, ha⟩
            clear ha HA2 h3
            go_wp2_with fail
            go_roundw
            case rel => exact ⟨k + 2, _, by omega, by go_num, HI5.out⟩
            case measure => simp [intOf]; omega
          · have t3 : ((d.toNat : Int) == 10) = false := byte_ne h3
            have ha := HA2.out
            rw [if_neg (by simpa using h3)] at ha
            have HA3 := Lib.hid ha
            clear ha HA2 h3
            have hsl : (⟨l.toArray⟩ : ByteArray).extract (k + 1) l.length = ⟨(l.drop (k + 1)).toArray⟩ := slice_end l (k + 1)
            go_wp2_with fail
            refine (escape_any _ (l.drop (k + 1)) d _ HD1.out bm HI.out.map (by rw [List.length_drop]; omega)).mono ?_
            rintro e w' ⟨rfl, rfl⟩
            have hbd := escapeF_bd (l.drop (k + 1))
            rw [List.length_drop] at hbd
            rw [List.drop_drop] at HA3
            generalize escapeF (l.drop (k + 1)) = E at *
            obtain ⟨n, t, o⟩ := E
            simp only at HA3 hbd ⊢
            obtain ⟨hb1, hb2⟩ := hbd
            clear hsl HD1
            cases o
            · have ha := HA3.out
              rw [if_neg (by simp)] at ha
              have HA4 := Lib.hid ha
              clear ha HA3
              go_wp2_with fail
              go_ret3
              rw [← HA4.out]
              exact ⟨rfl, HB1.out.trans (HI.out.below.mono HB1.out.size)⟩
            · have ha := HA3.out
              rw [if_pos rfl] at ha
              have HA1 := Lib.hid ha
              clear ha HA3
              have hn8 : (n : Int) ≤ 255 := by omega
              have ht8 : (t : Int) ≤ 1000000 := by omega
              have hnb : (n : Int) = ((UInt8.ofNat n).toNat : Int) := by rw [UInt8.toNat_ofNat']; omega
              generalize UInt8.ofNat n = m at *
              have HNB := Lib.hid hnb
              clear hnb
              go_wp2_with (at_builtin; refine wpList_row rfl _ _ 93 rfl _ w1.heap.size 5 i z 1 1 encB Tryd.underlying93 hi hz hsi hby hzs (by decide) encB_len encB_one _ acc m rfl (HI.out.row.alloc _) _ _ rfl (fun j u hu => cell_alloc1 _ _ _ j u (by rw [HNB.out]; simpa [encB] using hu)) (by unfold maxLen; omega) (by omega) (Nat.le_trans hwr (by simp)) ?_)
              intro v' w5 hrow5 hg5
              have HI5 := Lib.hid (HI.out.step (c := m) (k' := k + 1 + t) hbm1 hrow5 hg5 (by omega) HA1.out)
              clear hrow5 hg5
              go_wp2_with fail
              go_roundw
              case rel => exact ⟨k + 1 + t, _, by omega, by go_num, HI5.out⟩
              case measure => simp [intOf]; omega
        · have t92 : ((c.toNat : Int) == 92) = false := byte_ne h92
          have t92' : ((c.toNat : Int) != 92) = true := by rw [bne, t92]; rfl
          have ha := HA.out
          rw [getF_plain hf h1 h10 h92] at ha
          have HA1 := Lib.hid ha
          clear ha HA h1 h10 h92 HHD
          go_wp2_with (at_builtin; refine wpList_row rfl _ _ 93 rfl _ w1.heap.size 5 i z 1 1 encB Tryd.underlying93 hi hz hsi hby hzs (by decide) encB_len encB_one _ acc c rfl (HI.out.row.alloc _) _ _ rfl (fun j u hu => cell_alloc1 _ _ _ j u (by simpa [encB] using hu)) (by unfold maxLen; omega) (by omega) (Nat.le_trans hwr (by simp)) ?_)
          intro v' w5 hrow5 hg5
          have HI5 := Lib.hid (HI.out.step (c := c) (k' := k + 1) hbm1 hrow5 hg5 (by omega) HA1.out)
          clear hrow5 hg5
          go_wp2_with fail
          go_roundw
          case rel => exact ⟨k + 1, _, hlt, by go_num, HI5.out⟩
          case measure => simp [intOf]; omega
    · have hkn : k = l.length := by omega
      have ha := HI.out.ans
      rw [List.drop_eq_nil_of_le (by omega), getF_nil] at ha
      have HA := Lib.hid ha
      clear ha hkn
      go_wp2_with fail
      go_ret3
      rw [← HA.out]
      exact ⟨rfl, HB1.out.trans (HI.out.below.mono HB1.out.size)⟩
end Go.Proofs.YtpiekfkkhgighaaDoor
