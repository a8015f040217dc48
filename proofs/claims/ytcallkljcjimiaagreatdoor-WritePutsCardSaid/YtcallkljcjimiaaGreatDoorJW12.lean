import Derived.Test.YtcallkljcjimiaaGreatDoorJW11
import Derived.Laws.IdiomStrings
import Derived.Laws.BytesArg
import Derived.LoopTactic
import Derived.LoopN
namespace Go.Proofs.YtcallkljcjimiaaGreatDoor
open Go.RowKit Go.Maps
set_option maxRecDepth 100000
def encBy (c : UInt8) : List Value := [.int .u8 (c.toNat : Int)]
theorem encB_len (c : UInt8) : (encBy c).length = 1 := rfl
theorem encBy_one (c : UInt8) : ∀ u ∈ encBy c, u.oneCell' = true := by
 intro u hu
 simp only [encBy, List.mem_singleton] at hu
 subst hu
 rfl
theorem byte_info : ∃ i z, Tryz.prog.info? 5 = some i ∧ i.zero = some z ∧ i.size = 1 ∧ i.bytes = 1 ∧ z.cells.size = 1 := by
 refine ⟨_, _, rfl, rfl, ?_, ?_, ?_⟩ <;> kernel_rfl
theorem Row.string {P : Program} {w : World} {B : Nat} {src dst e : TypeId} (hs : P.underlying src = some (.slice e)) (he : P.underlying e = some (.int .u8)) (hd : P.underlying dst = some .string)
    {v : Value} {l : List UInt8} (h : Row w B e 1 encBy v l) : (convert src dst v).run P w = .ok (.string ⟨l.toArray⟩) w := by
 rcases Classical.em (l = []) with rfl | hne
 ·obtain ⟨A, cap, rfl⟩ := h.shape
  cases A with
  | none => exact run_convert_bytes_nil w src e hs he _ _ dst hd
  | some a => exact run_convert_bytes_back w src dst e a cap [] hs he hd (fun j hj => by simp at hj)
 ·obtain ⟨g, cap, rfl, _, _, _, hc⟩ := h.cells encB_len hne
  refine run_convert_bytes_back w src dst e _ cap l hs he hd (fun j hj => ?_)
  have := (hc j l[j] (List.getElem?_eq_getElem hj) 0 _ rfl).1
  have hplain : (⟨g, 0, none⟩ : Addr).add j = ⟨g, j, none⟩ := by unfold Addr.add; split <;> simp_all
  rw [hplain]
  simpa using this
theorem cell_alloc1 (w : World) (cs : Array Value) (t : TypeId) (i : Nat) (u : Value) (h : cs[i]? = some u) : (w.alloc (.cells cs t)).cell? ⟨w.heap.size, i, none⟩ = some u := by
 rw [World.cell?_alloc_at _ _ _ _ rfl]
 exact h
def getRes : Option (List UInt8 × Nat) → Value
 | some (t, n) => .tuple #[.string ⟨t.toArray⟩, .int .i64 (n : Int), .int .i64 0]
 | none => .tuple #[.string ⟨[].toArray⟩, .int .i64 0, .int .i64 5]
theorem getF_nil (q : UInt8) (f i : Nat) (b : List UInt8) : getF q f [] i b = none := by cases f <;> rfl
theorem coded_bd : ∀ (base : Nat) (l : List UInt8) (n i : Nat), n ≤ 255 → (codedF base l n i).1 ≤ 255 := by
 intro base l
 induction l with
 | nil => intro n i _; exact Nat.zero_le _
 | cons c r ih =>
  intro n i hn
  unfold codedF
  split
  ·exact hn
  ·split
   ·exact Nat.zero_le _
   ·split
    ·exact Nat.zero_le _
    ·exact ih _ _ (by omega)
theorem known_bd (c : UInt8) (n : Nat) (h : escKnown c = some n) : n ≤ 255 := by
 unfold escKnown at h
 (repeat' split at h) <;> first | (simp only [Option.some.injEq] at h; omega) | (cases h)
theorem escapeF_bd (r : List UInt8) : (escapeF r).1 ≤ 255 ∧ (escapeF r).2.1 ≤ r.length := by
 cases r with
 | nil => exact ⟨Nat.zero_le _, Nat.zero_le _⟩
 | cons c r =>
  have hb := coded_bd 16 r 0 0 (by omega)
  have hb2 := coded_bd 8 (c :: r) 0 0 (by omega)
  have hl := codedF_le 16 r
  have hl2 := codedF_le 8 (c :: r)
  cases h : escKnown c with
  | some n =>
   have e : escapeF (c :: r) = (n, 1, true) := by simp only [escapeF, h]
   rw [e]
   exact ⟨known_bd c n h, by simp⟩
  | none =>
   have e : escapeF (c :: r) = if c = 120 then ((codedF 16 r 0 0).1, (codedF 16 r 0 0).2.1 + 1, (codedF 16 r 0 0).2.2)
       else if c = 48 ∧ (r = [] ∨ (isOct (r.headD 0) = false ∧ r.headD 0 ≠ 92)) then (0, 1, true)
       else if isOct c then codedF 8 (c :: r) 0 0 else (0, 0, false) := by rw [escapeF, h]
   rw [e]
   by_cases h1 : c = 120
   ·rw [if_pos h1]
    simp only [List.length_cons]
    omega
   rw [if_neg h1]
   by_cases h2 : c = 48 ∧ (r = [] ∨ (isOct (r.headD 0) = false ∧ r.headD 0 ≠ 92))
   ·rw [if_pos h2]
    simp only [List.length_cons]
    omega
   rw [if_neg h2]
   by_cases h3 : isOct c = true
   ·rw [if_pos h3]
    exact ⟨hb2, hl2⟩
   ·rw [if_neg h3]
    exact ⟨Nat.zero_le _, Nat.zero_le _⟩
section
variable {q c : UInt8} {f i k : Nat} {l r b : List UInt8}
theorem getF_close (hf : r.length < f) (h : r.head? ≠ some c) : getF c f (c :: r) i b = some (b, i + 1) := by rw [getQ_step _ _ _ _ _ _ hf, if_pos rfl, if_neg h]
theorem getF_twice (hf : r.length < f) (h : r.head? = some c) : getF c f (c :: r) i b = getF c f r.tail (i + 2) (b ++ [c]) := by rw [getQ_step _ _ _ _ _ _ hf, if_pos rfl, if_pos h]
theorem getF_ten (hf : r.length < f) (h : (10 : UInt8) ≠ q) : getF q f (10 :: r) i b = none := by rw [getQ_step _ _ _ _ _ _ hf, if_neg h, if_pos rfl]
theorem getF_plain (hf : r.length < f) (h : c ≠ q) (h2 : c ≠ 10) (h3 : c ≠ 92) : getF q f (c :: r) i b = getF q f r (i + 1) (b ++ [c]) := by rw [getQ_step _ _ _ _ _ _ hf, if_neg h, if_neg h2, if_pos h3]
theorem getF_slash (hf : r.length < f) (h : (92 : UInt8) ≠ q) : getF q f (92 :: r) i b = if r = [] then none else if r.head? = some 10 then getF q f r.tail (i + 2) b
    else if (escapeF r).2.2 then getF q f (r.drop (escapeF r).2.1) (i + 1 + (escapeF r).2.1) (b ++ [UInt8.ofNat (escapeF r).1]) else none := by
 rw [getQ_step _ _ _ _ _ _ hf, if_neg h, if_neg (by decide), if_neg (by decide)]
theorem head_drop (l : List UInt8) (k : Nat) : (l.drop k).head? = l[k]? := by rw [List.head?_drop]
end
structure GetInv (w1 : World) (q : UInt8) (l : List UInt8) (R : Option (List UInt8 × Nat)) (bm : Nat) (k : Nat) (v : Value) (acc : List UInt8) (wr : World) : Prop where
 row : Row wr w1.heap.size 5 1 encBy v acc
 below : Below w1.heap.size w1 wr
 map : MapAt wr bm ekB evN escL
 acc_le : acc.length ≤ k
 ans : getF q l.length (l.drop k) k acc = R
theorem GetInv.step {w1 : World} {q : UInt8} {l : List UInt8} {R : Option (List UInt8 × Nat)} {bm k k' : Nat} {v v' : Value} {acc : List UInt8} {wr w' : World} {c : UInt8} {o : Obj} (h : GetInv w1 q l R bm k v acc wr) (hbm : bm < w1.heap.size)
    (hr : Row w' w1.heap.size 5 1 encBy v' (acc ++ [c])) (hg : (wr.alloc o).grownBy w' v.ownBlock) (hk : k < k') (ha : getF q l.length (l.drop k') k' (acc ++ [c]) = R) : GetInv w1 q l R bm k' v' (acc ++ [c]) w' := by
 have hs := h.below.size
 have hlow : ∀ g, v.ownBlock = some g → w1.heap.size ≤ g := fun g e => (h.row.lt g e).1
 have hb : Below w1.heap.size w1 w' := by
  refine ⟨hg.os.trans h.below.os, hg.tape.trans h.below.tape, hg.output.trans h.below.output, ?_, fun j hj => ?_⟩
  ·have := hg.size
   simp at this
   omega
  ·rw [hg.block j (by simp; omega) (fun e => by have := hlow j e.symm; omega), Below.heap_alloc _ _ j (by omega)]
   exact h.below.block j hj
 refine ⟨hr, hb, ?_, ?_, ha⟩
 ·exact h.map.keep (by rw [hb.block bm hbm, h.below.block bm hbm])
 ·have := h.acc_le
  rw [List.length_append]
  simp
  omega
set_option maxHeartbeats 4000000 in
theorem get_any (w : World) (l : List UInt8) (q : UInt8) (qi : Int) (hq : qi = (q.toNat : Int)) (hn : (l.length : Int) ≤ 1000000) :
    Calls Tryz.prog 85 #[.string ⟨l.toArray⟩, .int .u8 qi] w fun e w' => e = .returned (getRes (getQ q l)) ∧ Below w.heap.size w w' := by
 subst hq
 generalize hR : getQ q l = R
 have HR := Lib.hid hR
 clear hR
 obtain ⟨i, z, hi, hz, hsi, hby, hzs⟩ := byte_info
 go_enter Tryz.func85, Tryz.ntmps85
 go_wp2_with fail
 refine (escapes_any w).mono ?_
 rintro e w1 ⟨bm, rfl, hM, hbm, hb1⟩
 have hbm1 := hM.lt
 have HI0 : Hid (GetInv w1 q l R bm 0 (.slice none 0 0) [] w1) := ⟨Row.nil _ _ _ _ _, Below.refl _ _, hM, Nat.zero_le _, HR.out⟩
 have HB1 := Lib.hid hb1
 clear hM hb1 HR
 go_wp2_with fail
 go_loopw [7, 9] (fun v i wr => ∃ (k : Nat) (acc : List UInt8), k ≤ l.length ∧ i = .int .i64 k ∧ GetInv w1 q l R bm k v acc wr) (fun _ i _ => l.length - (intOf i).toNat)
 case atStart => exact ⟨0, [], Nat.zero_le _, rfl, HI0.out⟩
 case round =>
  obtain ⟨k, acc, hk, rfl, hI⟩ := hrel
  have hacc := hI.acc_le
  have hwr := hI.below.size
  have HI := Lib.hid hI
  clear hI HI0
  by_cases hlt : k < l.length
  ·obtain ⟨c, hd, hx, -⟩ := byte_at l k hlt
   have hlt' : (k : Int) < (l.length : Int) := by omega
   have hf : (l.drop (k + 1)).length < l.length := by rw [List.length_drop]; omega
   have ha := HI.out.ans
   rw [hd] at ha
   have HA := Lib.hid ha
   have hhd := head_drop l (k + 1)
   have HHD := Lib.hid hhd
   clear ha hd hhd
   by_cases h1 : c = q
   ·subst h1
    by_cases h2 : (k : Int) + 1 = l.length
    ·have t2 : ((k : Int) + 1 == (l.length : Int)) = true := by rw [h2]; simp
     have hst := HI.out.row.string (P := Tryz.prog) (dst := 9) Tryz.underlying72 Tryz.underlying5 Tryz.underlying9
     have ha := HA.out
     rw [getF_close hf (by rw [HHD.out, List.getElem?_eq_none (by omega)]; simp)] at ha
     have HA2 := Lib.hid ha
     clear ha HA h2 HHD
     go_wp2_with fail
     go_ret3
     rw [← HA2.out]
     exact ⟨by simp [getRes], HB1.out.trans (HI.out.below.mono HB1.out.size)⟩
    ·have t2 : ((k : Int) + 1 == (l.length : Int)) = false := beq_eq_false_iff_ne.2 h2
     have hlt2 : k + 1 < l.length := by omega
     have hlt2' : (k : Int) + 1 < (l.length : Int) := by omega
     obtain ⟨d, hd1, hx1, hg1⟩ := byte_at l (k + 1) hlt2
     rw [hg1] at HHD
     have HD1 := Lib.hid hd1
     clear hd1 hg1 h2
     by_cases h3 : d = c
     ·subst h3
      have t3 : ((d.toNat : Int) != (d.toNat : Int)) = false := by simp
      have ha := HA.out
      rw [getF_twice hf HHD.out, List.tail_drop] at ha
      have HA1 := Lib.hid ha
      clear ha HA HHD HD1
      go_wp2_with (at_builtin; refine wpList_row rfl _ _ 72 rfl _ w1.heap.size 5 i z 1 1 encBy Tryz.underlying72 hi hz hsi hby hzs (by decide) encB_len encBy_one _ acc d rfl (HI.out.row.alloc _) _ _ rfl (fun j u hu => cell_alloc1 _ _ _ j u (by simpa [encBy] using hu)) (by unfold maxLen; omega) (by omega) (Nat.le_trans hwr (by simp)) ?_)
      intro v' w5 hrow5 hg5
      have HI5 := Lib.hid (HI.out.step (c := d) (k' := k + 2) hbm1 hrow5 hg5 (by omega) HA1.out)
      clear hrow5 hg5
      go_wp2_with fail
      go_roundw
      case rel => exact ⟨k + 2, _, by omega, by go_num, HI5.out⟩
      case measure => simp [intOf]; omega
     ·have t3 : ((d.toNat : Int) == (c.toNat : Int)) = false := byte_ne h3
      have t3' : ((d.toNat : Int) != (c.toNat : Int)) = true := by rw [bne, t3]; rfl
      have hst := HI.out.row.string (P := Tryz.prog) (dst := 9) Tryz.underlying72 Tryz.underlying5 Tryz.underlying9
      have ha := HA.out
      rw [getF_close hf (by rw [HHD.out]; simpa using h3)] at ha
      have HA2 := Lib.hid ha
      clear ha HA HHD HD1 h3
      go_wp2_with fail
      go_ret3
      rw [← HA2.out]
      exact ⟨by simp [getRes], HB1.out.trans (HI.out.below.mono HB1.out.size)⟩
   ·have t1 : ((c.toNat : Int) == (q.toNat : Int)) = false := byte_ne h1
    by_cases h10 : c = 10
    ·subst h10
     have ha := HA.out
     rw [getF_ten hf h1] at ha
     have HA2 := Lib.hid ha
     have t1' : ((10 : Int) == (q.toNat : Int)) = false := t1
     clear ha HA h1 t1
     go_wp2_with fail
     go_ret3
     rw [← HA2.out]
     exact ⟨rfl, HB1.out.trans (HI.out.below.mono HB1.out.size)⟩
    have t10 : ((c.toNat : Int) == 10) = false := byte_ne h10
    by_cases h92 : c = 92
    ·subst h92
     have hq92 : ((92 : Int) == (q.toNat : Int)) = false := t1
     have ha := HA.out
     rw [getF_slash hf h1] at ha
     have HA' := Lib.hid ha
     clear ha HA h1 h10 t10 t1
     by_cases h2 : (k : Int) + 1 = l.length
     ·have t2 : ((k : Int) + 1 == (l.length : Int)) = true := by rw [h2]; simp
      have ha := HA'.out
      rw [if_pos (List.drop_eq_nil_of_le (by omega))] at ha
      have HA2 := Lib.hid ha
      clear ha HA' h2 HHD
      go_wp2_with fail
      go_ret3
      rw [← HA2.out]
      exact ⟨rfl, HB1.out.trans (HI.out.below.mono HB1.out.size)⟩
     have t2 : ((k : Int) + 1 == (l.length : Int)) = false := beq_eq_false_iff_ne.2 h2
     have hlt2 : k + 1 < l.length := by omega
     have hlt2' : (k : Int) + 1 < (l.length : Int) := by omega
     obtain ⟨d, hd1, hx1, hg1⟩ := byte_at l (k + 1) hlt2
     rw [hg1] at HHD
     have ha := HA'.out
     rw [if_neg (by rw [hd1]; simp), HHD.out, List.tail_drop] at ha
     have HA2 := Lib.hid ha
     have HD1 := Lib.hid hd1
     clear hd1 hg1 h2 ha HA' HHD
     by_cases h3 : d = 10
     ·have t3 : ((d.toNat : Int) == 10) = true := byte_eq h3
      have ha := HA2.out
      rw [if_pos (by rw [h3])] at ha
      have HI5 : Hid (GetInv w1 q l R bm (k + 2) _ acc wr) := ⟨HI.out.row, HI.out.below, HI.out.map, by omega, ha⟩
      clear ha HA2 h3
      go_wp2_with fail
      go_roundw
      case rel => exact ⟨k + 2, _, by omega, by go_num, HI5.out⟩
      case measure => simp [intOf]; omega
     ·have t3 : ((d.toNat : Int) == 10) = false := byte_ne h3
      have ha := HA2.out
      rw [if_neg (by simpa using h3)] at ha
      have HA3 := Lib.hid ha
      clear ha HA2 h3
      have hsl : (⟨l.toArray⟩ : ByteArray).extract (k + 1) l.length = ⟨(l.drop (k + 1)).toArray⟩ := slice_end l (k + 1)
      go_wp2_with fail
      refine (escape_any _ (l.drop (k + 1)) d _ HD1.out bm HI.out.map (by rw [List.length_drop]; omega)).mono ?_
      rintro e w' ⟨rfl, rfl⟩
      have hbd := escapeF_bd (l.drop (k + 1))
      rw [List.length_drop] at hbd
      rw [List.drop_drop] at HA3
      generalize escapeF (l.drop (k + 1)) = E at *
      obtain ⟨n, t, o⟩ := E
      simp only at HA3 hbd ⊢
      obtain ⟨hb1, hb2⟩ := hbd
      clear hsl HD1
      cases o
      ·have ha := HA3.out
       rw [if_neg (by simp)] at ha
       have HA4 := Lib.hid ha
       clear ha HA3
       go_wp2_with fail
       go_ret3
       rw [← HA4.out]
       exact ⟨rfl, HB1.out.trans (HI.out.below.mono HB1.out.size)⟩
      ·have ha := HA3.out
       rw [if_pos rfl] at ha
       have HA1 := Lib.hid ha
       clear ha HA3
       have hn8 : (n : Int) ≤ 255 := by omega
       have ht8 : (t : Int) ≤ 1000000 := by omega
       have hnb : (n : Int) = ((UInt8.ofNat n).toNat : Int) := by rw [UInt8.toNat_ofNat']; omega
       generalize UInt8.ofNat n = m at *
       have HNB := Lib.hid hnb
       clear hnb
       go_wp2_with (at_builtin; refine wpList_row rfl _ _ 72 rfl _ w1.heap.size 5 i z 1 1 encBy Tryz.underlying72 hi hz hsi hby hzs (by decide) encB_len encBy_one _ acc m rfl (HI.out.row.alloc _) _ _ rfl (fun j u hu => cell_alloc1 _ _ _ j u (by rw [HNB.out]; simpa [encBy] using hu)) (by unfold maxLen; omega) (by omega) (Nat.le_trans hwr (by simp)) ?_)
       intro v' w5 hrow5 hg5
       have HI5 := Lib.hid (HI.out.step (c := m) (k' := k + 1 + t) hbm1 hrow5 hg5 (by omega) HA1.out)
       clear hrow5 hg5
       go_wp2_with fail
       go_roundw
       case rel => exact ⟨k + 1 + t, _, by omega, by go_num, HI5.out⟩
       case measure => simp [intOf]; omega
    ·have t92 : ((c.toNat : Int) == 92) = false := byte_ne h92
     have t92' : ((c.toNat : Int) != 92) = true := by rw [bne, t92]; rfl
     have ha := HA.out
     rw [getF_plain hf h1 h10 h92] at ha
     have HA1 := Lib.hid ha
     clear ha HA h1 h10 h92 HHD
     go_wp2_with (at_builtin; refine wpList_row rfl _ _ 72 rfl _ w1.heap.size 5 i z 1 1 encBy Tryz.underlying72 hi hz hsi hby hzs (by decide) encB_len encBy_one _ acc c rfl (HI.out.row.alloc _) _ _ rfl (fun j u hu => cell_alloc1 _ _ _ j u (by simpa [encBy] using hu)) (by unfold maxLen; omega) (by omega) (Nat.le_trans hwr (by simp)) ?_)
     intro v' w5 hrow5 hg5
     have HI5 := Lib.hid (HI.out.step (c := c) (k' := k + 1) hbm1 hrow5 hg5 (by omega) HA1.out)
     clear hrow5 hg5
     go_wp2_with fail
     go_roundw
     case rel => exact ⟨k + 1, _, hlt, by go_num, HI5.out⟩
     case measure => simp [intOf]; omega
  ·have hkn : k = l.length := by omega
   have ha := HI.out.ans
   rw [List.drop_eq_nil_of_le (by omega), getF_nil] at ha
   have HA := Lib.hid ha
   clear ha hkn
   go_wp2_with fail
   go_ret3
   rw [← HA.out]
   exact ⟨rfl, HB1.out.trans (HI.out.below.mono HB1.out.size)⟩
end Go.Proofs.YtcallkljcjimiaaGreatDoor
namespace Go.Proofs.YtcallkljcjimiaaGreatDoor
open Go.RowKit
set_option maxRecDepth 100000
theorem low_bit : bits BinOp.and .u64 16 18446744073709551600 = 16 := by decide +kernel
set_option maxHeartbeats 1000000 in
theorem tz64_any (w : World) (ht : w.cell? ⟨6, 15, none⟩ = some (.int .u8 4)) :
    Calls Tryz.prog 164 #[.int .u64 16] w fun e w' => e = .returned (.int .i64 4) ∧ w = w' := by
 have hl := low_bit
 have hw : IntKind.u64.wrap (-16) = 18446744073709551600 := by decide +kernel
 have hv : IntKind.u64.wrap 4573923408821661840 = 4573923408821661840 := by decide +kernel
 go_enter Tryz.func164, Tryz.ntmps164
 go_wp2_with fail
 go_ret
 exact ⟨rfl, rfl⟩
set_option maxHeartbeats 1000000 in
theorem tz_any (w : World) (ht : w.cell? ⟨6, 15, none⟩ = some (.int .u8 4)) :
    Calls Tryz.prog 161 #[.int .u64 16] w fun e w' => e = .returned (.int .i64 4) ∧ w = w' := by
 go_enter Tryz.func161, Tryz.ntmps161
 go_wp2_with fail
 refine (tz64_any w ht).mono ?_
 rintro e w' ⟨rfl, rfl⟩
 go_wp2_with fail
 go_ret
 exact ⟨rfl, rfl⟩
theorem and_sixteen : bits BinOp.and .i64 16 15 = 0 := by decide +kernel
set_option maxHeartbeats 1000000 in
theorem pow_any (w : World) : Calls Tryz.prog 160 #[.int .i64 16] w fun e w' => e = .returned (.bool true) ∧ w = w' := by
 have hl := and_sixteen
 go_enter Tryz.func160, Tryz.ntmps160
 go_wp2_with fail
 go_ret
 exact ⟨rfl, rfl⟩
theorem and_mask : ∀ d : Nat, d < 16 → bits BinOp.and .u64 (d : Int) 15 = (d : Int) := by
 intro d hd
 have h := bits_and_u64_nat d 15 (by omega) (by omega)
 refine h.trans ?_
 have : ∀ d : Nat, d < 16 → d &&& 15 = d := by decide
 rw [this d hd]
theorem and_mask2 : ∀ i : Nat, i < 256 → bits BinOp.and .u64 (i : Int) 15 = ((i % 16 : Nat) : Int) := by
 intro i hi
 have h := bits_and_u64_nat i 15 (by omega) (by omega)
 refine h.trans ?_
 have : ∀ i : Nat, i < 256 → i &&& 15 = i % 16 := by decide +kernel
 rw [this i hi]
def digits36 : List UInt8 := [48, 49, 50, 51, 52, 53, 54, 55, 56, 57, 97, 98, 99, 100, 101, 102, 103, 104, 105, 106, 107, 108, 109, 110, 111, 112, 113, 114, 115, 116, 117, 118, 119, 120, 121, 122]
theorem digit_at : ∀ i : Nat, i < 16 → digits36[i]? = some (hexDigit i) := by decide
theorem digit_byte (i : Nat) (hi : i < 16) : (⟨#[48, 49, 50, 51, 52, 53, 54, 55, 56, 57, 97, 98, 99, 100, 101, 102, 103, 104, 105, 106, 107, 108, 109, 110, 111, 112, 113, 114, 115, 116, 117, 118, 119, 120, 121, 122]⟩ : ByteArray)[i]'(by show i < 36; omega) = hexDigit i := by
 obtain ⟨c, -, hx, hg⟩ := byte_at digits36 i (by show i < 36; omega)
 rw [digit_at i hi] at hg
 cases hg
 exact hx
theorem tab_later {w w' : World} {v : Value} (ht : w.cell? ⟨6, 15, none⟩ = some v) (hb : Below w.heap.size w w') : w'.cell? ⟨6, 15, none⟩ = some v := by
 rw [World.cell?_of_block (hb.block _ (World.block_lt_of_cell? w _ ht))]
 exact ht
set_option maxHeartbeats 4000000 in
theorem format_any (w : World) (B : Nat) (v : Value) (l : List UInt8) (i : Nat) (hi : i < 16) (hl : (l.length : Int) ≤ 1000000) (hrow : Row w B 5 1 encBy v l) (hB : B ≤ w.heap.size) (ht : w.cell? ⟨6, 15, none⟩ = some (.int .u8 4)) :
    Calls Tryz.prog 151 #[v, .int .u64 (i : Int), .int .i64 16, .bool false, .bool true] w fun e w' => ∃ v', e = .returned (.tuple #[v', .string ⟨#[]⟩]) ∧ Row w' B 5 1 encBy v' (l ++ [hexDigit i]) ∧ Fr (fun k => v.ownBlock = some k) w w' := by
 obtain ⟨W1, hW1⟩ : ∃ W1, w.alloc (.cells Tryz.zeroCells229 229) = W1 := ⟨_, rfl⟩
 have ht1 : W1.cell? ⟨6, 15, none⟩ = some (.int .u8 4) := tab_later ht (by rw [← hW1]; exact (Below.refl _ _).alloc (Nat.le_refl _) _)
 have hz64 : W1.cell? ⟨w.heap.size, 64, none⟩ = some (.int .u8 0) := by rw [← hW1]; exact cell_alloc1 w _ _ 64 _ (by kernel_rfl)
 have hf64 : W1.frozen? ⟨w.heap.size, 64, none⟩ = false := by rw [← hW1]; simp
 have HT1 := Lib.hid ht1
 obtain ⟨ti, tz, hti, htz, hsi, hby, hzs⟩ := byte_info
 have hs1 : W1.heap.size = w.heap.size + 1 := by rw [← hW1]; simp
 have HR := Lib.hid hrow
 have hx := digit_byte i hi
 have hi' : (i : Int) < 16 := by omega
 have ham := and_mask i hi
 clear ht ht1 hrow
 go_enter Tryz.func151, Tryz.ntmps151
 go_wp2_with fail
 refine (pow_any _).mono ?_
 rintro e w1 ⟨rfl, rfl⟩
 go_wp2_with fail
 refine (tz_any _ HT1.out).mono ?_
 rintro e w1 ⟨rfl, rfl⟩
 go_wp2_with fail
 refine wp_loop_rounds 1 ?_
 rw [rounds_succ]
 have hnews : ∀ j u, ([hexDigit i].flatMap encBy)[j]? = some u → (W1.setCell ⟨w.heap.size, 64, none⟩ (.int .u8 ((hexDigit i).toNat : Int))).cell? ⟨w.heap.size, 64 + j, none⟩ = some u := by
  intro j u hu
  have hj : j = 0 := by
   have := (List.getElem?_eq_some_iff.1 hu).1
   simp [encBy] at this
   omega
  subst hj
  rw [World.cell?_setCell_same _ _ _ hz64]
  simpa [encBy] using hu
 have HNW := Lib.hid hnews
 clear hnews
 go_wp2_with (at_builtin; refine wpList_rows rfl _ _ 72 rfl _ B 5 ti tz 1 1 encBy Tryz.underlying72 hti htz hsi hby hzs (by decide) encB_len encBy_one _ l [hexDigit i] rfl ((HR.out.later (by rw [← hW1]; exact (Below.refl _ _).alloc (Nat.le_refl _) _)).away _ (fun k hk => by have := (HR.out.lt k hk).2; simp only; omega)) w.heap.size 64 1 rfl HNW.out (by unfold maxLen; simp; omega) (by simp; omega) (by simp; omega) ?_)
 intro v' w5 hrow5 hg5
 have hF : Fr (fun k => v.ownBlock = some k) w w5 := by
  refine Fr.grown (w' := W1.setCell ⟨w.heap.size, 64, none⟩ (.int .u8 ((hexDigit i).toNat : Int))) ?_ hg5 (fun g hg => .inl hg)
  rw [← hW1]
  exact ((Fr.refl _ _).alloc _).setCell (.inr (Nat.le_refl _)) _
 have HF := Lib.hid hF
 have HR5 := Lib.hid hrow5
 clear hF hrow5 hg5 HNW hz64 hf64 hW1
 go_wp2_with fail
 go_ret2
 exact ⟨_, rfl, HR5.out, HF.out⟩
set_option maxHeartbeats 4000000 in
theorem format_two (w : World) (B : Nat) (v : Value) (l : List UInt8) (i : Nat) (h16 : 16 ≤ i) (hi : i < 256) (hl : (l.length : Int) ≤ 1000000) (hrow : Row w B 5 1 encBy v l) (hB : B ≤ w.heap.size) (ht : w.cell? ⟨6, 15, none⟩ = some (.int .u8 4)) :
    Calls Tryz.prog 151 #[v, .int .u64 (i : Int), .int .i64 16, .bool false, .bool true] w fun e w' => ∃ v', e = .returned (.tuple #[v', .string ⟨#[]⟩]) ∧ Row w' B 5 1 encBy v' (l ++ [hexDigit (i / 16), hexDigit (i % 16)]) ∧ Fr (fun k => v.ownBlock = some k) w w' := by
 obtain ⟨W1, hW1⟩ : ∃ W1, w.alloc (.cells Tryz.zeroCells229 229) = W1 := ⟨_, rfl⟩
 have ht1 : W1.cell? ⟨6, 15, none⟩ = some (.int .u8 4) := tab_later ht (by rw [← hW1]; exact (Below.refl _ _).alloc (Nat.le_refl _) _)
 have hz64 : W1.cell? ⟨w.heap.size, 64, none⟩ = some (.int .u8 0) := by rw [← hW1]; exact cell_alloc1 w _ _ 64 _ (by kernel_rfl)
 have hf64 : W1.frozen? ⟨w.heap.size, 64, none⟩ = false := by rw [← hW1]; simp
 have HT1 := Lib.hid ht1
 obtain ⟨ti, tz, hti, htz, hsi, hby, hzs⟩ := byte_info
 have hs1 : W1.heap.size = w.heap.size + 1 := by rw [← hW1]; simp
 have HR := Lib.hid hrow
 have hx := digit_byte (i % 16) (by omega)
 have hx2 := digit_byte (i / 16) (by omega)
 have hi' : 16 ≤ (i : Int) := by omega
 have hi2 : (i : Int) / 16 < 16 := by omega
 have ham := and_mask2 i hi
 clear ht ht1 hrow
 go_enter Tryz.func151, Tryz.ntmps151
 go_wp2_with fail
 refine (pow_any _).mono ?_
 rintro e w1 ⟨rfl, rfl⟩
 go_wp2_with fail
 refine (tz_any _ HT1.out).mono ?_
 rintro e w1 ⟨rfl, rfl⟩
 go_wp2_with fail
 have hz63 : W1.cell? ⟨w.heap.size, 63, none⟩ = some (.int .u8 0) := by rw [← hW1]; exact cell_alloc1 w _ _ 63 _ (by kernel_rfl)
 have hf63 : W1.frozen? ⟨w.heap.size, 63, none⟩ = false := by rw [← hW1]; simp
 refine wp_loop_rounds 2 ?_
 rw [rounds_succ]
 go_wp2_with fail
 rw [rounds_succ]
 have hnews : ∀ j u, ([hexDigit (i / 16), hexDigit (i % 16)].flatMap encBy)[j]? = some u → ((W1.setCell ⟨w.heap.size, 64, none⟩ (.int .u8 ((hexDigit (i % 16)).toNat : Int))).setCell ⟨w.heap.size, 63, none⟩ (.int .u8 ((hexDigit (i / 16)).toNat : Int))).cell? ⟨w.heap.size, 63 + j, none⟩ = some u := by
  intro j u hu
  have hz63' : (W1.setCell ⟨w.heap.size, 64, none⟩ (.int .u8 ((hexDigit (i % 16)).toNat : Int))).cell? ⟨w.heap.size, 63, none⟩ = some (.int .u8 0) := by
   rw [World.cell?_setCell_other _ _ _ _ (by simp)]
   exact hz63
  have hj : j = 0 ∨ j = 1 := by
   have := (List.getElem?_eq_some_iff.1 hu).1
   simp [encBy] at this
   omega
  rcases hj with rfl | rfl
  ·rw [World.cell?_setCell_same _ _ _ hz63']
   simpa [encBy] using hu
  ·rw [World.cell?_setCell_other _ _ _ _ (by simp), World.cell?_setCell_same _ _ _ hz64]
   simpa [encBy] using hu
 have HNW := Lib.hid hnews
 clear hnews
 go_wp2_with (at_builtin; refine wpList_rows rfl _ _ 72 rfl _ B 5 ti tz 1 1 encBy Tryz.underlying72 hti htz hsi hby hzs (by decide) encB_len encBy_one _ l [hexDigit (i / 16), hexDigit (i % 16)] rfl (((HR.out.later (by rw [← hW1]; exact (Below.refl _ _).alloc (Nat.le_refl _) _)).away _ (fun k hk => by have := (HR.out.lt k hk).2; simp only; omega)).away _ (fun k hk => by have := (HR.out.lt k hk).2; simp only; omega)) w.heap.size 63 2 rfl HNW.out (by unfold maxLen; simp; omega) (by simp; omega) (by simp; omega) ?_)
 intro v' w5 hrow5 hg5
 have hF : Fr (fun k => v.ownBlock = some k) w w5 := by
  refine Fr.grown (w' := (W1.setCell ⟨w.heap.size, 64, none⟩ (.int .u8 ((hexDigit (i % 16)).toNat : Int))).setCell ⟨w.heap.size, 63, none⟩ (.int .u8 ((hexDigit (i / 16)).toNat : Int))) ?_ hg5 (fun g hg => .inl hg)
  rw [← hW1]
  exact (((Fr.refl _ _).alloc _).setCell (.inr (Nat.le_refl _)) _).setCell (.inr (Nat.le_refl _)) _
 have HF := Lib.hid hF
 have HR5 := Lib.hid hrow5
 clear hF hrow5 hg5 HNW hz64 hf64 hW1
 go_wp2_with fail
 go_ret2
 exact ⟨_, rfl, HR5.out, HF.out⟩
theorem format_byte (w : World) (B : Nat) (v : Value) (l : List UInt8) (c : UInt8) (hl : (l.length : Int) ≤ 1000000) (hrow : Row w B 5 1 encBy v l) (hB : B ≤ w.heap.size) (ht : w.cell? ⟨6, 15, none⟩ = some (.int .u8 4)) :
    Calls Tryz.prog 151 #[v, .int .u64 (c.toNat : Int), .int .i64 16, .bool false, .bool true] w fun e w' => ∃ v', e = .returned (.tuple #[v', .string ⟨#[]⟩]) ∧ Row w' B 5 1 encBy v' (l ++ hexOf c) ∧ Fr (fun k => v.ownBlock = some k) w w' := by
 have hc := c.toNat_lt
 by_cases h : c.toNat < 16
 ·rw [show hexOf c = [hexDigit c.toNat] by unfold hexOf; rw [if_pos h]]
  exact format_any w B v l c.toNat h hl hrow hB ht
 ·rw [show hexOf c = [hexDigit (c.toNat / 16), hexDigit (c.toNat % 16)] by unfold hexOf; rw [if_neg h]]
  exact format_two w B v l c.toNat (by omega) (by omega) hl hrow hB ht
set_option maxHeartbeats 1000000 in
theorem uint_in (w : World) (B : Nat) (v : Value) (l : List UInt8) (c : UInt8) (hl : (l.length : Int) ≤ 1000000) (hrow : Row w B 5 1 encBy v l) (hB : B ≤ w.heap.size) (ht : w.cell? ⟨6, 15, none⟩ = some (.int .u8 4)) :
    Calls Tryz.prog 152 #[v, .int .u64 (c.toNat : Int), .int .i64 16] w fun e w' => ∃ v', e = .returned v' ∧ Row w' B 5 1 encBy v' (l ++ hexOf c) ∧ Fr (fun k => v.ownBlock = some k) w w' := by
 have HF := Lib.hid (format_byte w B v l c hl hrow hB ht)
 clear hrow ht
 go_enter Tryz.func152, Tryz.ntmps152
 go_wp2_with fail
 refine HF.out.mono ?_
 rintro e w1 ⟨v', rfl, hr, hf⟩
 have HR := Lib.hid hr
 have HF1 := Lib.hid hf
 clear hr hf HF
 go_wp2_with fail
 go_ret
 exact ⟨_, rfl, HR.out, HF1.out⟩
set_option maxHeartbeats 1000000 in
theorem uint_any (w : World) (B : Nat) (v : Value) (l : List UInt8) (c : UInt8) (hl : (l.length : Int) ≤ 1000000) (hrow : Row w B 5 1 encBy v l) (hB : B ≤ w.heap.size) (ht : w.cell? ⟨6, 15, none⟩ = some (.int .u8 4)) :
    Calls Tryz.prog 133 #[v, .int .u64 (c.toNat : Int), .int .i64 16] w fun e w' => ∃ v', e = .returned v' ∧ Row w' B 5 1 encBy v' (l ++ hexOf c) ∧ Fr (fun k => v.ownBlock = some k) w w' := by
 have HF := Lib.hid (uint_in w B v l c hl hrow hB ht)
 clear hrow ht
 go_enter Tryz.func133, Tryz.ntmps133
 go_wp2_with fail
 refine HF.out.mono ?_
 rintro e w1 ⟨v', rfl, hr, hf⟩
 have HR := Lib.hid hr
 have HF1 := Lib.hid hf
 clear hr hf HF
 go_wp2_with fail
 go_ret
 exact ⟨_, rfl, HR.out, HF1.out⟩
structure PutSt (w1 : World) (v : Value) (acc : List UInt8) (u : World) : Prop where
 row : Row u w1.heap.size 5 1 encBy v acc
 below : Below w1.heap.size w1 u
theorem PutSt.app {w1 u u' : World} {v v' : Value} {acc ys : List UInt8} {o : Obj} (h : PutSt w1 v acc u) (hr : Row u' w1.heap.size 5 1 encBy v' (acc ++ ys)) (hg : (u.alloc o).grownBy u' v.ownBlock) : PutSt w1 v' (acc ++ ys) u' := by
 refine ⟨hr, ?_⟩
 have hF : Fr (fun k => w1.heap.size ≤ k) w1 u' := ((Fr.of_below _ h.below).alloc o).grown hg fun g e => .inl (h.row.lt g e).1
 exact hF.below (Nat.le_refl _) fun k hk => by omega
theorem PutSt.fr {w1 u u' : World} {v v' : Value} {acc ys : List UInt8} (h : PutSt w1 v acc u) (hr : Row u' w1.heap.size 5 1 encBy v' (acc ++ ys)) (hf : Fr (fun k => v.ownBlock = some k) u u') : PutSt w1 v' (acc ++ ys) u' := by
 refine ⟨hr, ?_⟩
 have hF : Fr (fun k => w1.heap.size ≤ k) w1 u' := (Fr.of_below _ h.below).trans (hf.weak fun k e => (h.row.lt k e).1)
 exact hF.below (Nat.le_refl _) fun k hk => by omega
theorem PutSt.size {w1 u : World} {v : Value} {acc : List UInt8} (h : PutSt w1 v acc u) : w1.heap.size ≤ u.heap.size := h.below.size
theorem PutSt.tab {w1 u : World} {v x : Value} {acc : List UInt8} (h : PutSt w1 v acc u) (ht : w1.cell? ⟨6, 15, none⟩ = some x) : u.cell? ⟨6, 15, none⟩ = some x := tab_later ht h.below
theorem one_cell (w : World) (e : TypeId) (a : UInt8) (x : Int) (hx : x = (a.toNat : Int)) : ∀ j u, ([a].flatMap encBy)[j]? = some u → (w.alloc (.cells #[.int .u8 x] e)).cell? ⟨w.heap.size, 0 + j, none⟩ = some u := by
 intro j u hu
 subst hx
 rw [Nat.zero_add]
 refine cell_alloc1 _ _ _ j u ?_
 rw [← Array.getElem?_toList]
 exact hu
theorem two_cells (w : World) (e : TypeId) (a b : UInt8) (x y : Int) (hx : x = (a.toNat : Int)) (hy : y = (b.toNat : Int)) : ∀ j u, ([a, b].flatMap encBy)[j]? = some u → (w.alloc (.cells #[.int .u8 x, .int .u8 y] e)).cell? ⟨w.heap.size, 0 + j, none⟩ = some u := by
 intro j u hu
 subst hx hy
 rw [Nat.zero_add]
 refine cell_alloc1 _ _ _ j u ?_
 rw [← Array.getElem?_toList]
 exact hu
theorem escB_len (c : UInt8) : (escB c).length ≤ 5 := by
 unfold escB hexOf
 (repeat' split) <;> simp
theorem escs_len : ∀ l : List UInt8, (l.flatMap escB).length ≤ 5 * l.length
 | [] => by simp
 | c :: r => by
  rw [List.flatMap_cons, List.length_append, List.length_cons]
  have := escs_len r
  have := escB_len c
  omega
theorem take_snocP {l : List UInt8} {k : Nat} {c : UInt8} (h : l[k]? = some c) : l.take (k + 1) = l.take k ++ [c] := by
 obtain ⟨hk, rfl⟩ := List.getElem?_eq_some_iff.1 h
 exact List.take_succ_eq_append_getElem hk
theorem escs_step {l : List UInt8} {k : Nat} {c : UInt8} (h : l[k]? = some c) : (l.take (k + 1)).flatMap escB = (l.take k).flatMap escB ++ escB c := by
 rw [take_snocP h, List.flatMap_append]
 simp
theorem put_quote {l : List UInt8} (h : plainB l = false) : putB l = 39 :: (l.flatMap escB) ++ [39] := by
 unfold putB
 rw [if_neg (by simp [h])]
 rfl
set_option maxHeartbeats 4000000 in
theorem put_any (w : World) (l : List UInt8) (hl : (l.length : Int) ≤ 100000) (ht : w.cell? ⟨6, 15, none⟩ = some (.int .u8 4)) :
    Calls Tryz.prog 106 #[.string ⟨l.toArray⟩] w fun e w' => e = .returned (.string ⟨(putB l).toArray⟩) ∧ Below w.heap.size w w' := by
 have HT := Lib.hid ht
 clear ht
 obtain ⟨ti, tz, hti, htz, hsi, hby, hzs⟩ := byte_info
 go_enter Tryz.func106, Tryz.ntmps106
 go_wp2_with fail
 refine (plain_any w l (by omega)).mono ?_
 rintro e w1 ⟨rfl, hb1⟩
 have HB1 := Lib.hid hb1
 have HT1 := Lib.hid (tab_later HT.out hb1)
 clear hb1 HT
 by_cases hp : plainB l = true
 ·rw [hp]
  have HP := Lib.hid (show putB l = l by unfold putB; rw [if_pos hp])
  clear hp
  go_wp2_with fail
  go_ret
  exact ⟨by rw [HP.out]; rfl, HB1.out⟩
 rw [Bool.not_eq_true] at hp
 rw [hp]
 have HP := Lib.hid (put_quote hp)
 clear hp
 obtain ⟨w2, hmk, hr2, hg2⟩ := Row.made (P := Tryz.prog) (B := w1.heap.size) (enc := encBy) (w := w1) Tryz.underlying72 hti htz hsi .i64 .i64 (l.length + 2) (by rw [hby]; omega) (by unfold maxLen; omega) (Nat.le_refl _)
 have HS2 : Hid (PutSt w1 (.slice (some ⟨w1.heap.size, 0, none⟩) 0 (l.length + 2)) [] w2) := Lib.hid ⟨hr2, (Fr.grown (Fr.refl (fun k => w1.heap.size ≤ k) w1) hg2 (fun g e => by cases e)).below (Nat.le_refl _) fun k hk => by omega⟩
 have HL2 := Lib.hid (PutSt.size HS2.out)
 clear hr2 hg2
 have hmk' : (Instr.makeSlice 72 (.int .i64 0) (.int .i64 ((l.length : Int) + 2))).run Tryz.prog w1 = .ok (.slice (some ⟨w1.heap.size, 0, none⟩) 0 (l.length + 2)) w2 := hmk
 clear hmk
 go_wp2_with (at_builtin; refine wpList_rows rfl _ _ 72 rfl _ w1.heap.size 5 ti tz 1 1 encBy Tryz.underlying72 hti htz hsi hby hzs (by decide) encB_len encBy_one _ [] [39] rfl (HS2.out.row.alloc _) _ 0 1 rfl (one_cell _ _ 39 _ rfl) (by unfold maxLen; simp) (by simp) (Nat.le_trans HL2.out (by simp)) ?_)
 intro v3 w3 hr3 hg3
 have HS3 := Lib.hid (HS2.out.app hr3 hg3)
 clear hr3 hg3 HS2 HL2 hmk'
 go_wp2_with fail
 go_loopw [3, 4] (fun v i wr => ∃ k : Nat, k ≤ l.length ∧ i = .int .i64 k ∧ Hid (PutSt w1 v (39 :: (l.take k).flatMap escB) wr)) (fun _ i _ => l.length - (intOf i).toNat)
 case atStart => exact ⟨0, Nat.zero_le _, rfl, Lib.hid (by simpa using HS3.out)⟩
 case round =>
  obtain ⟨k, hk, rfl, HS⟩ := hrel
  clear HS3
  have hel := escs_len (l.take k)
  rw [List.length_take] at hel
  by_cases hlt : k < l.length
  ·obtain ⟨c, hd, hx, hg⟩ := byte_at l k hlt
   have hlt' : (k : Int) < (l.length : Int) := by omega
   have he : 39 :: (l.take (k + 1)).flatMap escB = (39 :: (l.take k).flatMap escB) ++ escB c := by rw [escs_step hg]; rfl
   have HE0 := Lib.hid he
   clear hd hg he
   by_cases e39 : c = 39
   ·subst e39
    have HE := Lib.hid (HE0.out.trans (show _ = (39 :: (l.take k).flatMap escB) ++ [92, 39] from rfl))
    clear HE0
    go_wp2_with (at_builtin; refine wpList_rows rfl _ _ 72 rfl _ w1.heap.size 5 ti tz 1 1 encBy Tryz.underlying72 hti htz hsi hby hzs (by decide) encB_len encBy_one _ (39 :: (l.take k).flatMap escB) [92, 39] rfl (HS.out.row.alloc _) _ 0 2 rfl (two_cells _ _ 92 39 _ _ rfl rfl) (by unfold maxLen; simp only [List.length_cons, List.length_nil]; omega) (by simp only [List.length_cons, List.length_nil]; omega) (Nat.le_trans HS.out.size (by simp)) ?_)
    intro v4 w4 hr4 hg4
    have HS4 := Lib.hid (HS.out.app hr4 hg4)
    clear hr4 hg4 HS
    go_wp2_with fail
    go_roundw
    case rel => exact ⟨k + 1, hlt, by go_num, Lib.hid (by rw [HE.out]; exact HS4.out)⟩
    case measure => simp [intOf]; omega
   by_cases e92 : c = 92
   ·subst e92
    have HE := Lib.hid (HE0.out.trans (show _ = (39 :: (l.take k).flatMap escB) ++ [92, 92] from rfl))
    clear HE0
    go_wp2_with (at_builtin; refine wpList_rows rfl _ _ 72 rfl _ w1.heap.size 5 ti tz 1 1 encBy Tryz.underlying72 hti htz hsi hby hzs (by decide) encB_len encBy_one _ (39 :: (l.take k).flatMap escB) [92, 92] rfl (HS.out.row.alloc _) _ 0 2 rfl (two_cells _ _ 92 92 _ _ rfl rfl) (by unfold maxLen; simp only [List.length_cons, List.length_nil]; omega) (by simp only [List.length_cons, List.length_nil]; omega) (Nat.le_trans HS.out.size (by simp)) ?_)
    intro v4 w4 hr4 hg4
    have HS4 := Lib.hid (HS.out.app hr4 hg4)
    clear hr4 hg4 HS
    go_wp2_with fail
    go_roundw
    case rel => exact ⟨k + 1, hlt, by go_num, Lib.hid (by rw [HE.out]; exact HS4.out)⟩
    case measure => simp [intOf]; omega
   by_cases e10 : c = 10
   ·subst e10
    have HE := Lib.hid (HE0.out.trans (show _ = (39 :: (l.take k).flatMap escB) ++ [92, 110] from rfl))
    clear HE0
    go_wp2_with (at_builtin; refine wpList_rows rfl _ _ 72 rfl _ w1.heap.size 5 ti tz 1 1 encBy Tryz.underlying72 hti htz hsi hby hzs (by decide) encB_len encBy_one _ (39 :: (l.take k).flatMap escB) [92, 110] rfl (HS.out.row.alloc _) _ 0 2 rfl (two_cells _ _ 92 110 _ _ rfl rfl) (by unfold maxLen; simp only [List.length_cons, List.length_nil]; omega) (by simp only [List.length_cons, List.length_nil]; omega) (Nat.le_trans HS.out.size (by simp)) ?_)
    intro v4 w4 hr4 hg4
    have HS4 := Lib.hid (HS.out.app hr4 hg4)
    clear hr4 hg4 HS
    go_wp2_with fail
    go_roundw
    case rel => exact ⟨k + 1, hlt, by go_num, Lib.hid (by rw [HE.out]; exact HS4.out)⟩
    case measure => simp [intOf]; omega
   by_cases e9 : c = 9
   ·subst e9
    have HE := Lib.hid (HE0.out.trans (show _ = (39 :: (l.take k).flatMap escB) ++ [92, 116] from rfl))
    clear HE0
    go_wp2_with (at_builtin; refine wpList_rows rfl _ _ 72 rfl _ w1.heap.size 5 ti tz 1 1 encBy Tryz.underlying72 hti htz hsi hby hzs (by decide) encB_len encBy_one _ (39 :: (l.take k).flatMap escB) [92, 116] rfl (HS.out.row.alloc _) _ 0 2 rfl (two_cells _ _ 92 116 _ _ rfl rfl) (by unfold maxLen; simp only [List.length_cons, List.length_nil]; omega) (by simp only [List.length_cons, List.length_nil]; omega) (Nat.le_trans HS.out.size (by simp)) ?_)
    intro v4 w4 hr4 hg4
    have HS4 := Lib.hid (HS.out.app hr4 hg4)
    clear hr4 hg4 HS
    go_wp2_with fail
    go_roundw
    case rel => exact ⟨k + 1, hlt, by go_num, Lib.hid (by rw [HE.out]; exact HS4.out)⟩
    case measure => simp [intOf]; omega
   have t39 : ((c.toNat : Int) == 39) = false := byte_ne e39
   have t92 : ((c.toNat : Int) == 92) = false := byte_ne e92
   have t10 : ((c.toNat : Int) == 10) = false := byte_ne e10
   have t9 : ((c.toNat : Int) == 9) = false := byte_ne e9
   by_cases hs : c < 32 ∨ c = 127
   ·have HE := Lib.hid (HE0.out.trans (show _ = (39 :: (l.take k).flatMap escB) ++ ([92, 120] ++ hexOf c ++ [92]) by unfold escB; rw [if_neg (by simp [e39, e92]), if_neg e10, if_neg e9, if_pos hs]))
    clear HE0 e39 e92 e10 e9
    have hxl : (hexOf c).length ≤ 2 := by unfold hexOf; split <;> simp
    have HS' : c < 32 ∨ c = 127 := hs
    rcases HS' with h32 | h127
    case' inl =>
     have h2 : (c.toNat : Int) < 32 := by
      rw [UInt8.lt_iff_toNat_lt] at h32
      have h : (32 : UInt8).toNat = 32 := rfl
      omega
     clear h32
    case' inr =>
     have h3 : 32 ≤ (c.toNat : Int) := by rw [h127]; decide
     have h2 : ((c.toNat : Int) == 127) = true := by rw [h127]; rfl
     clear h127
    all_goals
     have hcb : (c.toNat : Int) < 256 := by have := c.toNat_lt; omega
     clear hs
     go_wp2_with (at_builtin; refine wpList_rows rfl _ _ 72 rfl _ w1.heap.size 5 ti tz 1 1 encBy Tryz.underlying72 hti htz hsi hby hzs (by decide) encB_len encBy_one _ (39 :: (l.take k).flatMap escB) [92, 120] rfl (HS.out.row.alloc _) _ 0 2 rfl (two_cells _ _ 92 120 _ _ rfl rfl) (by unfold maxLen; simp only [List.length_cons, List.length_nil]; omega) (by simp only [List.length_cons, List.length_nil]; omega) (Nat.le_trans HS.out.size (by simp)) ?_)
     intro v4 w4 hr4 hg4
     have HS4 := Lib.hid (HS.out.app hr4 hg4)
     clear hr4 hg4 HS
     go_wp2_with fail
     refine (uint_any w4 w1.heap.size v4 _ c (by simp only [List.length_append, List.length_cons, List.length_nil]; omega) HS4.out.row HS4.out.size (HS4.out.tab HT1.out)).mono ?_
     rintro e w5 ⟨v5, rfl, hr5, hf5⟩
     have HS5 := Lib.hid (HS4.out.fr hr5 hf5)
     clear hr5 hf5 HS4
     go_wp2_with (at_builtin; refine wpList_rows rfl _ _ 72 rfl _ w1.heap.size 5 ti tz 1 1 encBy Tryz.underlying72 hti htz hsi hby hzs (by decide) encB_len encBy_one _ ((39 :: (l.take k).flatMap escB) ++ [92, 120] ++ hexOf c) [92] rfl (HS5.out.row.alloc _) _ 0 1 rfl (one_cell _ _ 92 _ rfl) (by unfold maxLen; simp only [List.length_append, List.length_cons, List.length_nil]; omega) (by simp only [List.length_append, List.length_cons, List.length_nil]; omega) (Nat.le_trans HS5.out.size (by simp)) ?_)
     intro v6 w6 hr6 hg6
     have HS6 := Lib.hid (HS5.out.app (ys := [92]) (by simpa using hr6) hg6)
     clear hr6 hg6 HS5
     go_wp2_with fail
     go_roundw
     case rel => exact ⟨k + 1, hlt, by go_num, Lib.hid (by rw [HE.out]; simpa using HS6.out)⟩
     case measure => simp [intOf]; omega
   ·have HE := Lib.hid (HE0.out.trans (show _ = (39 :: (l.take k).flatMap escB) ++ [c] by unfold escB; rw [if_neg (by simp [e39, e92]), if_neg e10, if_neg e9, if_neg hs]))
    simp only [not_or] at hs
    have t127 : ((c.toNat : Int) == 127) = false := byte_ne hs.2
    have h32 : 32 ≤ (c.toNat : Int) := by
     have := hs.1
     rw [UInt8.lt_iff_toNat_lt] at this
     have h : (32 : UInt8).toNat = 32 := rfl
     omega
    clear HE0 e39 e92 e10 e9 hs
    go_wp2_with (at_builtin; refine wpList_rows rfl _ _ 72 rfl _ w1.heap.size 5 ti tz 1 1 encBy Tryz.underlying72 hti htz hsi hby hzs (by decide) encB_len encBy_one _ (39 :: (l.take k).flatMap escB) [c] rfl (HS.out.row.alloc _) _ 0 1 rfl (one_cell _ _ c _ rfl) (by unfold maxLen; simp only [List.length_cons, List.length_nil]; omega) (by simp only [List.length_cons, List.length_nil]; omega) (Nat.le_trans HS.out.size (by simp)) ?_)
    intro v4 w4 hr4 hg4
    have HS4 := Lib.hid (HS.out.app hr4 hg4)
    clear hr4 hg4 HS
    go_wp2_with fail
    go_roundw
    case rel => exact ⟨k + 1, hlt, by go_num, Lib.hid (by rw [HE.out]; exact HS4.out)⟩
    case measure => simp [intOf]; omega
  ·have hkn : k = l.length := by omega
   subst hkn
   rw [List.take_length] at HS hel
   have hi : l.length ≤ 100000 := by omega
   go_wp2_with (at_builtin; refine wpList_rows rfl _ _ 72 rfl _ w1.heap.size 5 ti tz 1 1 encBy Tryz.underlying72 hti htz hsi hby hzs (by decide) encB_len encBy_one _ (39 :: l.flatMap escB) [39] rfl (HS.out.row.alloc _) _ 0 1 rfl (one_cell _ _ 39 _ rfl) (by unfold maxLen; simp only [List.length_cons, List.length_nil]; omega) (by simp only [List.length_cons, List.length_nil]; omega) (Nat.le_trans HS.out.size (by simp)) ?_)
   intro v4 w4 hr4 hg4
   have HS4 := Lib.hid (HS.out.app hr4 hg4)
   clear hr4 hg4 HS
   have hst := HS4.out.row.string (P := Tryz.prog) (dst := 9) Tryz.underlying72 Tryz.underlying5 Tryz.underlying9
   go_wp2_with fail
   go_ret
   exact ⟨by rw [HP.out]; rfl, HB1.out.trans (HS4.out.below.mono HB1.out.size)⟩
end Go.Proofs.YtcallkljcjimiaaGreatDoor
