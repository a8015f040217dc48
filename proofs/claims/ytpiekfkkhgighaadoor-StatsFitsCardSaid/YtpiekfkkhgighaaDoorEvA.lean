/-
  Slices of events that read as lists; how stats writes a text in quotes; what law25's own small functions answer. Conditions: the slices can be read; the sizes that are named.
-/
import Derived.Test.YtpiekfkkhgighaaDoorEvP
import Derived.Test.YtpiekfkkhgighaaDoorPut
import Derived.Test.YtpiekfkkhgighaaDoorBuild
import Derived.Test.YtpiekfkkhgighaaDoorShelfB
import Derived.LoopTactic
namespace Go.Proofs.YtpiekfkkhgighaaDoor
open Go.RowKit
set_option maxRecDepth 100000

/-- A slice of events that reads as a list, and lies below block B. -/
structure EvsAt (w : World) (B : Nat) (A : Option Addr) (n : Nat) (l : List Ev) : Prop where
  len : l.length = n
  at' : ∀ i e, l[i]? = some e → ∃ b off, A = some ⟨b, off, none⟩ ∧ b < B ∧ w.cell? ⟨b, off + i * 2, none⟩ = some (.int .i64 e.kind) ∧ w.cell? ⟨b, off + i * 2 + 1, none⟩ = some (.string ⟨e.text.toArray⟩)
theorem EvsAt.keep {w w' : World} {B : Nat} {A : Option Addr} {n : Nat} {l : List Ev} (h : EvsAt w B A n l) (hb : ∀ k, k < B → w'.heap[k]? = w.heap[k]?) : EvsAt w' B A n l :=
  ⟨h.len, fun i x hx => by
    obtain ⟨b, off, h1, h2, h3, h4⟩ := h.at' i x hx
    exact ⟨b, off, h1, h2, (World.cell?_of_block (a := ⟨b, off + i * 2, none⟩) (hb b h2)).trans h3, (World.cell?_of_block (a := ⟨b, off + i * 2 + 1, none⟩) (hb b h2)).trans h4⟩⟩
theorem EvsAt.below {w w' : World} {B : Nat} {A : Option Addr} {n : Nat} {l : List Ev} (h : EvsAt w B A n l) (hb : Below B w w') : EvsAt w' B A n l := h.keep hb.block
theorem EvsAt.up {w : World} {B B' : Nat} {A : Option Addr} {n : Nat} {l : List Ev} (h : EvsAt w B A n l) (hb : B ≤ B') : EvsAt w B' A n l :=
  ⟨h.len, fun i x hx => by
    obtain ⟨b, off, h1, h2, h3, h4⟩ := h.at' i x hx
    exact ⟨b, off, h1, by omega, h3, h4⟩⟩
def encEv (e : Ev) : List Value := [.int .i64 e.kind, .string ⟨e.text.toArray⟩]
theorem encEv_len (e : Ev) : (encEv e).length = 2 := rfl
theorem encEv_one (e : Ev) : ∀ u ∈ encEv e, u.oneCell' = true := by
  intro u hu
  simp only [encEv, List.mem_cons, List.mem_nil_iff, or_false] at hu
  rcases hu with rfl | rfl <;> rfl
theorem Row.evs {w : World} {B : Nat} {t : TypeId} {v : Value} {l : List Ev} (h : Row w B t 2 encEv v l) : ∃ A cap, v = .slice A l.length cap ∧ EvsAt w w.heap.size A l.length l := by
  by_cases hne : l = []
  · obtain ⟨A, cap, rfl⟩ := h.shape
    exact ⟨A, cap, rfl, rfl, fun i e he => by rw [hne] at he; simp at he⟩
  · obtain ⟨g, cap, rfl, -, hg, -, hk⟩ := h.cells encEv_len hne
    refine ⟨_, cap, rfl, rfl, fun i e he => ⟨g, 0, rfl, hg, ?_, ?_⟩⟩
    · have := (hk i e he 0 _ rfl).1
      rw [Nat.zero_add]
      simpa using this
    · have := (hk i e he 1 _ rfl).1
      rw [Nat.zero_add]
      exact this
theorem ev_info : ∃ i z, Tryd.prog.info? 87 = some i ∧ i.zero = some z ∧ i.size = 2 ∧ i.bytes = 24 ∧ z.cells.size = 2 := by
  refine ⟨_, _, rfl, rfl, ?_, ?_, ?_⟩ <;> kernel_rfl
theorem ev_info2 : ∃ i z, Tryd.prog.info? 54 = some i ∧ i.zero = some z ∧ i.size = 2 ∧ i.bytes = 24 ∧ z.cells.size = 2 := by
  refine ⟨_, _, rfl, rfl, ?_, ?_, ?_⟩ <;> kernel_rfl
theorem cell_allocE (w : World) (o : Obj) (cs : Array Value) (t : TypeId) (i : Nat) (u : Value) (h : cs[i]? = some u) : ((w.alloc o).alloc (.cells cs t)).cell? ⟨w.heap.size + 1, i, none⟩ = some u := by
  have := cell_alloc1 (w.alloc o) cs t i u h
  rwa [show (w.alloc o).heap.size = w.heap.size + 1 by simp] at this

theorem catB (a b : List UInt8) : (⟨a.toArray⟩ ++ ⟨b.toArray⟩ : ByteArray) = ⟨(a ++ b).toArray⟩ := by
  apply ByteArray.ext
  simp

set_option maxHeartbeats 2000000 in
theorem quoted_any (w : World) (l : List UInt8) (hl : (l.length : Int) ≤ 100000) (ht : w.cell? ⟨8, 15, none⟩ = some (.int .u8 4)) (hm : ∃ m : Int, w.cell? ⟨3, 0, none⟩ = some (.int .i64 m)) :
    Calls Tryd.prog 44 #[.string ⟨l.toArray⟩] w fun e w' => e = .returned (.string ⟨(quoteB l).toArray⟩) ∧ Below w.heap.size w w' := by
  have HT := Lib.hid ht
  have HM := Lib.hid hm
  clear ht hm
  go_enter Tryd.func44, Tryd.ntmps44
  go_wp2_with fail
  refine (plain_any w l (by omega)).mono ?_
  rintro e w1 ⟨rfl, hb1⟩
  have HB1 := Lib.hid hb1
  have HT1 := Lib.hid (tab_later HT.out hb1)
  have HM1 : Hid (∃ m : Int, w1.cell? ⟨3, 0, none⟩ = some (.int .i64 m)) := by
    obtain ⟨m, hm⟩ := HM.out
    exact Lib.hid ⟨m, (World.cell?_of_block (a := ⟨3, 0, none⟩) (hb1.block _ (World.block_lt_of_cell? w _ hm))).trans hm⟩
  clear hb1 HT HM
  cases hp : plainB l
  · have HQ := Lib.hid (quote_notplain hp)
    clear hp
    go_wp2_with fail
    refine (put_any w1 l hl HT1.out).mono ?_
    rintro e w2 ⟨rfl, hb2⟩
    have HB2 := Lib.hid (HB1.out.trans (hb2.mono HB1.out.size))
    clear hb2
    go_wp2_with fail
    go_ret
    exact ⟨by rw [HQ.out]; rfl, HB2.out⟩
  · have HQ := Lib.hid (quote_plain hp)
    clear hp
    obtain ⟨m, hm⟩ := HM1.out
    go_wp2_with fail
    refine (Tryd.strings_ReplaceAll ⟨l.toArray⟩ ⟨#[92]⟩ ⟨#[92, 92]⟩ m w1 (by show l.toArray.size < _; rw [List.size_toArray]; omega) hm (by decide) ?_).mono ?_
    · have h1 : Lib.countB ⟨l.toArray⟩ ⟨#[92]⟩ ≤ l.length := by
        show Lib.count l [92] ≤ l.length
        rw [Lib.count_one]
        exact List.count_le_length ..
      have h2 : (⟨l.toArray⟩ : ByteArray).size = l.length := by show l.toArray.size = _; simp
      have h3 : (⟨#[92, 92]⟩ : ByteArray).size = 2 := rfl
      rw [h2, h3]
      omega
    rintro e w2 ⟨rfl, hb2⟩
    have HB2 := Lib.hid (HB1.out.trans (hb2.mono HB1.out.size))
    clear hb2 hm
    have hrl : (Lib.replaceAll l [92] [92, 92]).length ≤ 5 * l.length := by
      have h1 := congrArg List.length HQ.out
      have h2 := escs_len l
      unfold quoteB at h1
      simp only [List.length_append, List.length_cons, List.length_nil] at h1
      omega
    obtain ⟨R, hR⟩ : ∃ R, Lib.replaceAll l [92] [92, 92] = R := ⟨_, rfl⟩
    have e1 : Lib.replaceAll (⟨l.toArray⟩ : ByteArray).data.toList (⟨#[92]⟩ : ByteArray).data.toList (⟨#[92, 92]⟩ : ByteArray).data.toList = R := hR
    rw [hR] at hrl HQ
    rw [e1]
    clear hR e1
    go_wp2_with fail
    go_ret
    refine ⟨?_, HB2.out⟩
    rw [HQ.out]
    show Ending.returned (.string (⟨[39].toArray⟩ ++ ⟨R.toArray⟩ ++ ⟨[39].toArray⟩)) = _
    rw [catB, catB]

def greatN (l : List Ev) : Nat := (l.map fun e => min e.text.length 10000).sum
def greatE (l : List Ev) : Bool := decide (300 < l.length ∨ 5000 < greatN l)
theorem greatN_snoc {l : List Ev} {k : Nat} {e : Ev} (h : l[k]? = some e) : greatN (l.take (k + 1)) = greatN (l.take k) + min e.text.length 10000 := by
  unfold greatN
  obtain ⟨hk, rfl⟩ := List.getElem?_eq_some_iff.1 h
  rw [List.take_succ_eq_append_getElem hk, List.map_append, List.sum_append]
  simp
theorem greatN_le (l : List Ev) : greatN l ≤ 10000 * l.length := by
  unfold greatN
  induction l with
  | nil => simp
  | cons e r ih =>
    simp only [List.map_cons, List.sum_cons, List.length_cons]
    omega
theorem great_min (x : Nat) : (if (10000 : Int) < (x : Int) then (10000 : Int) else (x : Int)) = ((min x 10000 : Nat) : Int) := by split <;> omega

set_option maxHeartbeats 2000000 in
theorem great_any (w : World) (A : Option Addr) (n c : Nat) (l : List Ev) (hl : EvsAt w w.heap.size A n l) (hn : n ≤ 300) (hs : ∀ e ∈ l, (e.text.length : Int) ≤ 9223372036854775807) :
    Calls Tryd.prog 25 #[.slice A n c] w fun e w' => e = .returned (.bool (greatE l)) ∧ Below w.heap.size w w' := by
  have HL := Lib.hid hl
  have HS := Lib.hid hs
  clear hl hs
  go_enter Tryd.func25, Tryd.ntmps25
  go_wp2_with fail
  go_loopw [3, 8] (fun t i wr => ∃ k : Nat, k ≤ n ∧ i = .int .i64 k ∧ t = .int .i64 (greatN (l.take k) : Int) ∧ Hid (Below w.heap.size w wr)) (fun _ i _ => n - (intOf i).toNat)
  case atStart => exact ⟨0, Nat.zero_le _, rfl, rfl, Lib.hid (Below.refl _ _)⟩
  case round =>
    obtain ⟨k, hk, rfl, rfl, HB⟩ := hrel
    have hg := greatN_le (l.take k)
    have htk : (l.take k).length ≤ k := List.length_take_le _ _
    obtain ⟨g, hgg⟩ : ∃ g, greatN (l.take k) = g := ⟨_, rfl⟩
    rw [hgg] at hg ⊢
    have HG := Lib.hid hgg
    clear hgg
    by_cases hlt : k < n
    · have hkl : k < l.length := by rw [HL.out.len]; exact hlt
      have hx := List.getElem?_eq_getElem hkl
      have hmem := HS.out l[k] (List.getElem_mem hkl)
      generalize l[k] = e at hx hmem
      obtain ⟨b, off, hA, hb, c0, c1⟩ := HL.out.at' k e hx
      rw [← HB.out.cell (p := ⟨b, off + k * 2, none⟩) hb] at c0
      rw [← HB.out.cell (p := ⟨b, off + k * 2 + 1, none⟩) hb] at c1
      have hlt' : (k : Int) < (n : Int) := by omega
      have HX := Lib.hid (greatN_snoc hx)
      rw [HG.out] at HX
      have hmn := great_min e.text.length
      clear hx
      subst hA
      go_wp2_with fail
      go_roundw
      case rel => exact ⟨k + 1, hlt, by go_num, by rw [HX.out]; simp; omega, Lib.hid (HB.out.alloc HB.out.size _)⟩
      case measure => simp [intOf]; omega
    · have hkn : k = n := by omega
      subst hkn
      have e1 : l.take k = l := List.take_of_length_le (by rw [HL.out.len]; exact Nat.le_refl _)
      have hlen := HL.out.len
      have HGE : Hid (greatE l = (decide (300 < k) || decide (5000 < g))) := Lib.hid (by
        unfold greatE
        rw [← HG.out, e1, hlen]
        simp)
      clear e1 hlen
      by_cases h1 : 300 < k
      · have t1 : decide ((300 : Int) < (k : Int)) = true := decide_eq_true (by omega)
        rw [decide_eq_true h1] at HGE
        clear h1
        go_wp2_with fail
        go_ret
        exact ⟨by rw [HGE.out]; rfl, HB.out⟩
      · have t1 : decide ((300 : Int) < (k : Int)) = false := decide_eq_false (by omega)
        rw [decide_eq_false h1] at HGE
        clear h1
        go_wp2_with fail
        go_ret
        exact ⟨by rw [HGE.out]; simp; omega, HB.out⟩

set_option maxHeartbeats 2000000 in
theorem great_big (w : World) (A : Option Addr) (n c : Nat) (l : List Ev) (hl : EvsAt w w.heap.size A n l) (hn : 300 < n) (hn2 : (n : Int) ≤ 9223372036854775807) (hs : ∀ e ∈ l, (e.text.length : Int) ≤ 9223372036854775807) :
    Calls Tryd.prog 25 #[.slice A n c] w fun e w' => e = .returned (.bool true) ∧ Below w.heap.size w w' := by
  have HL := Lib.hid hl
  have HS := Lib.hid hs
  have HN := Lib.hid hn
  clear hl hs hn
  go_enter Tryd.func25, Tryd.ntmps25
  go_wp2_with fail
  go_loopw [3, 8] (fun t i wr => ∃ (k : Nat) (x : Int), k ≤ n ∧ i = .int .i64 k ∧ t = .int .i64 x ∧ Hid (Below w.heap.size w wr)) (fun _ i _ => n - (intOf i).toNat)
  case atStart => exact ⟨0, 0, Nat.zero_le _, rfl, rfl, Lib.hid (Below.refl _ _)⟩
  case round =>
    obtain ⟨k, x, hk, rfl, rfl, HB⟩ := hrel
    by_cases hlt : k < n
    · have hkl : k < l.length := by rw [HL.out.len]; exact hlt
      have hx := List.getElem?_eq_getElem hkl
      have hmem := HS.out l[k] (List.getElem_mem hkl)
      generalize l[k] = e at hx hmem
      obtain ⟨b, off, hA, hb, c0, c1⟩ := HL.out.at' k e hx
      rw [← HB.out.cell (p := ⟨b, off + k * 2, none⟩) hb] at c0
      rw [← HB.out.cell (p := ⟨b, off + k * 2 + 1, none⟩) hb] at c1
      have hlt' : (k : Int) < (n : Int) := by omega
      clear hx
      subst hA
      go_wp2_with fail
      go_roundw
      case rel => exact ⟨k + 1, _, hlt, by go_num, rfl, Lib.hid (HB.out.alloc HB.out.size _)⟩
      case measure => simp [intOf]; omega
    · have hkn : k = n := by omega
      subst hkn
      have t1 : decide ((300 : Int) < (k : Int)) = true := decide_eq_true (by have := HN.out; omega)
      go_wp2_with fail
      go_ret
      exact ⟨rfl, HB.out⟩

set_option maxHeartbeats 2000000 in
theorem to_any (w : World) (A : Option Addr) (n c : Nat) (l : List Ev) (hl : EvsAt w w.heap.size A n l) (hn : n ≤ 100000) :
    Calls Tryd.prog 27 #[.slice A n c] w fun e w' => ∃ v, e = .returned v ∧ Row w' w.heap.size 87 2 encEv v l ∧ Below w.heap.size w w' := by
  have HL := Lib.hid hl
  clear hl
  obtain ⟨i0, z0, hi0, hz0, hz1, hz2, hz3⟩ := ev_info
  go_enter Tryd.func27, Tryd.ntmps27
  go_wp2_with fail
  go_loopw [3, 8] (fun v i wr => ∃ k : Nat, k ≤ n ∧ i = .int .i64 k ∧ Hid (Row wr w.heap.size 87 2 encEv v (l.take k)) ∧ Hid (Below w.heap.size w wr)) (fun _ i _ => n - (intOf i).toNat)
  case atStart => exact ⟨0, Nat.zero_le _, rfl, Lib.hid (Row.nil _ _ _ _ _), Lib.hid (Below.refl _ _)⟩
  case round =>
    obtain ⟨k, hk, rfl, HR, HB⟩ := hrel
    have hwr := HB.out.size
    by_cases hlt : k < n
    · have hkl : k < l.length := by rw [HL.out.len]; exact hlt
      have hx := List.getElem?_eq_getElem hkl
      have htk : (l.take k).length ≤ k := List.length_take_le _ _
      have hsn := List.take_succ_eq_append_getElem hkl
      generalize l[k] = e at hx hsn
      obtain ⟨b, off, hA, hb, c0, c1⟩ := HL.out.at' k e hx
      rw [← HB.out.cell (p := ⟨b, off + k * 2, none⟩) hb] at c0
      rw [← HB.out.cell (p := ⟨b, off + k * 2 + 1, none⟩) hb] at c1
      have hlt' : (k : Int) < (n : Int) := by omega
      have HSN := Lib.hid hsn
      clear hx hsn
      subst hA
      go_wp2_with (at_builtin; refine wpList_row rfl _ _ 46 rfl _ w.heap.size 87 i0 z0 2 24 encEv Tryd.underlying46 hi0 hz0 hz1 hz2 hz3 (by decide) encEv_len encEv_one _ (l.take k) e rfl ((HR.out.alloc _).alloc _) _ _ rfl (fun j u hu => cell_allocE _ _ _ _ j u (by rw [← Array.getElem?_toList]; exact hu)) (by unfold maxLen; omega) (by omega) (Nat.le_trans hwr (by simp; omega)) ?_)
      intro v' w5 hrow5 hg5
      have HR5 : Hid (Row w5 w.heap.size 87 2 encEv v' (l.take (k + 1))) := Lib.hid (by rw [HSN.out]; exact hrow5)
      have HB5 : Hid (Below w.heap.size w w5) := Lib.hid ((((Fr.of_below (fun k => w.heap.size ≤ k) HB.out).alloc _).alloc _ |>.grown hg5 fun g e => .inl (HR.out.lt g e).1).below (Nat.le_refl _) (fun k hk => by omega))
      clear hrow5 hg5
      go_wp2_with fail
      go_roundw
      case rel => exact ⟨k + 1, hlt, by go_num, HR5, HB5⟩
      case measure => simp [intOf]; omega
    · have hkn : k = n := by omega
      subst hkn
      have e1 : l.take k = l := List.take_of_length_le (by rw [HL.out.len]; exact Nat.le_refl _)
      rw [e1] at HR
      clear e1
      go_wp2_with fail
      go_ret
      exact ⟨_, rfl, HR.out, HB.out⟩
set_option maxHeartbeats 2000000 in
theorem from_any (w : World) (A : Option Addr) (n c : Nat) (l : List Ev) (hl : EvsAt w w.heap.size A n l) (hn : n ≤ 100000) :
    Calls Tryd.prog 30 #[.slice A n c] w fun e w' => ∃ v, e = .returned v ∧ Row w' w.heap.size 54 2 encEv v l ∧ Below w.heap.size w w' := by
  have HL := Lib.hid hl
  clear hl
  obtain ⟨i0, z0, hi0, hz0, hz1, hz2, hz3⟩ := ev_info2
  go_enter Tryd.func30, Tryd.ntmps30
  go_wp2_with fail
  go_loopw [3, 8] (fun v i wr => ∃ k : Nat, k ≤ n ∧ i = .int .i64 k ∧ Hid (Row wr w.heap.size 54 2 encEv v (l.take k)) ∧ Hid (Below w.heap.size w wr)) (fun _ i _ => n - (intOf i).toNat)
  case atStart => exact ⟨0, Nat.zero_le _, rfl, Lib.hid (Row.nil _ _ _ _ _), Lib.hid (Below.refl _ _)⟩
  case round =>
    obtain ⟨k, hk, rfl, HR, HB⟩ := hrel
    have hwr := HB.out.size
    by_cases hlt : k < n
    · have hkl : k < l.length := by rw [HL.out.len]; exact hlt
      have hx := List.getElem?_eq_getElem hkl
      have htk : (l.take k).length ≤ k := List.length_take_le _ _
      have hsn := List.take_succ_eq_append_getElem hkl
      generalize l[k] = e at hx hsn
      obtain ⟨b, off, hA, hb, c0, c1⟩ := HL.out.at' k e hx
      rw [← HB.out.cell (p := ⟨b, off + k * 2, none⟩) hb] at c0
      rw [← HB.out.cell (p := ⟨b, off + k * 2 + 1, none⟩) hb] at c1
      have hlt' : (k : Int) < (n : Int) := by omega
      have HSN := Lib.hid hsn
      clear hx hsn
      subst hA
      go_wp2_with (at_builtin; refine wpList_row rfl _ _ 42 rfl _ w.heap.size 54 i0 z0 2 24 encEv Tryd.underlying42 hi0 hz0 hz1 hz2 hz3 (by decide) encEv_len encEv_one _ (l.take k) e rfl ((HR.out.alloc _).alloc _) _ _ rfl (fun j u hu => cell_allocE _ _ _ _ j u (by rw [← Array.getElem?_toList]; exact hu)) (by unfold maxLen; omega) (by omega) (Nat.le_trans hwr (by simp; omega)) ?_)
      intro v' w5 hrow5 hg5
      have HR5 : Hid (Row w5 w.heap.size 54 2 encEv v' (l.take (k + 1))) := Lib.hid (by rw [HSN.out]; exact hrow5)
      have HB5 : Hid (Below w.heap.size w w5) := Lib.hid ((((Fr.of_below (fun k => w.heap.size ≤ k) HB.out).alloc _).alloc _ |>.grown hg5 fun g e => .inl (HR.out.lt g e).1).below (Nat.le_refl _) (fun k hk => by omega))
      clear hrow5 hg5
      go_wp2_with fail
      go_roundw
      case rel => exact ⟨k + 1, hlt, by go_num, HR5, HB5⟩
      case measure => simp [intOf]; omega
    · have hkn : k = n := by omega
      subst hkn
      have e1 : l.take k = l := List.take_of_length_le (by rw [HL.out.len]; exact Nat.le_refl _)
      rw [e1] at HR
      clear e1
      go_wp2_with fail
      go_ret
      exact ⟨_, rfl, HR.out, HB.out⟩

end Go.Proofs.YtpiekfkkhgighaaDoor
