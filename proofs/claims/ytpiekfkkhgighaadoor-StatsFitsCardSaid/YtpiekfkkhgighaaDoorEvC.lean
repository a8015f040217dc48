/-
  What stats' Parse answers: a text's events, or an error. Conditions: at most 65536 bytes; the table of bits and the index package's cell hold what is named.
-/
import Derived.Test.YtpiekfkkhgighaaDoorEvB
import Derived.Test.YtpiekfkkhgighaaDoorGet
import Derived.Test.YtpiekfkkhgighaaDoorLexApp
import Derived.Deep.QuietTactic
import Derived.BigQuiet
import Derived.Deep.RegionHeld3
import Derived.IntWalk
import Derived.Laws.DeepStrings4
namespace Go.Proofs.YtpiekfkkhgighaaDoor
open Go.RowKit
set_option maxRecDepth 100000

def beginsV (k : Nat) : Value := .tuple #[.int .i64 (k : Int), .int .i64 ((if k = 0 then 0 else headN k : Nat) : Int)]
set_option maxHeartbeats 4000000 in
theorem begins_any (w : World) (s : List UInt8) :
    Calls Tryd.prog 46 #[wordsV, .string ⟨s.toArray⟩] w fun e w' => e = .returned (beginsV (beginsB s)) ∧ Below w.heap.size w w' := by
  obtain ⟨R, hR⟩ : ∃ R, beginsB s = R := ⟨_, rfl⟩
  rw [hR]
  have HR : Hid (beginsK s 6 1 = R) := Lib.hid hR
  clear hR
  unfold wordsV
  go_enter Tryd.func46, Tryd.ntmps46
  go_wp2_with fail
  go_loop [6] (fun i => ∃ k : Nat, 1 ≤ k ∧ k ≤ 7 ∧ i = .int .i64 k ∧ Hid (beginsK s (7 - k) k = R)) (fun i => 7 - (intOf i).toNat)
  case atStart => exact ⟨1, by omega, by omega, rfl, HR⟩
  case round =>
    clear HR
    obtain ⟨k, hk1, hk7, rfl, HK⟩ := hrel
    rcases (show k = 1 ∨ k = 2 ∨ k = 3 ∨ k = 4 ∨ k = 5 ∨ k = 6 ∨ k = 7 by omega) with rfl | rfl | rfl | rfl | rfl | rfl | rfl
    · have hb : beginsK s (7 - 1) 1 = if Lib.hasPrefix s [121, 101, 115, 32, 39] then 1 else beginsK s (6 - 1) 2 := rfl
      have HK2 := Lib.hid (hb.symm.trans HK.out)
      clear HK hb hk1 hk7
      go_wp2_with fail
      refine (Tryd.strings_HasPrefix ⟨s.toArray⟩ ⟨#[121, 101, 115, 32, 39]⟩ _).mono ?_
      rintro e w' ⟨rfl, rfl⟩
      obtain ⟨q, hq⟩ : ∃ q, Lib.hasPrefix s [121, 101, 115, 32, 39] = q := ⟨_, rfl⟩
      have hq' : Lib.hasPrefix (⟨s.toArray⟩ : ByteArray).data.toList (⟨#[121, 101, 115, 32, 39]⟩ : ByteArray).data.toList = q := hq
      have hk := HK2.out
      rw [hq] at hk
      rw [hq']
      clear HK2 hq hq'
      cases q with
      | true =>
        have HR : Hid (R = 1) := Lib.hid (by rw [← hk]; rfl)
        clear hk
        go_wp2_with fail
        go_ret2
        exact ⟨by rw [HR.out]; rfl, (Below.refl _ _).alloc (Nat.le_refl _) _⟩
      | false =>
        have HK3 : Hid (beginsK s (7 - 2) 2 = R) := Lib.hid (by rw [← hk]; rfl)
        clear hk
        go_wp2_with fail
        go_round
        case rel => exact ⟨2, by omega, by omega, rfl, HK3⟩
        case measure => simp [intOf]
    · have hb : beginsK s (7 - 2) 2 = if Lib.hasPrefix s [110, 111, 32, 39] then 2 else beginsK s (6 - 2) 3 := rfl
      have HK2 := Lib.hid (hb.symm.trans HK.out)
      clear HK hb hk1 hk7
      go_wp2_with fail
      refine (Tryd.strings_HasPrefix ⟨s.toArray⟩ ⟨#[110, 111, 32, 39]⟩ _).mono ?_
      rintro e w' ⟨rfl, rfl⟩
      obtain ⟨q, hq⟩ : ∃ q, Lib.hasPrefix s [110, 111, 32, 39] = q := ⟨_, rfl⟩
      have hq' : Lib.hasPrefix (⟨s.toArray⟩ : ByteArray).data.toList (⟨#[110, 111, 32, 39]⟩ : ByteArray).data.toList = q := hq
      have hk := HK2.out
      rw [hq] at hk
      rw [hq']
      clear HK2 hq hq'
      cases q with
      | true =>
        have HR : Hid (R = 2) := Lib.hid (by rw [← hk]; rfl)
        clear hk
        go_wp2_with fail
        go_ret2
        exact ⟨by rw [HR.out]; rfl, (Below.refl _ _).alloc (Nat.le_refl _) _⟩
      | false =>
        have HK3 : Hid (beginsK s (7 - 3) 3 = R) := Lib.hid (by rw [← hk]; rfl)
        clear hk
        go_wp2_with fail
        go_round
        case rel => exact ⟨3, by omega, by omega, rfl, HK3⟩
        case measure => simp [intOf]
    · have hb : beginsK s (7 - 3) 3 = if Lib.hasPrefix s [119, 114, 111, 110, 103, 32, 39] then 3 else beginsK s (6 - 3) 4 := rfl
      have HK2 := Lib.hid (hb.symm.trans HK.out)
      clear HK hb hk1 hk7
      go_wp2_with fail
      refine (Tryd.strings_HasPrefix ⟨s.toArray⟩ ⟨#[119, 114, 111, 110, 103, 32, 39]⟩ _).mono ?_
      rintro e w' ⟨rfl, rfl⟩
      obtain ⟨q, hq⟩ : ∃ q, Lib.hasPrefix s [119, 114, 111, 110, 103, 32, 39] = q := ⟨_, rfl⟩
      have hq' : Lib.hasPrefix (⟨s.toArray⟩ : ByteArray).data.toList (⟨#[119, 114, 111, 110, 103, 32, 39]⟩ : ByteArray).data.toList = q := hq
      have hk := HK2.out
      rw [hq] at hk
      rw [hq']
      clear HK2 hq hq'
      cases q with
      | true =>
        have HR : Hid (R = 3) := Lib.hid (by rw [← hk]; rfl)
        clear hk
        go_wp2_with fail
        go_ret2
        exact ⟨by rw [HR.out]; rfl, (Below.refl _ _).alloc (Nat.le_refl _) _⟩
      | false =>
        have HK3 : Hid (beginsK s (7 - 4) 4 = R) := Lib.hid (by rw [← hk]; rfl)
        clear hk
        go_wp2_with fail
        go_round
        case rel => exact ⟨4, by omega, by omega, rfl, HK3⟩
        case measure => simp [intOf]
    · have hb : beginsK s (7 - 4) 4 = if Lib.hasPrefix s [111, 117, 116, 32, 39] then 4 else beginsK s (6 - 4) 5 := rfl
      have HK2 := Lib.hid (hb.symm.trans HK.out)
      clear HK hb hk1 hk7
      go_wp2_with fail
      refine (Tryd.strings_HasPrefix ⟨s.toArray⟩ ⟨#[111, 117, 116, 32, 39]⟩ _).mono ?_
      rintro e w' ⟨rfl, rfl⟩
      obtain ⟨q, hq⟩ : ∃ q, Lib.hasPrefix s [111, 117, 116, 32, 39] = q := ⟨_, rfl⟩
      have hq' : Lib.hasPrefix (⟨s.toArray⟩ : ByteArray).data.toList (⟨#[111, 117, 116, 32, 39]⟩ : ByteArray).data.toList = q := hq
      have hk := HK2.out
      rw [hq] at hk
      rw [hq']
      clear HK2 hq hq'
      cases q with
      | true =>
        have HR : Hid (R = 4) := Lib.hid (by rw [← hk]; rfl)
        clear hk
        go_wp2_with fail
        go_ret2
        exact ⟨by rw [HR.out]; rfl, (Below.refl _ _).alloc (Nat.le_refl _) _⟩
      | false =>
        have HK3 : Hid (beginsK s (7 - 5) 5 = R) := Lib.hid (by rw [← hk]; rfl)
        clear hk
        go_wp2_with fail
        go_round
        case rel => exact ⟨5, by omega, by omega, rfl, HK3⟩
        case measure => simp [intOf]
    · have hb : beginsK s (7 - 5) 5 = if Lib.hasPrefix s [114, 101, 115, 111, 117, 114, 99, 101, 32, 39] then 5 else beginsK s (6 - 5) 6 := rfl
      have HK2 := Lib.hid (hb.symm.trans HK.out)
      clear HK hb hk1 hk7
      go_wp2_with fail
      refine (Tryd.strings_HasPrefix ⟨s.toArray⟩ ⟨#[114, 101, 115, 111, 117, 114, 99, 101, 32, 39]⟩ _).mono ?_
      rintro e w' ⟨rfl, rfl⟩
      obtain ⟨q, hq⟩ : ∃ q, Lib.hasPrefix s [114, 101, 115, 111, 117, 114, 99, 101, 32, 39] = q := ⟨_, rfl⟩
      have hq' : Lib.hasPrefix (⟨s.toArray⟩ : ByteArray).data.toList (⟨#[114, 101, 115, 111, 117, 114, 99, 101, 32, 39]⟩ : ByteArray).data.toList = q := hq
      have hk := HK2.out
      rw [hq] at hk
      rw [hq']
      clear HK2 hq hq'
      cases q with
      | true =>
        have HR : Hid (R = 5) := Lib.hid (by rw [← hk]; rfl)
        clear hk
        go_wp2_with fail
        go_ret2
        exact ⟨by rw [HR.out]; rfl, (Below.refl _ _).alloc (Nat.le_refl _) _⟩
      | false =>
        have HK3 : Hid (beginsK s (7 - 6) 6 = R) := Lib.hid (by rw [← hk]; rfl)
        clear hk
        go_wp2_with fail
        go_round
        case rel => exact ⟨6, by omega, by omega, rfl, HK3⟩
        case measure => simp [intOf]
    · have hb : beginsK s (7 - 6) 6 = if Lib.hasPrefix s [115, 121, 110, 116, 97, 120, 32, 39] then 6 else beginsK s (6 - 6) 7 := rfl
      have HK2 := Lib.hid (hb.symm.trans HK.out)
      clear HK hb hk1 hk7
      go_wp2_with fail
      refine (Tryd.strings_HasPrefix ⟨s.toArray⟩ ⟨#[115, 121, 110, 116, 97, 120, 32, 39]⟩ _).mono ?_
      rintro e w' ⟨rfl, rfl⟩
      obtain ⟨q, hq⟩ : ∃ q, Lib.hasPrefix s [115, 121, 110, 116, 97, 120, 32, 39] = q := ⟨_, rfl⟩
      have hq' : Lib.hasPrefix (⟨s.toArray⟩ : ByteArray).data.toList (⟨#[115, 121, 110, 116, 97, 120, 32, 39]⟩ : ByteArray).data.toList = q := hq
      have hk := HK2.out
      rw [hq] at hk
      rw [hq']
      clear HK2 hq hq'
      cases q with
      | true =>
        have HR : Hid (R = 6) := Lib.hid (by rw [← hk]; rfl)
        clear hk
        go_wp2_with fail
        go_ret2
        exact ⟨by rw [HR.out]; rfl, (Below.refl _ _).alloc (Nat.le_refl _) _⟩
      | false =>
        have HK3 : Hid (beginsK s (7 - 7) 7 = R) := Lib.hid (by rw [← hk]; rfl)
        clear hk
        go_wp2_with fail
        go_round
        case rel => exact ⟨7, by omega, by omega, rfl, HK3⟩
        case measure => simp [intOf]
    · have HK2 : Hid (R = 0) := Lib.hid (by rw [← HK.out]; rfl)
      clear HK
      go_wp2_with fail
      go_ret2
      exact ⟨by rw [HK2.out]; rfl, (Below.refl _ _).alloc (Nat.le_refl _) _⟩

/-- What Parse answers. -/
def ParseDone (w : World) (s : List UInt8) (e : Ending) (w' : World) : Prop :=
  (∃ v, e = .returned (.tuple #[v, .int .i64 (if (parseE s).isSome then 0 else 6)]) ∧ Row w' w.heap.size 87 2 encEv v ((parseE s).getD [])) ∧ Below w.heap.size w w'
def strLen : Value → Nat
  | .string b => b.size
  | _ => 0
structure ParseInv (w : World) (s rest : List UInt8) (v : Value) (acc : List Ev) (wr : World) : Prop where
  row : Row wr w.heap.size 87 2 encEv v acc
  below : Below w.heap.size w wr
  eq : parseE s = (parseE rest).map (acc ++ ·)
  len : acc.length + rest.length ≤ s.length
section
variable {w wr : World} {s rest r : List UInt8} {v : Value} {acc : List Ev} {e : Ev}
theorem ParseInv.fin (h : ParseInv w s [] v acc wr) : parseE s = some acc := by
  rw [h.eq]
  show ((evsB 1 []).map (acc ++ ·)) = _
  simp [evsB]
theorem ParseInv.bad (h : ParseInv w s rest v acc wr) (hr : rest ≠ []) (he : evB rest = none) : parseE s = none := by
  rw [h.eq, evs_step hr, he]
  rfl
theorem ParseInv.go (h : ParseInv w s rest v acc wr) (hr : rest ≠ []) (he : evB rest = some (e, r)) : parseE s = (parseE r).map ((acc ++ [e]) ++ ·) := by
  rw [h.eq, evs_step hr, he]
  simp only
  rw [Option.map_map]
  congr 1
  funext x
  simp
theorem begins_le (s : List UInt8) : beginsB s ≤ 6 := by
  by_cases h : beginsB s = 0
  · omega
  · have := (beginsK_spec s 6 1 h).2.1
    have h2 : beginsK s 6 1 = beginsB s := rfl
    omega
theorem head_le (s : List UInt8) (h : beginsB s ≠ 0) : headN (beginsB s) ≤ s.length ∧ 2 ≤ headN (beginsB s) ∧ headN (beginsB s) ≤ 10 := by
  obtain ⟨h1, h2, h3⟩ := beginsK_spec s 6 1 h
  have hb' : beginsK s 6 1 = beginsB s := rfl
  rw [hb'] at h1 h2 h3
  have h4 := (List.isPrefixOf_iff_prefix.1 h3).length_le
  rw [List.length_append] at h4
  simp only [List.length_cons, List.length_nil] at h4
  refine ⟨h4, by unfold headN; omega, ?_⟩
  unfold headN
  generalize beginsB s = k at *
  rcases (show k = 1 ∨ k = 2 ∨ k = 3 ∨ k = 4 ∨ k = 5 ∨ k = 6 by omega) with rfl | rfl | rfl | rfl | rfl | rfl <;> decide
end

theorem getF_text (q : UInt8) : ∀ (f : Nat) (l : List UInt8) (i : Nat) (b t : List UInt8) (n : Nat), getF q f l i b = some (t, n) → b.length ≤ i → t.length ≤ n := by
  intro f
  induction f with
  | zero => intro l i b t n h; cases l <;> cases h
  | succ f ih =>
    intro l i b t n h hb
    cases l with
    | nil => cases h
    | cons c r =>
      simp only [getF] at h
      split at h
      · split at h
        · exact ih _ _ _ _ _ h (by rw [List.length_append]; simp; omega)
        · simp only [Option.some.injEq, Prod.mk.injEq] at h
          obtain ⟨rfl, rfl⟩ := h
          omega
      · split at h
        · cases h
        · split at h
          · exact ih _ _ _ _ _ h (by rw [List.length_append]; simp; omega)
          · split at h
            · cases h
            · split at h
              · exact ih _ _ _ _ _ h (by omega)
              · split at h
                · exact ih _ _ _ _ _ h (by rw [List.length_append]; simp; omega)
                · cases h
theorem getQ_text {q : UInt8} {l : List UInt8} {x : List UInt8 × Nat} (h : getQ q l = some x) : x.1.length ≤ x.2 := getF_text q _ _ _ _ _ _ h (Nat.le_refl _)
/-- What stands as the test is made. -/
structure ParseSt2 (w : World) (s rest : List UInt8) (v : Value) (acc : List Ev) (u : World) : Prop where
  inv : ParseInv w s rest v acc u
  tab : u.cell? ⟨8, 15, none⟩ = some (.int .u8 4)
  max : ∃ m : Int, u.cell? ⟨3, 0, none⟩ = some (.int .i64 m)
theorem ParseInv.later {w u u' : World} {s rest : List UInt8} {v : Value} {acc : List Ev} (h : ParseInv w s rest v acc u) (hb : Below u.heap.size u u') : ParseInv w s rest v acc u' :=
  ⟨h.row.later hb, h.below.trans (hb.mono h.below.size), h.eq, h.len⟩
theorem max_later {w w' : World} (h : ∃ m : Int, w.cell? ⟨3, 0, none⟩ = some (.int .i64 m)) (hb : Below w.heap.size w w') : ∃ m : Int, w'.cell? ⟨3, 0, none⟩ = some (.int .i64 m) := by
  obtain ⟨m, hm⟩ := h
  exact ⟨m, (World.cell?_of_block (a := ⟨3, 0, none⟩) (hb.block _ (World.block_lt_of_cell? w _ hm))).trans hm⟩
theorem ParseSt2.later {w u u' : World} {s rest : List UInt8} {v : Value} {acc : List Ev} (h : ParseSt2 w s rest v acc u) (hb : Below u.heap.size u u') : ParseSt2 w s rest v acc u' :=
  ⟨h.inv.later hb, tab_later h.tab hb, max_later h.max hb⟩
theorem ParseSt2.drew {w u : World} {s rest : List UInt8} {v : Value} {acc : List Ev} (h : ParseSt2 w s rest v acc u) : ParseSt2 w s rest v acc u.drew := h.later ⟨rfl, rfl, rfl, Nat.le_refl _, fun _ _ => rfl⟩
theorem ParseSt2.drewN {w u : World} {s rest : List UInt8} {v : Value} {acc : List Ev} (h : ParseSt2 w s rest v acc u) (n : Nat) : ParseSt2 w s rest v acc (u.drewN n) := h.later ⟨rfl, rfl, rfl, Nat.le_refl _, fun _ _ => rfl⟩

set_option maxHeartbeats 8000000 in
theorem parse_any (w : World) (s : List UInt8) (hs : s.length ≤ 65536)
    (ht : w.cell? ⟨8, 15, none⟩ = some (.int .u8 4)) (hm : ∃ m : Int, w.cell? ⟨3, 0, none⟩ = some (.int .i64 m)) :
    Calls Tryd.prog 28 #[.string ⟨s.toArray⟩] w (ParseDone w s) := by
  have HT := Lib.hid ht
  have HM := Lib.hid hm
  have hs2 : decide ((65536 : Int) < (s.length : Int)) = false := decide_eq_false (by omega)
  clear ht hm
  obtain ⟨i0, z0, hi0, hz0, hz1, hz2, hz3⟩ := ev_info
  go_enter Tryd.func28, Tryd.ntmps28
  go_wp2_with fail
  refine (kinds_any w).mono ?_
  rintro e w1 ⟨rfl, hb1⟩
  have HI0 : Hid (ParseInv w s s (.slice none 0 0) [] w1) := Lib.hid ⟨Row.nil _ _ _ _ _, hb1, by simp, by simp⟩
  clear hb1
  go_wp2_with fail
  clear hs2
  go_loopw [0, 5] (fun sv v wr => ∃ rest acc, sv = .string ⟨rest.toArray⟩ ∧ Hid (ParseInv w s rest v acc wr)) (fun sv _ _ => strLen sv)
  case atStart => exact ⟨s, [], rfl, HI0⟩
  case round =>
    clear HI0
    obtain ⟨rest, acc, rfl, HI⟩ := hrel
    obtain ⟨A, cap, rfl⟩ := HI.out.row.shape
    have hlen := HI.out.len
    have hwr := HI.out.below.size
    by_cases hr : rest = []
    · subst hr
      have HF := Lib.hid HI.out.fin
      go_wp2_with fail
      go_ret2
      exact ⟨⟨_, by rw [HF.out]; rfl, by rw [HF.out]; exact HI.out.row⟩, HI.out.below⟩
    · have hre : rest.isEmpty = false := by cases rest with
        | nil => exact absurd rfl hr
        | cons c r => rfl
      have HR := Lib.hid hr
      clear hr
      go_wp2_with fail
      refine (begins_any _ rest).mono ?_
      rintro e w2 ⟨rfl, hb2⟩
      have HI2 : Hid (ParseInv w s rest _ acc w2) := Lib.hid ⟨HI.out.row.later hb2, HI.out.below.trans (hb2.mono hwr), HI.out.eq, HI.out.len⟩
      have hw2 := HI2.out.below.size
      obtain ⟨K, hK⟩ : ∃ K, beginsB rest = K := ⟨_, rfl⟩
      have hK6 := begins_le rest
      have hhd := head_le rest
      have hev : evB rest = if K = 0 then none else match getQ 39 (rest.drop (headN K)) with
        | none => none
        | some (t, m) => if rest[headN K + m]? = some 10 ∧ quoteB t = (rest.drop (headN K - 1)).take (m + 1) then some (⟨K, t⟩, rest.drop (headN K + m + 1)) else none := by
        rw [← hK]; rfl
      rw [hK] at hhd hK6 ⊢
      unfold beginsV
      clear HI hb2 hK
      by_cases hk0 : K = 0
      · subst hk0
        rw [if_pos rfl] at hev
        have HB := Lib.hid (HI2.out.bad HR.out hev)
        clear hev hhd
        rw [if_pos rfl]
        go_wp2_with fail
        go_ret2
        exact ⟨⟨_, by rw [HB.out]; rfl, by rw [HB.out]; exact Row.nil _ _ _ _ _⟩, HI2.out.below⟩
      · obtain ⟨hh1, hh2, hh3⟩ := hhd hk0
        rw [if_neg hk0] at hev
        rw [if_neg hk0]
        have tk : ((K : Int) == 0) = false := by rw [beq_eq_false_iff_ne]; omega
        obtain ⟨H, hH⟩ : ∃ H, headN K = H := ⟨_, rfl⟩
        rw [hH] at hev hh1 hh2 hh3 ⊢
        clear hH hhd
        have hH1 : (H : Int) ≤ (rest.length : Int) := by omega
        have hsl : (⟨rest.toArray⟩ : ByteArray).extract H rest.length = ⟨(rest.drop H).toArray⟩ := slice_end rest H
        have HEV := Lib.hid hev
        clear hev hk0
        go_wp2_with fail
        refine (get_any _ (rest.drop H) 39 39 rfl (by rw [List.length_drop]; omega)).mono ?_
        rintro e w3 ⟨rfl, hb3⟩
        have HI3 : Hid (ParseSt2 w s rest _ acc w3) := Lib.hid ⟨HI2.out.later hb3, tab_later HT.out (HI2.out.later hb3).below, max_later HM.out (HI2.out.later hb3).below⟩
        have hw3 := HI3.out.inv.below.size
        clear HI2 hb3 hsl
        cases hq : getQ 39 (rest.drop H) with
        | none =>
          have hev := HEV.out
          rw [hq] at hev
          simp only at hev
          have HB := Lib.hid (HI3.out.inv.bad HR.out hev)
          clear hev HEV hq
          simp only [getRes]
          go_wp2_with fail
          go_quiet (fail)
          go_wp2_with fail
          go_ret2
          exact ⟨⟨_, by rw [HB.out]; rfl, by rw [HB.out]; exact Row.nil _ _ _ _ _⟩, (HI3.out.drewN _).inv.below⟩
        | some x =>
          obtain ⟨t, m⟩ := x
          have hm := getQ_le hq
          have htx := getQ_text hq
          rw [List.length_drop] at hm
          simp only at hm htx
          have hev := HEV.out
          rw [hq] at hev
          simp only at hev
          clear HEV hq
          simp only [getRes]
          by_cases h1 : H + m < rest.length
          · obtain ⟨d, -, hx, hg⟩ := byte_at rest (H + m) h1
            have h1' : (H : Int) + (m : Int) < (rest.length : Int) := by omega
            have h1'' : decide ((rest.length : Int) ≤ (H : Int) + (m : Int)) = false := decide_eq_false (by omega)
            rw [hg] at hev
            clear hg
            by_cases h10 : d = 10
            · subst h10
              obtain ⟨SL, hSL⟩ : ∃ SL, (rest.drop (H - 1)).take (m + 1) = SL := ⟨_, rfl⟩
              have hsl : (⟨rest.toArray⟩ : ByteArray).extract (H - 1) (H + m) = ⟨SL.toArray⟩ := by rw [slice_mid, show H + m - (H - 1) = m + 1 by omega, hSL]
              obtain ⟨Q, hQ⟩ : ∃ Q, quoteB t = Q := ⟨_, rfl⟩
              rw [hSL, hQ] at hev
              have HQ := Lib.hid hQ
              clear hSL hQ
              by_cases hqs : Q = SL
              · subst hqs
                rw [if_pos ⟨rfl, rfl⟩] at hev
                have tq : (Q == Q) = true := by simp
                have tq' : (Q != Q) = false := by simp
                have HEV := Lib.hid hev
                clear hev
                have y1 : IntKind.i64.wrap ((H : Int) + (m : Int)) = (H : Int) + (m : Int) := IntWalk.i64_in _ (by omega)
                have y2 : 0 ≤ (H : Int) + (m : Int) := by omega
                have y3 : ((H : Int) + (m : Int)).toNat = H + m := by omega
                have y4 : IntKind.i64.wrap ((H : Int) - 1) = (H : Int) - 1 := IntWalk.i64_in _ (by omega)
                have y5 : 0 ≤ (H : Int) - 1 := by omega
                have y6 : ((H : Int) - 1).toNat = H - 1 := by omega
                have y7 : (H : Int) + (m : Int) ≤ (rest.length : Int) := by omega
                have y8 : 1 ≤ (H : Int) := by omega
                have y9 : (H : Int) - 1 ≤ (H : Int) + (m : Int) := by omega
                go_wp2_with fail
                go_region_held3 (fun u => ParseSt2 w s rest (.slice A acc.length cap) acc u) (first | (with_reducible exact HI3.out) | (with_reducible exact HI3.out.drew) | (with_reducible exact HI3.out.drew.later hb) | (with_reducible exact HI3.out.later hb) | (with_reducible exact ParseSt2.later (by assumption) hb) | (with_reducible exact ParseSt2.drew (by assumption)) | (with_reducible assumption)) (first | (go_at_call 44; refine (quoted_any _ t (by omega) (by first | exact HI3.out.tab | exact HI3.out.drew.tab | exact ParseSt2.tab (by assumption)) (by first | exact HI3.out.max | exact HI3.out.drew.max | exact ParseSt2.max (by assumption))).mono ?_; rintro e u1 ⟨rfl, hb⟩; rw [HQ.out]))
                clear y1 y2 y3 y4 y5 y6 y7 y8 y9 hsl
                have hsl : (⟨rest.toArray⟩ : ByteArray).extract (H + m + 1) rest.length = ⟨(rest.drop (H + m + 1)).toArray⟩ := slice_end rest (H + m + 1)
                have hb1 : (H : Int) + (m : Int) + 1 ≤ (rest.length : Int) := by omega
                have HU : Hid (ParseSt2 w s rest (.slice A acc.length cap) acc _) := Lib.hid (by assumption)
                have hu := HU.out.inv.below.size
                go_wp2_with (at_builtin; refine wpList_row rfl _ _ 46 rfl _ w.heap.size 87 i0 z0 2 24 encEv Tryd.underlying46 hi0 hz0 hz1 hz2 hz3 (by decide) encEv_len encEv_one _ acc ⟨(K : Int), t⟩ rfl (HU.out.inv.row.alloc _) _ _ rfl (fun j u hu => cell_alloc1 _ _ _ j u (by rw [← Array.getElem?_toList]; exact hu)) (by unfold maxLen; omega) (by omega) (Nat.le_trans hu (by simp)) ?_)
                intro v' w5 hrow5 hg5
                have HI5 : Hid (ParseInv w s (rest.drop (H + m + 1)) v' (acc ++ [⟨(K : Int), t⟩]) w5) := Lib.hid ⟨hrow5, ((Fr.of_below (fun k => w.heap.size ≤ k) HU.out.inv.below).alloc _ |>.grown hg5 fun g e => .inl (HU.out.inv.row.lt g e).1).below (Nat.le_refl _) (fun k hk => by omega), HU.out.inv.go HR.out HEV.out, by rw [List.length_append, List.length_drop]; simp; omega⟩
                clear hrow5 hg5
                go_wp2_with fail
                go_roundw
                case rel => rw [hsl]; exact ⟨_, _, rfl, HI5⟩
                case measure => rw [hsl]; simp only [strLen, size_list, List.length_drop]; omega
              · have tq : (Q == SL) = false := beq_eq_false_iff_ne.2 hqs
                have tq' : (Q != SL) = true := by rw [bne, tq]; rfl
                rw [if_neg (by rintro ⟨-, h⟩; exact hqs h)] at hev
                have HB := Lib.hid (HI3.out.inv.bad HR.out hev)
                clear hev hqs
                have y1 : IntKind.i64.wrap ((H : Int) + (m : Int)) = (H : Int) + (m : Int) := IntWalk.i64_in _ (by omega)
                have y2 : 0 ≤ (H : Int) + (m : Int) := by omega
                have y3 : ((H : Int) + (m : Int)).toNat = H + m := by omega
                have y4 : IntKind.i64.wrap ((H : Int) - 1) = (H : Int) - 1 := IntWalk.i64_in _ (by omega)
                have y5 : 0 ≤ (H : Int) - 1 := by omega
                have y6 : ((H : Int) - 1).toNat = H - 1 := by omega
                have y7 : (H : Int) + (m : Int) ≤ (rest.length : Int) := by omega
                have y8 : 1 ≤ (H : Int) := by omega
                have y9 : (H : Int) - 1 ≤ (H : Int) + (m : Int) := by omega
                go_wp2_with fail
                go_region_held3 (fun u => ParseSt2 w s rest (.slice A acc.length cap) acc u) (first | (with_reducible exact HI3.out) | (with_reducible exact HI3.out.drew) | (with_reducible exact HI3.out.drew.later hb) | (with_reducible exact HI3.out.later hb) | (with_reducible exact ParseSt2.later (by assumption) hb) | (with_reducible exact ParseSt2.drew (by assumption)) | (with_reducible assumption)) (first | (go_at_call 44; refine (quoted_any _ t (by omega) (by first | exact HI3.out.tab | exact HI3.out.drew.tab | exact ParseSt2.tab (by assumption)) (by first | exact HI3.out.max | exact HI3.out.drew.max | exact ParseSt2.max (by assumption))).mono ?_; rintro e u1 ⟨rfl, hb⟩; rw [HQ.out]))
                clear y1 y2 y3 y4 y5 y6 y7 y8 y9
                have HU : Hid (ParseSt2 w s rest (.slice A acc.length cap) acc _) := Lib.hid (by assumption)
                go_wp2_with fail
                go_ret2
                exact ⟨⟨_, by rw [HB.out]; rfl, by rw [HB.out]; exact Row.nil _ _ _ _ _⟩, HU.out.inv.below⟩
            · have t10 : ((d.toNat : Int) == 10) = false := byte_ne h10
              have t10' : ((d.toNat : Int) != 10) = true := by rw [bne, t10]; rfl
              rw [if_neg (by rintro ⟨h, -⟩; exact h10 (by injection h))] at hev
              have HB := Lib.hid (HI3.out.inv.bad HR.out hev)
              clear hev h10
              have y1 : IntKind.i64.wrap ((H : Int) + (m : Int)) = (H : Int) + (m : Int) := IntWalk.i64_in _ (by omega)
              have y2 : 0 ≤ (H : Int) + (m : Int) := by omega
              have y3 : ((H : Int) + (m : Int)).toNat = H + m := by omega
              go_wp2_with fail
              go_quiet (fail)
              clear y1 y2 y3
              go_wp2_with fail
              go_ret2
              exact ⟨⟨_, by rw [HB.out]; rfl, by rw [HB.out]; exact Row.nil _ _ _ _ _⟩, (HI3.out.drewN _).inv.below⟩
          · have h1' : decide ((rest.length : Int) ≤ (H : Int) + (m : Int)) = true := decide_eq_true (by omega)
            rw [if_neg (by rintro ⟨h, -⟩; rw [List.getElem?_eq_none (by omega)] at h; cases h)] at hev
            have HB := Lib.hid (HI3.out.inv.bad HR.out hev)
            clear hev h1
            have y1 : IntKind.i64.wrap ((H : Int) + (m : Int)) = (H : Int) + (m : Int) := IntWalk.i64_in _ (by omega)
            have y2 : 0 ≤ (H : Int) + (m : Int) := by omega
            have y3 : ((H : Int) + (m : Int)).toNat = H + m := by omega
            go_wp2_with fail
            go_quiet (fail)
            clear y1 y2 y3
            go_wp2_with fail
            go_ret2
            exact ⟨⟨_, by rw [HB.out]; rfl, by rw [HB.out]; exact Row.nil _ _ _ _ _⟩, (HI3.out.drewN _).inv.below⟩
end Go.Proofs.YtpiekfkkhgighaaDoor
