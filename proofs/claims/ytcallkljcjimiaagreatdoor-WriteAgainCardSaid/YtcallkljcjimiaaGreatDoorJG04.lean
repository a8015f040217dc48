import Derived.Test.YtcallkljcjimiaaGreatDoorJG03
import Derived.Test.YtcallkljcjimiaaGreatDoorJW34
import Derived.WalkKit
import Derived.WalkSmall
import Derived.Lib.Hide
import Derived.Test.YtcallkljcjimiaaGreatDoorProg
import Derived.KernelRfl
import Derived.LoopTactic
import Derived.Shelf.Small.Strs
import Derived.Shelf.Small.Wraps
import Derived.Shelf.LaysM
import Derived.Shelf.Strings.Fields
import Derived.Lib.ItoaMem
import Derived.Laws.AppendOwn
import Derived.Laws.MakeOwn
import Derived.Deep.OwnRows
import Derived.Laws.AppendOwnNone
import Derived.Deep.AppendLies
import Derived.Deep.RegionLaw
import Derived.WalkSpells
import Derived.BigQuiet
import Derived.Deep.QuietTactic
import Derived.StillTailTactics
import Derived.IntWalk
import Derived.Maps.Keyed
import Derived.StringKeys
namespace Go.Proofs.YtcallkljcjimiaaGreatDoor
def digsF (base : Nat) : Nat → Nat → List UInt8
 | 0, _ => []
 | f + 1, k => if k < base then [hexDigit k] else digsF base f (k / base) ++ [hexDigit (k % base)]
def digsB (base k : Nat) : List UInt8 := digsF base (k + 1) k
theorem digsF_fuel {base : Nat} (hb : 2 ≤ base) : ∀ (f g k : Nat), k < f → k < g → digsF base f k = digsF base g k := by
 intro f
 induction f with
 | zero => intro g k h; omega
 | succ f ih =>
  intro g k h1 h2
  cases g with
  | zero => omega
  | succ g =>
   simp only [digsF]
   split
   ·rfl
   ·rename_i hk
    have : k / base < k := Nat.div_lt_self (by omega) (by omega)
    rw [ih g (k / base) (by omega) (by omega)]
theorem digsB_small {base k : Nat} (h : k < base) : digsB base k = [hexDigit k] := by
 unfold digsB digsF
 rw [if_pos h]
theorem digsB_step {base k : Nat} (hb : 2 ≤ base) (h : ¬ k < base) : digsB base k = digsB base (k / base) ++ [hexDigit (k % base)] := by
 have hk : k / base < k := Nat.div_lt_self (by omega) (by omega)
 unfold digsB
 rw [show k + 1 = k.succ from rfl, digsF, if_neg h, digsF_fuel hb k (k / base + 1) (k / base) hk (by omega)]
theorem digsB_ind {base : Nat} (hb : 2 ≤ base) (p : Nat → List UInt8 → Prop) (h0 : ∀ k, k < base → p k [hexDigit k]) (h1 : ∀ k l, ¬ k < base → p (k / base) l → p k (l ++ [hexDigit (k % base)])) : ∀ n k, k < n → p k (digsB base k) := by
 intro n
 induction n with
 | zero => intro k h; omega
 | succ n ih =>
  intro k h
  by_cases hk : k < base
  ·rw [digsB_small hk]; exact h0 k hk
  ·rw [digsB_step hb hk]
   have : k / base < k := Nat.div_lt_self (by omega) (by omega)
   exact h1 k _ hk (ih _ (by omega))
theorem digsB_ne {base : Nat} (hb : 2 ≤ base) (k : Nat) : digsB base k ≠ [] :=
 digsB_ind hb (fun _ l => l ≠ []) (by simp) (by simp) (k + 1) k (by omega)
theorem hexDigit_val : ∀ d, d < 16 → digVal (hexDigit d) = d ∧ (48 ≤ (hexDigit d).toNat ∧ (hexDigit d).toNat ≤ 57 ∨ 97 ≤ (hexDigit d).toNat ∧ (hexDigit d).toNat ≤ 102) := by decide
theorem hexDigit_ten : ∀ d, d < 10 → 48 ≤ (hexDigit d).toNat ∧ (hexDigit d).toNat ≤ 57 := by decide
theorem digsB_val {base : Nat} (hb : 2 ≤ base) (hc : base ≤ 16) (k : Nat) : valOf base (digsB base k) = k :=
 digsB_ind hb (fun k l => valOf base l = k) (fun k hk => by
  have := (hexDigit_val k (by omega)).1
  simp [valOf, this]) (fun k l hk h => by
  have hm : k % base < base := Nat.mod_lt _ (by omega)
  rw [valOf_snoc, h, (hexDigit_val _ (by omega)).1, Nat.mul_comm]
  exact Nat.div_add_mod k base) (k + 1) k (by omega)
theorem digsB_all {base : Nat} (hb : 2 ≤ base) (hc : base ≤ 16) (p : UInt8 → Bool) (hp : ∀ d, d < base → p (hexDigit d) = true) (k : Nat) : ∀ c ∈ digsB base k, p c = true :=
 digsB_ind hb (fun _ l => ∀ c ∈ l, p c = true) (fun k hk c h => by
  rw [List.mem_singleton] at h
  rw [h]; exact hp k hk) (fun k l hk h c hc' => by
  rw [List.mem_append, List.mem_singleton] at hc'
  rcases hc' with hc' | rfl
  ·exact h c hc'
  ·exact hp _ (Nat.mod_lt _ (by omega))) (k + 1) k (by omega)
theorem spanN_all (p : UInt8 → Bool) (x : UInt8) (hx : p x = false) (r : List UInt8) : ∀ l : List UInt8, (∀ c ∈ l, p c = true) → spanN p (l ++ x :: r) = l.length
 | [], _ => by rw [List.nil_append, spanN_cons, hx]; rfl
 | c :: l, h => by
  rw [List.cons_append, spanN_cons, if_pos (h c (List.mem_cons_self ..)), spanN_all p x hx r l (fun c' h' => h c' (List.mem_cons_of_mem _ h'))]
  rfl
theorem hexDigit_not10 : ∀ d, d < 16 → (hexDigit d != 10) = true := by decide
theorem digsB_lines {base : Nat} (hb : 2 ≤ base) (hc : base ≤ 16) (k : Nat) : lines (digsB base k) = 0 := by
 unfold lines
 rw [List.count_eq_zero]
 intro h
 have := digsB_all hb hc (fun c => c != 10) (fun d hd => hexDigit_not10 d (by omega)) k 10 h
 simp at this
open Go.RowKit Go.Maps
set_option maxRecDepth 100000
set_option maxHeartbeats 400000 in
theorem op_arg (w : World) (bt : Nat) (p t : Int) (n : List UInt8) (hn : n.length ≤ 9223372036854775807) (h : p < 0 ∨ 1200 < p ∨ t < 1 ∨ 7 < t ∨ 1000 < n.length) :
    Calls Tryz.prog 35 #[.pointer (some ⟨bt, 0, none⟩), .int .i64 p, .int .i64 t, .string ⟨n.toArray⟩] w fun e w' => e = .returned (.int .i64 2) ∧ w = w' := by
 have H := Lib.hid h
 clear h
 by_cases h1 : p < 0
 ·go_enter Tryz.func35, Tryz.ntmps35
  go_wp2
  go_ret
  exact ⟨rfl, rfl⟩
 by_cases h2 : 1200 < p
 ·have h1' : 0 ≤ p := by omega
  clear h1
  go_enter Tryz.func35, Tryz.ntmps35
  go_wp2
  go_ret
  exact ⟨rfl, rfl⟩
 have h1' : 0 ≤ p := by omega
 have h2' : p ≤ 1200 := by omega
 clear h1 h2
 by_cases h3 : t < 1
 ·go_enter Tryz.func35, Tryz.ntmps35
  go_wp2
  go_ret
  exact ⟨rfl, rfl⟩
 by_cases h4 : 7 < t
 ·have h3' : 1 ≤ t := by omega
  clear h3
  go_enter Tryz.func35, Tryz.ntmps35
  go_wp2
  go_ret
  exact ⟨rfl, rfl⟩
 have h3' : 1 ≤ t := by omega
 have h4' : t ≤ 7 := by omega
 clear h3 h4
 have h5 : 1000 < n.length := by have := H.out; omega
 clear H
 go_enter Tryz.func35, Tryz.ntmps35
 go_wp2
 go_ret
 exact ⟨rfl, rfl⟩
set_option maxHeartbeats 400000 in
theorem op_perm (w : World) (bt : Nat) (p t : Int) (n : List UInt8) (hn : n.length ≤ 1000) (h1 : 0 ≤ p) (h2 : p ≤ 1200) (h3 : 1 ≤ t) (h4 : t ≤ 7) (h : n = [44] ∨ n = [124] ∨ n = [91, 93] ∨ n = [123, 125]) :
    Calls Tryz.prog 35 #[.pointer (some ⟨bt, 0, none⟩), .int .i64 p, .int .i64 t, .string ⟨n.toArray⟩] w fun e w' => e = .returned (.int .i64 15) ∧ w = w' := by
 rcases h with rfl | rfl | rfl | rfl
 all_goals
  go_enter Tryz.func35, Tryz.ntmps35
  go_wp2
  go_ret
  exact ⟨rfl, rfl⟩
theorem op_any (w : World) (bt bm : Nat) (es : List (OpK × OpV)) (hT : TabAt w bt bm es) (hK : KindsAt w) (hbb : bt ≠ bm) (p t : Int) (n : List UInt8) (hn : n.length ≤ 9223372036854775807) :
    Calls Tryz.prog 35 #[.pointer (some ⟨bt, 0, none⟩), .int .i64 p, .int .i64 t, .string ⟨n.toArray⟩] w fun e w' =>
     e = .returned (.int .i64 (opErr es p t n)) ∧ TabAt w' bt bm (opTab es p t n) ∧ Fr (· = bm) w w' := by
 unfold opTab
 by_cases c1 : p < 0 ∨ 1200 < p ∨ t < 1 ∨ 7 < t ∨ 1000 < n.length
 ·have e1 : opErr es p t n = 2 := by unfold opErr; rw [if_pos c1]
  rw [e1]
  refine (op_arg w bt p t n hn c1).mono ?_
  rintro e w' ⟨rfl, rfl⟩
  exact ⟨rfl, by simpa using hT, Fr.refl _ _⟩
 by_cases c2 : n = [44] ∨ n = [124] ∨ n = [91, 93] ∨ n = [123, 125]
 ·have e1 : opErr es p t n = 15 := by unfold opErr; rw [if_neg c1, if_pos c2]
  rw [e1]
  refine (op_perm w bt p t n (by omega) (by omega) (by omega) (by omega) (by omega) c2).mono ?_
  rintro e w' ⟨rfl, rfl⟩
  exact ⟨rfl, by simpa using hT, Fr.refl _ _⟩
 obtain ⟨t, rfl⟩ := Int.eq_ofNat_of_zero_le (show 0 ≤ t by omega)
 simp only [not_or] at c2
 obtain ⟨d1, d2, d3, d4⟩ := c2
 have hs3 : kSort t = 1 ∨ kSort t = 2 ∨ kSort t = 3 := by unfold kSort; repeat' split <;> omega
 have hnl : n.length ≤ 1000 := by omega
 have c2' : ¬ (n = [44] ∨ n = [124] ∨ n = [91, 93] ∨ n = [123, 125]) := by simp only [not_or]; exact ⟨d1, d2, d3, d4⟩
 by_cases c3 : p = 0
 ·subst c3
  have e1 : opErr es 0 t n = 0 := by unfold opErr; rw [if_neg c1, if_neg c2', if_pos rfl]
  rw [e1, if_neg (by simp), if_pos rfl]
  rcases hs3 with hs | hs | hs <;> rw [hs]
  ·exact op_del1 w bt bm es hT hK hbb 0 t n hnl ⟨rfl, trivial⟩ (by omega) d1 d2 d3 d4 hs
  ·exact op_del2 w bt bm es hT hK hbb 0 t n hnl ⟨rfl, trivial⟩ (by omega) d1 d2 d3 d4 hs
  ·exact op_del3 w bt bm es hT hK hbb 0 t n hnl ⟨rfl, trivial⟩ (by omega) d1 d2 d3 d4 hs
 have e0 : opErr es p t n = if (kSort t = 2 ∧ (mget es (3, n)).isSome = true) ∨ (kSort t = 3 ∧ (mget es (2, n)).isSome = true) then 15
     else if 256 ≤ es.length ∧ (mget es (kSort t, n)).isSome = false then 9 else 0 := by unfold opErr; rw [if_neg c1, if_neg c2', if_neg c3]
 rcases hs3 with hs | hs | hs
 ·rw [hs] at e0 ⊢
  by_cases hr : 256 ≤ es.length
  ·cases hh : (mget es (1, n)).isSome
   ·have e1 : opErr es p t n = 9 := by rw [e0]; simp [hr, hh]
    rw [e1, if_pos (by simp)]
    exact op_full1 w bt bm es hT hK p t n hnl (by omega) (by omega) d1 d2 d3 d4 hs hr hh
   ·have e1 : opErr es p t n = 0 := by rw [e0]; simp [hh]
    rw [e1, if_neg (by simp), if_neg c3]
    exact op_ok11 w bt bm es hT hK hbb p t n hnl (by omega) (by omega) d1 d2 d3 d4 hs hr hh
  ·have e1 : opErr es p t n = 0 := by rw [e0]; simp [hr]
   rw [e1, if_neg (by simp), if_neg c3]
   exact op_ok10 w bt bm es hT hK hbb p t n hnl (by omega) (by omega) d1 d2 d3 d4 hs (by omega)
 ·rw [hs] at e0 ⊢
  cases hq : (mget es (3, n)).isSome
  ·by_cases hr : 256 ≤ es.length
   ·cases hh : (mget es (2, n)).isSome
    ·have e1 : opErr es p t n = 9 := by rw [e0]; simp [hr, hh, hq]
     rw [e1, if_pos (by simp)]
     exact op_full2 w bt bm es hT hK p t n hnl (by omega) (by omega) d1 d2 d3 d4 hs hr hh hq
    ·have e1 : opErr es p t n = 0 := by rw [e0]; simp [hh, hq]
     rw [e1, if_neg (by simp), if_neg c3]
     exact op_ok21 w bt bm es hT hK hbb p t n hnl (by omega) (by omega) d1 d2 d3 d4 hs hr hh hq
   ·have e1 : opErr es p t n = 0 := by rw [e0]; simp [hr, hq]
    rw [e1, if_neg (by simp), if_neg c3]
    exact op_ok20 w bt bm es hT hK hbb p t n hnl (by omega) (by omega) d1 d2 d3 d4 hs (by omega) hq
  ·have e1 : opErr es p t n = 15 := by rw [e0]; simp [hq]
   rw [e1, if_pos (by simp)]
   exact op_conf2 w bt bm es hT hK p t n hnl (by omega) (by omega) d1 d2 d3 d4 hs hq
 ·rw [hs] at e0 ⊢
  cases hq : (mget es (2, n)).isSome
  ·by_cases hr : 256 ≤ es.length
   ·cases hh : (mget es (3, n)).isSome
    ·have e1 : opErr es p t n = 9 := by rw [e0]; simp [hr, hh, hq]
     rw [e1, if_pos (by simp)]
     exact op_full3 w bt bm es hT hK p t n hnl (by omega) (by omega) d1 d2 d3 d4 hs hr hh hq
    ·have e1 : opErr es p t n = 0 := by rw [e0]; simp [hh, hq]
     rw [e1, if_neg (by simp), if_neg c3]
     exact op_ok31 w bt bm es hT hK hbb p t n hnl (by omega) (by omega) d1 d2 d3 d4 hs hr hh hq
   ·have e1 : opErr es p t n = 0 := by rw [e0]; simp [hr, hq]
    rw [e1, if_neg (by simp), if_neg c3]
    exact op_ok30 w bt bm es hT hK hbb p t n hnl (by omega) (by omega) d1 d2 d3 d4 hs (by omega) hq
  ·have e1 : opErr es p t n = 15 := by rw [e0]; simp [hq]
   rw [e1, if_pos (by simp)]
   exact op_conf3 w bt bm es hT hK p t n hnl (by omega) (by omega) d1 d2 d3 d4 hs hq
theorem RowsAt.lt {w : World} {bs : Nat} (h : RowsAt w bs) : bs < w.heap.size := World.block_lt_of_cell? w _ (h 0 (by omega)).1
theorem dec_digs : ∀ (n u : Nat), u < n → Lib.decDigits u = digsB 10 u
 | 0, _, h => absurd h (Nat.not_lt_zero _)
 | n + 1, u, h => by
  by_cases hu : u < 10
  ·rw [digsB_small hu, Lib.decDigits, dif_pos hu]
   unfold hexDigit
   rw [if_pos hu]
  ·rw [digsB_step (by omega) hu, Lib.decDigits, dif_neg hu, dec_digs n (u / 10) (by omega)]
   unfold hexDigit
   rw [if_pos (by omega)]
theorem dec_all (u : Nat) : ∀ c ∈ Lib.decDigits u, 48 ≤ c.toNat ∧ c.toNat ≤ 57 := fun c hc => by
 rw [dec_digs (u + 1) u (by omega)] at hc
 have := digsB_all (base := 10) (by omega) (by omega) (fun c => decide (48 ≤ c.toNat ∧ c.toNat ≤ 57)) (fun d hd => by simpa using hexDigit_ten d hd) u c hc
 simpa using this
theorem dec_ne (u : Nat) : Lib.decDigits u ≠ [] := by
 rw [dec_digs (u + 1) u (by omega)]
 exact digsB_ne (by omega) u
theorem dec_lines (u : Nat) : lines (Lib.decDigits u) = 0 := by
 rw [dec_digs (u + 1) u (by omega)]
 exact digsB_lines (by omega) (by omega) u
theorem parse_dec (u : Nat) (hu : u ≤ 9223372036854775808) : parseF 10 (Lib.decDigits u) = (tops u, 0) := by
 rw [dec_digs (u + 1) u (by omega)]
 unfold parseF
 have hd : digitsIn 10 (digsB 10 u) = true := by
  unfold digitsIn
  rw [List.all_eq_true]
  exact digsB_all (by omega) (by omega) (fun c => decide (digVal c < 10)) (fun d hd => by simp only [decide_eq_true_eq]; rw [(hexDigit_val d (by omega)).1]; exact hd) u
 rw [if_neg (by simp [digsB_ne, hd]), digsB_val (by omega) (by omega), if_neg (by omega)]
theorem digit_sort {c : UInt8} (h : 48 ≤ c.toNat ∧ c.toNat ≤ 57) : bsort c = 4 := by
 unfold bsort bsortI
 rw [if_neg (by omega), if_neg (by omega), if_neg (by omega), if_pos (by omega)]
theorem digit_val {c : UInt8} (h : 48 ≤ c.toNat ∧ c.toNat ≤ 57) : digVal c < 10 := by
 unfold digVal
 rw [if_pos h]
 omega
theorem lex_blank (f : Nat) (l : List UInt8) (line : Nat) (first : Bool) (hf : l.length + 1 < f) : lexF f (32 :: l) line first = lexF f l line true := by
 have hs : skipB (32 :: l) = skipB l := by
  unfold skipB
  rw [List.length_cons, skipF_cons, if_pos (by decide)]
 have hle := skipB_len l
 rw [lexF_step f (32 :: l) line first (by rw [List.length_cons]; omega), lexF_step f l line true (by omega), hs]
 have e : lines ((32 :: l).take ((32 :: l).length - (skipB l).1.length)) = lines (l.take (l.length - (skipB l).1.length)) := by
  rw [List.length_cons, show l.length + 1 - (skipB l).1.length = (l.length - (skipB l).1.length) + 1 by omega, List.take_succ_cons]
  unfold lines
  rw [List.count_cons]
  simp
 have e2 : ((skipB l).1.length == (32 :: l).length) = false := by rw [beq_eq_false_iff_ne, List.length_cons]; omega
 rw [e, e2]
 simp
theorem sign_tok (x : UInt8) (r : List UInt8) (hx : isSign x = false) : tokF (45 :: x :: r) = some ⟨1, 0, [45], 1⟩ := by
 have e1 : bsort 45 = 5 := by decide
 have e2 : spanN isSign (45 :: x :: r) = 1 := by
  rw [spanN_cons, spanN_cons, if_pos (by decide), hx]
  rfl
 unfold tokF
 simp only
 rw [if_neg (fun h => absurd h.1 (by decide)), if_neg (by rw [e1]; decide), if_pos e1, e2]
 rfl
section
variable (m : Int)
end
theorem tops_small {u : Nat} (h : u ≤ 9223372036854775807) : tops u = (u : Int) := by unfold tops; rw [if_neg (by omega)]
theorem neg_tops {u : Nat} (h : u ≤ 9223372036854775808) : negI (tops u) = -(u : Int) := by
 unfold tops negI
 split
 ·rw [if_pos rfl]; omega
 ·rw [if_neg (by omega)]
end Go.Proofs.YtcallkljcjimiaaGreatDoor
