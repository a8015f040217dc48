import Derived.Test.YtiffopheamnngaaGreatDoorJT21
namespace Go.Proofs.YtiffopheamnngaaGreatDoor
open Go.RowKit Go.Maps
set_option maxRecDepth 100000
theorem isP_no {ts : List Tok} {i : Nat} {c : UInt8} (h : (peekF ts i).kind ≠ 6) : isP ts i c = false := by
 unfold isP
 rw [decide_eq_false h]
 rfl
theorem isP_is {ts : List Tok} {i : Nat} {c : UInt8} (h : (peekF ts i).kind = 6) : isP ts i c = decide ((peekF ts i).s = [c]) := by
 unfold isP
 rw [decide_eq_true h]
 rfl
theorem primary_anyQ {n : Nat} (hT : RTermC n) {E : RqE} {u : World} {nv : Value} {q : QS} (h : RqAt E u nv q false) (hn : E.ts.length - q.at' < n + 1) (most : Int) :
    Calls Tryz.prog 66 #[.pointer (some ⟨E.rb, 0, none⟩), .int .i64 most] u fun e u' => RqPost E u nv (primaryQ (opsQ E.es) E.ts (termQ (opsQ E.es) E.ts n) most q) e u' := by
 have hp : primaryQ (opsQ E.es) E.ts (termQ (opsQ E.es) E.ts n) most q = primaryQ (opsQ E.es) E.ts (termQ (opsQ E.es) E.ts n) most q := rfl
 conv at hp => rhs; unfold primaryQ
 dsimp only at hp
 by_cases h3 : (peekF E.ts q.at').kind = 3
 ·rw [if_pos h3] at hp
  by_cases hneg : (peekF E.ts q.at').n < 0
  ·rw [if_pos hneg] at hp
   exact prim_3n h most _ rfl _ hp h3 hneg
  ·rw [if_neg hneg] at hp
   exact prim_3p h most _ rfl _ hp h3 hneg
 rw [if_neg h3] at hp
 by_cases h4 : (peekF E.ts q.at').kind = 4
 ·rw [if_pos h4] at hp
  exact prim_4 h most _ rfl _ hp h4
 rw [if_neg h4] at hp
 by_cases h5 : (peekF E.ts q.at').kind = 5
 ·rw [if_pos h5] at hp
  exact prim_5 h most _ rfl _ hp h5
 rw [if_neg h5] at hp
 by_cases h6 : (peekF E.ts q.at').kind = 6
 ·rw [if_pos h6] at hp
  by_cases s40 : (peekF E.ts q.at').s = [40]
  ·rw [if_pos s40] at hp
   exact prim_paren hT h hn most _ rfl _ hp h6 (by rw [isP_is h6]; exact decide_eq_true s40)
  rw [if_neg s40] at hp
  have q40 : isP E.ts q.at' 40 = false := by rw [isP_is h6]; exact decide_eq_false s40
  by_cases s91 : (peekF E.ts q.at').s = [91]
  ·rw [if_pos s91] at hp
   have q91 : isP E.ts q.at' 91 = true := by rw [isP_is h6]; exact decide_eq_true s91
   cases q93 : isP E.ts (q.at' + 1) 93 with
   | true =>
    rw [q93, if_pos rfl] at hp
    exact prim_pair91 hT h hn most _ rfl _ hp h6 q40 q91 q93
   | false =>
    rw [q93, if_neg (show ¬ (false = true) by decide)] at hp
    exact prim_list hT h hn most _ rfl _ hp h6 q40 q91 q93
  rw [if_neg s91] at hp
  have q91 : isP E.ts q.at' 91 = false := by rw [isP_is h6]; exact decide_eq_false s91
  by_cases s123 : (peekF E.ts q.at').s = [123]
  ·rw [if_pos s123] at hp
   have q123 : isP E.ts q.at' 123 = true := by rw [isP_is h6]; exact decide_eq_true s123
   cases q125 : isP E.ts (q.at' + 1) 125 with
   | true =>
    rw [q125, if_pos rfl] at hp
    exact prim_pair123 hT h hn most _ rfl _ hp h6 q40 q91 q123 q125
   | false =>
    rw [q125, if_neg (show ¬ (false = true) by decide)] at hp
    exact prim_brace hT h hn most _ rfl _ hp h6 q40 q91 q123 q125
  rw [if_neg s123] at hp
  exact prim_bad h most _ rfl _ hp h3 h4 h5 (by omega) (by omega) q40 q91 (by rw [isP_is h6]; exact decide_eq_false s123)
 rw [if_neg h6] at hp
 by_cases h12 : (peekF E.ts q.at').kind = 1 ∨ (peekF E.ts q.at').kind = 2
 ·rw [if_pos h12] at hp
  by_cases hm : (peekF E.ts q.at').kind = 1 ∧ (peekF E.ts q.at').s = [45] ∧ (peekF E.ts (q.at' + 1)).kind = 3 ∧ (peekF E.ts (q.at' + 1)).tight = true
  ·rw [if_pos hm] at hp
   exact prim_neg h most _ rfl _ hp hm.1 hm.2.1 hm.2.2.1 hm.2.2.2 (isP_no h6) (isP_no h6) (isP_no h6)
  ·rw [if_neg hm] at hp
   exact prim_12 hT h hn most _ rfl _ hp h12 (isP_no h6) (isP_no h6) (isP_no h6) hm
 rw [if_neg h12] at hp
 exact prim_bad h most _ rfl _ hp h3 h4 h5 (fun e => h12 (.inl e)) (fun e => h12 (.inr e)) (isP_no h6) (isP_no h6) (isP_no h6)
end Go.Proofs.YtiffopheamnngaaGreatDoor
