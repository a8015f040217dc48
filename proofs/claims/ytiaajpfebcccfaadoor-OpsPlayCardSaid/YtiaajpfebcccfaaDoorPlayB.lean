/-
  What the document's table answers through Prefix, Infix, Postfix, Is. Conditions: the table's block holds a slice that reads as a list of definitions; its priorities are 0 to 1200.
-/
import Derived.Test.YtiaajpfebcccfaaDoorPlayA
import Derived.StillTailTactics
namespace Go.Proofs.YtiaajpfebcccfaaDoor
open Go.RowKit Go.Maps
set_option maxRecDepth 100000

def PriOk (L : List DefT) : Prop := ∀ n s, 0 ≤ (rfind L n s).1 ∧ (rfind L n s).1 ≤ 1200
theorem Agree.priOk {es : List (OpK × OpV)} {L : List DefT} (h : Agree es L) : PriOk L := fun n s => by
  rcases h.get n s with ⟨_, e⟩ | ⟨p, t, _, e, _, _, _, h3, h4⟩
  · rw [e]; simp
  · rw [e]; simp only; omega
theorem def_pri (a b : Int) (c : ByteArray) (w : World) : (Instr.field 29 (.agg #[.int .i64 a, .int .i64 b, .string c]) 0).run Tryd.prog w = .ok (.int .i64 a) w := by kernel_rfl
theorem enc_lit (d : DefT) : (encDef d).toArray = #[.int .i64 d.1, .int .i64 d.2.1, .string ⟨d.2.2.toArray⟩] := rfl

set_option maxHeartbeats 2000000 in
theorem rPrefix_any (w : World) (rt : Nat) (L : List DefT) (h : RTab w rt L) (n : List UInt8) (hL : L.length ≤ 100000) (hp : PriOk L) :
    Calls Tryd.prog 12 #[.pointer (some ⟨rt, 0, none⟩), .string ⟨n.toArray⟩] w fun e w' => e = .returned (.tuple #[.int .i64 (rPre L n).1, .int .i64 (rPre L n).2]) ∧ Below w.heap.size w w' := by
  have HF := Lib.hid (find_any w rt L h n 1 hL)
  obtain ⟨p1, p2⟩ := hp n 1
  unfold rPre
  generalize rfind L n 1 = d at *
  obtain ⟨x1, x2, x3⟩ := d
  simp only at p1 p2
  clear h hp
  by_cases e4 : x2 = 4
  case' pos => subst e4
  all_goals
    go_enter Tryd.func12, Tryd.ntmps12
    go_wp2_with fail
    refine HF.out.mono ?_
    rintro e w1 ⟨rfl, hb1⟩
    rw [enc_lit]
    have HB := Lib.hid hb1
    clear hb1
    go_wp2_with fail
    go_quiet (fail)
    go_wp2
    go_ret2
  · exact ⟨by simp, below_drewN (HB.out.alloc HB.out.size _) _⟩
  · exact ⟨by simp, below_drewN (HB.out.alloc HB.out.size _) _⟩

set_option maxHeartbeats 2000000 in
theorem rPostfix_any (w : World) (rt : Nat) (L : List DefT) (h : RTab w rt L) (n : List UInt8) (hL : L.length ≤ 100000) (hp : PriOk L) :
    Calls Tryd.prog 16 #[.pointer (some ⟨rt, 0, none⟩), .string ⟨n.toArray⟩] w fun e w' => e = .returned (.tuple #[.int .i64 (rPost L n).1, .int .i64 (rPost L n).2]) ∧ Below w.heap.size w w' := by
  have HF := Lib.hid (find_any w rt L h n 3 hL)
  obtain ⟨p1, p2⟩ := hp n 3
  unfold rPost
  generalize rfind L n 3 = d at *
  obtain ⟨x1, x2, x3⟩ := d
  simp only at p1 p2
  clear h hp
  by_cases e4 : x2 = 6
  case' pos => subst e4
  all_goals
    go_enter Tryd.func16, Tryd.ntmps16
    go_wp2_with fail
    refine HF.out.mono ?_
    rintro e w1 ⟨rfl, hb1⟩
    rw [enc_lit]
    have HB := Lib.hid hb1
    clear hb1
    go_wp2_with fail
    go_quiet (fail)
    go_wp2
    go_ret2
  · exact ⟨by simp, below_drewN (HB.out.alloc HB.out.size _) _⟩
  · exact ⟨by simp, below_drewN (HB.out.alloc HB.out.size _) _⟩

def rInOf (d : DefT) : Int × Int × Int := (d.1, if d.2.1 = 1 ∨ d.2.1 = 2 then d.1 - 1 else d.1, if d.2.1 = 1 ∨ d.2.1 = 3 then d.1 - 1 else d.1)
set_option maxHeartbeats 4000000 in
theorem rInfix_any (w : World) (rt : Nat) (L : List DefT) (h : RTab w rt L) (n : List UInt8) (hL : L.length ≤ 100000) (hp : PriOk L) :
    Calls Tryd.prog 14 #[.pointer (some ⟨rt, 0, none⟩), .string ⟨n.toArray⟩] w fun e w' => e = .returned (.tuple #[.int .i64 (rIn L n).1, .int .i64 (rIn L n).2.1, .int .i64 (rIn L n).2.2]) ∧ Below w.heap.size w w' := by
  have HF := Lib.hid (find_any w rt L h n 2 hL)
  obtain ⟨p1, p2⟩ := hp n 2
  rw [show rIn L n = rInOf (rfind L n 2) from rfl]
  generalize rfind L n 2 = d at *
  obtain ⟨x1, x2, x3⟩ := d
  simp only at p1 p2
  clear h hp
  rcases (show x2 = 1 ∨ x2 = 2 ∨ x2 = 3 ∨ (x2 ≠ 1 ∧ x2 ≠ 2 ∧ x2 ≠ 3) by omega) with rfl | rfl | rfl | ⟨e1, e2, e3⟩
  · rw [show rInOf (x1, 1, x3) = (x1, x1 - 1, x1 - 1) from by simp [rInOf]]
    go_enter Tryd.func14, Tryd.ntmps14
    go_wp2_with fail
    refine HF.out.mono ?_
    rintro e w1 ⟨rfl, hb1⟩
    rw [enc_lit]
    have HB := Lib.hid hb1
    clear hb1
    go_wp2_with fail
    go_quiet (fail)
    go_wp2
    go_ret3
    exact ⟨rfl, below_drewN (HB.out.alloc HB.out.size _) _⟩
  · rw [show rInOf (x1, 2, x3) = (x1, x1 - 1, x1) from by simp [rInOf]]
    go_enter Tryd.func14, Tryd.ntmps14
    go_wp2_with fail
    refine HF.out.mono ?_
    rintro e w1 ⟨rfl, hb1⟩
    rw [enc_lit]
    have HB := Lib.hid hb1
    clear hb1
    go_wp2_with fail
    go_quiet (fail)
    go_wp2
    go_ret3
    exact ⟨rfl, below_drewN (HB.out.alloc HB.out.size _) _⟩
  · rw [show rInOf (x1, 3, x3) = (x1, x1, x1 - 1) from by simp [rInOf]]
    go_enter Tryd.func14, Tryd.ntmps14
    go_wp2_with fail
    refine HF.out.mono ?_
    rintro e w1 ⟨rfl, hb1⟩
    rw [enc_lit]
    have HB := Lib.hid hb1
    clear hb1
    go_wp2_with fail
    go_quiet (fail)
    go_wp2
    go_ret3
    exact ⟨rfl, below_drewN (HB.out.alloc HB.out.size _) _⟩
  · rw [show rInOf (x1, x2, x3) = (x1, x1, x1) from by simp [rInOf, e1, e2, e3]]
    have b1 : (x2 == 1) = false := by simpa using e1
    have b2 : (x2 == 2) = false := by simpa using e2
    have b3 : (x2 == 3) = false := by simpa using e3
    clear e1 e2 e3
    go_enter Tryd.func14, Tryd.ntmps14
    go_wp2_with fail
    refine HF.out.mono ?_
    rintro e w1 ⟨rfl, hb1⟩
    rw [enc_lit]
    have HB := Lib.hid hb1
    clear hb1
    go_wp2_with fail
    go_quiet (fail)
    go_wp2
    go_ret3
    exact ⟨rfl, below_drewN (HB.out.alloc HB.out.size _) _⟩

set_option maxHeartbeats 2000000 in
theorem rIs_any (w : World) (rt : Nat) (L : List DefT) (h : RTab w rt L) (n : List UInt8) (hL : L.length ≤ 100000) :
    Calls Tryd.prog 18 #[.pointer (some ⟨rt, 0, none⟩), .string ⟨n.toArray⟩] w fun e w' => e = .returned (.bool (rIs L n)) ∧ Below w.heap.size w w' := by
  unfold rIs
  have H := Lib.hid h
  have hfd := def_pri
  clear h
  cases h1 : decide (0 < (rfind L n 1).1)
  · have h1' := of_decide_eq_false h1
    cases h2 : decide (0 < (rfind L n 2).1)
    · have h2' := of_decide_eq_false h2
      by_cases h3 : 0 < (rfind L n 3).1
      · have e3 := decide_eq_true h3
        go_enter Tryd.func18, Tryd.ntmps18
        go_wp2_with fail
        refine (find_any _ rt L H.out n 1 hL).mono ?_
        rintro e w1 ⟨rfl, hb1⟩
        rw [enc_lit]
        go_wp2_with fail
        refine (find_any _ rt L (H.out.later hb1) n 2 hL).mono ?_
        rintro e w2 ⟨rfl, hb2⟩
        rw [enc_lit]
        go_wp2_with fail
        refine (find_any _ rt L ((H.out.later hb1).later hb2) n 3 hL).mono ?_
        rintro e w3 ⟨rfl, hb3⟩
        rw [enc_lit]
        go_wp2_with fail
        go_ret
        exact ⟨by rw [e3]; rfl, (hb1.trans (hb2.mono hb1.size)).trans (hb3.mono (Nat.le_trans hb1.size hb2.size))⟩
      · have e3 := decide_eq_false h3
        go_enter Tryd.func18, Tryd.ntmps18
        go_wp2_with fail
        refine (find_any _ rt L H.out n 1 hL).mono ?_
        rintro e w1 ⟨rfl, hb1⟩
        rw [enc_lit]
        go_wp2_with fail
        refine (find_any _ rt L (H.out.later hb1) n 2 hL).mono ?_
        rintro e w2 ⟨rfl, hb2⟩
        rw [enc_lit]
        go_wp2_with fail
        refine (find_any _ rt L ((H.out.later hb1).later hb2) n 3 hL).mono ?_
        rintro e w3 ⟨rfl, hb3⟩
        rw [enc_lit]
        go_wp2_with fail
        go_ret
        exact ⟨by rw [e3]; rfl, (hb1.trans (hb2.mono hb1.size)).trans (hb3.mono (Nat.le_trans hb1.size hb2.size))⟩
    · have h2' := of_decide_eq_true h2
      go_enter Tryd.func18, Tryd.ntmps18
      go_wp2_with fail
      refine (find_any _ rt L H.out n 1 hL).mono ?_
      rintro e w1 ⟨rfl, hb1⟩
      rw [enc_lit]
      go_wp2_with fail
      refine (find_any _ rt L (H.out.later hb1) n 2 hL).mono ?_
      rintro e w2 ⟨rfl, hb2⟩
      rw [enc_lit]
      go_wp2_with fail
      go_ret
      exact ⟨rfl, hb1.trans (hb2.mono hb1.size)⟩
  · have h1' := of_decide_eq_true h1
    go_enter Tryd.func18, Tryd.ntmps18
    go_wp2_with fail
    refine (find_any _ rt L H.out n 1 hL).mono ?_
    rintro e w1 ⟨rfl, hb1⟩
    rw [enc_lit]
    go_wp2_with fail
    go_ret
    exact ⟨rfl, hb1⟩
end Go.Proofs.YtiaajpfebcccfaaDoor
