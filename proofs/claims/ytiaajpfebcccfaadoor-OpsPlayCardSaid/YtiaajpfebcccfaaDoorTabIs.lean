/-
  What Is answers: whether the name is an operator of any sort. Condition: the table's block holds a map of well-formed operators.
-/
import Derived.Test.YtiaajpfebcccfaaDoorTab
namespace Go.Proofs.YtiaajpfebcccfaaDoor
open Go.RowKit Go.Maps
set_option maxRecDepth 100000

def isOp (es : List (OpK × OpV)) (n : List UInt8) : Bool := (mget es (1, n)).isSome || ((mget es (2, n)).isSome || (mget es (3, n)).isSome)

set_option maxHeartbeats 400000 in
theorem is_any (w : World) (bt bm : Nat) (es : List (OpK × OpV)) (hT : TabAt w bt bm es) (n : List UInt8) (hn : OkName n) :
    Calls Tryd.prog 17 #[.pointer (some ⟨bt, 0, none⟩), .string ⟨n.toArray⟩] w fun e w' => e = .returned (.bool (isOp es n)) ∧ Below w.heap.size w w' := by
  unfold isOp
  cases h1 : (mget es (1, n)).isSome
  · cases h2 : (mget es (2, n)).isSome
    · go_enter Tryd.func17, Tryd.ntmps17
      go_wp2_with fail
      refine (has_any _ bt bm es hT 1 n (hn.k 1 (by omega))).mono ?_
      rintro e w1 ⟨rfl, hb1⟩
      go_wp2_with fail
      refine (has_any _ bt bm es (hT.later hb1) 2 n (hn.k 2 (by omega))).mono ?_
      rintro e w2 ⟨rfl, hb2⟩
      go_wp2_with fail
      refine (has_any _ bt bm es ((hT.later hb1).later hb2) 3 n (hn.k 3 (by omega))).mono ?_
      rintro e w3 ⟨rfl, hb3⟩
      go_wp2_with fail
      go_ret
      exact ⟨rfl, (hb1.trans (hb2.mono hb1.size)).trans (hb3.mono (Nat.le_trans hb1.size hb2.size))⟩
    · go_enter Tryd.func17, Tryd.ntmps17
      go_wp2_with fail
      refine (has_any _ bt bm es hT 1 n (hn.k 1 (by omega))).mono ?_
      rintro e w1 ⟨rfl, hb1⟩
      go_wp2_with fail
      refine (has_any _ bt bm es (hT.later hb1) 2 n (hn.k 2 (by omega))).mono ?_
      rintro e w2 ⟨rfl, hb2⟩
      go_wp2_with fail
      go_ret
      exact ⟨rfl, hb1.trans (hb2.mono hb1.size)⟩
  · go_enter Tryd.func17, Tryd.ntmps17
    go_wp2_with fail
    refine (has_any _ bt bm es hT 1 n (hn.k 1 (by omega))).mono ?_
    rintro e w1 ⟨rfl, hb1⟩
    go_wp2_with fail
    go_ret
    exact ⟨rfl, hb1⟩
end Go.Proofs.YtiaajpfebcccfaaDoor
