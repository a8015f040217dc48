import Derived.Test.YtiffopheamnngaaGreatDoorJT26
namespace Go.Proofs.YtiffopheamnngaaGreatDoor
open Go.RowKit Go.Maps
set_option maxRecDepth 100000
theorem ToksAt.up {w : World} {B B' n : Nat} {A : Option Addr} {l : List Tok} (h : ToksAt w B A n l) (hB : B ≤ B') : ToksAt w B' A n l :=
 ⟨h.len, fun i t ht => by
  obtain ⟨b, off, e1, e2, r⟩ := h.at' i t ht
  exact ⟨b, off, e1, Nat.lt_of_lt_of_le e2 hB, r⟩⟩
def rdE (rb B : Nat) (ts : List Tok) (bt bm : Nat) (es : List (OpK × OpV)) (bb mb pb : Nat) : RdE := ⟨rb, B, ts, bt, bm, es, bb, mb, [(pb, #[.pointer (some ⟨rb, 0, none⟩)], 67)]⟩
def rdV (A : Option Addr) (n c bt bb mb : Nat) : RdV := ⟨A, n, c, .pointer (some ⟨bt, 0, none⟩), .map (some bb), .slice none 0 0, ⟨0, 0, [], none, 0, 0⟩, .map (some mb), .slice none 0 0⟩
def rdS0 (k : Nat) : RdS := ⟨k, [], 0, false, .mk 0 0 [] [], 0, [], [], 0⟩
theorem rdS0_want (k : Nat) : (rdS0 k).want 1200 = startF k := rfl
theorem rd_start {w W : World} {A : Option Addr} {n c : Nat} {ts : List Tok} {k bt bm : Nat} {es : List (OpK × OpV)} {rb B bb mb pb : Nat} (hT : ToksAt w w.heap.size A n ts) (hf : ts.length ≤ 20000) (hkl : k < ts.length) (hTab : TabAt w bt bm es) (hK : KindsAt w)
    (hsh : ∀ t ∈ ts, t.s.length ≤ 1000000) (hnm : ∀ t ∈ ts, (-9223372036854775808 ≤ t.n ∧ t.n ≤ 9223372036854775807) ∧ okI t.kind) (hb : Below w.heap.size w W) (hB : w.heap.size ≤ B) (hrb : B ≤ rb) (hmb : B ≤ mb) (n1 : mb ≠ rb) (n2 : rb < bb) (n3 : mb ≠ bb)
    (u3 : W.heap[mb]? = some (.map #[] 0)) (u4 : W.heap[rb]? = some (.cells #[.slice A n c, .int .i64 (k : Nat), .pointer (some ⟨bt, 0, none⟩), .map (some bb), .slice none 0 0, .int .i64 0, .bool false, .int .i64 0, .int .i64 0, .string ⟨#[]⟩, .slice none 0 0, .int .i64 0, .map (some mb), .slice none 0 0, .int .i64 0] 72 (0, 0)))
    (u5 : W.heap[pb]? = some (.cells #[.pointer (some ⟨rb, 0, none⟩)] 67 (0, 0))) (hM : MapAt W bb evI (evF rb) begL) : RdInv (rdE rb B ts bt bm es bb mb pb) W (rdV A n c bt bb mb) (rdS0 k) [] := by
 have hleft : leftF ts (rdS0 k) = 3 * (ts.length - k) + 0 + 1 := rfl
 have hbt := hTab.lt
 have hbm := hTab.map.lt
 have hkd := hK.lt
 exact {
  r := ⟨u4, (hT.keep hb.block).up hB, hrb, hf, Nat.le_of_lt hkl⟩
  row := Row.nil _ _ _ _ _
  vb := rfl
  ob := rfl
  bv := rfl
  mbr := n1
  Bmb := hmb
  rbb := n2
  mbb := n3
  vars := ⟨⟨⟨#[], 0, u3, rfl, MapKept.stamped_empty 0⟩, by simp [rdS0]⟩, fun x hx => by cases hx⟩
  beg := hM
  nm := Row.nil _ _ _ _ _
  tab := hTab.later hb
  kinds := hK.later hb
  btr := Nat.lt_of_lt_of_le hbt hB
  bmr := Nat.lt_of_lt_of_le hbm hB
  kr := Nat.lt_of_lt_of_le hkd hB
  tie := .nil
  x := .leaf _ _ _ _ _ _ _ (Nat.zero_le _)
  fix := fun p hp => by
   rcases List.mem_singleton.1 hp with rfl
   exact ⟨u5, (fun e => by cases e), (show (67 : TypeId) ≠ 72 by decide), (show (67 : TypeId) ≠ 120 by decide), (show (67 : TypeId) ≠ 54 by decide)⟩
  nd := List.nodup_nil
  short := hsh
  num := hnm
  left := by show leftF ts (rdS0 k) ≤ _; omega
  ll := fun w hw => by cases hw
  c0 := Int.le_refl _
  cn := by show (0 : Int) + (leftF ts (rdS0 k) : Int) ≤ _; omega
  nn := by show 0 + leftF ts (rdS0 k) ≤ _; omega }
end Go.Proofs.YtiffopheamnngaaGreatDoor
