import Derived.Test.YtiffopheamnngaaGreatDoorJT33
import Derived.Test.YtiffopheamnngaaGreatDoorJT40
import Derived.Test.YtiffopheamnngaaGreatDoorJT17
import Derived.Test.YtiffopheamnngaaGreatDoorJT18
import Derived.Test.YtiffopheamnngaaGreatDoorJT23
namespace Go.Proofs.YtiffopheamnngaaGreatDoor
theorem getF_short (q : UInt8) : ∀ (f : Nat) (l : List UInt8) (i : Nat) (b t : List UInt8) (n : Nat), getF q f l i b = some (t, n) → t.length + i ≤ n + b.length := by
 intro f
 induction f with
 | zero => intro l i b t n h; cases l <;> cases h
 | succ f ih =>
  intro l i b t n h
  cases l with
  | nil => cases h
  | cons c r =>
   simp only [getF] at h
   split at h
   ·split at h
    ·have := ih _ _ _ _ _ h
     simp only [List.length_append, List.length_cons, List.length_nil] at this
     omega
    ·simp only [Option.some.injEq, Prod.mk.injEq] at h
     obtain ⟨rfl, rfl⟩ := h
     omega
   ·split at h
    ·cases h
    ·split at h
     ·have := ih _ _ _ _ _ h
      simp only [List.length_append, List.length_cons, List.length_nil] at this
      omega
     ·split at h
      ·cases h
      ·split at h
       ·have := ih _ _ _ _ _ h
        omega
       ·split at h
        ·have := ih _ _ _ _ _ h
         simp only [List.length_append, List.length_cons, List.length_nil] at this
         omega
        ·cases h
theorem getQ_short {q : UInt8} {l t : List UInt8} {n : Nat} (h : getQ q l = some (t, n)) : t.length ≤ n := by
 have := getF_short q _ _ _ _ _ _ h
 simpa using this
theorem tokF_short {l : List UInt8} {t : TokIs} (h : tokF l = some t) : t.s.length ≤ t.len := by
 cases l with
 | nil => cases h
 | cons c r =>
  unfold tokF at h
  simp only at h
  have tk : ∀ (n : Nat), ((c :: r).take n).length ≤ n := fun n => List.length_take_le _ _
  split at h
  ·cases h; simp
  ·split at h
   ·cases h; exact tk _
   ·split at h
    ·cases h; exact tk _
    ·split at h
     ·cases h; simp
     ·split at h
      ·cases h; exact tk _
      ·split at h
       ·cases hn : numberF (c :: r) with
        | none => rw [hn] at h; cases h
        | some x => rw [hn] at h; cases h; simp
       ·split at h
        ·cases hn : getQ 39 r with
         | none => rw [hn] at h; cases h
         | some x =>
          rw [hn] at h
          cases h
          have := getQ_short (t := x.1) (n := x.2) hn
          simp only
          omega
        ·split at h
         ·cases hn : getQ 34 r with
          | none => rw [hn] at h; cases h
          | some x =>
           rw [hn] at h
           cases h
           have := getQ_short (t := x.1) (n := x.2) hn
           simp only
           omega
         ·split at h
          ·cases h; simp
          ·cases h
def volA (ts : List Tok) : Nat := (ts.map fun t => 2 + 2 * t.s.length).sum
theorem vol_len (ts : List Tok) : vol ts ts.length = volA ts := by unfold vol volA; rw [List.take_length]
open Go.RowKit Go.Maps
set_option maxRecDepth 100000
structure RdEnv (w : World) : Prop where
 max : ∃ m : Int, w.cell? ⟨3, 0, none⟩ = some (.int .i64 m)
 kinds : KindsAt w
 tab : Lib.TabIs Tryz.prog w "strings.asciiSpace" .u8 Lib.asciiSpaceTab
theorem RdEnv.later {w w' : World} (h : RdEnv w) (hb : Below w.heap.size w w') : RdEnv w' := by
 obtain ⟨m, hm⟩ := h.max
 refine ⟨⟨m, ?_⟩, h.kinds.later hb, tabIs_keep h.tab (hb.block _ (tabIs_lt h.tab))⟩
 have := World.block_lt_of_cell? w _ hm
 exact (hb.cell (p := ⟨3, 0, none⟩) this).trans hm
theorem encTok_at (t : Tok) : (encTok t)[0]? = some (.int .i64 t.kind) ∧ (encTok t)[1]? = some (.int .i64 t.line) ∧ (encTok t)[2]? = some (.int .i64 t.n) ∧ (encTok t)[3]? = some (.string ⟨t.s.toArray⟩) ∧ (encTok t)[4]? = some (.bool t.opn) ∧ (encTok t)[5]? = some (.bool t.tight) := ⟨rfl, rfl, rfl, rfl, rfl, rfl⟩
theorem toks_row {w : World} {B n c : Nat} {A : Option Addr} {ts : List Tok} (h : Row w B 48 6 encTok (.slice A n c) ts) : ToksAt w w.heap.size A n ts := by
 refine ⟨h.len.symm, fun i t ht => ?_⟩
 have hne : ts ≠ [] := by intro e; rw [e] at ht; cases ht
 obtain ⟨g, cap, e1, _, hg, _, hc⟩ := h.cells encTok_len hne
 injection e1 with e1 e2 e3
 obtain ⟨q0, q1, q2, q3, q4, q5⟩ := encTok_at t
 have k0 := (hc i t ht 0 _ q0).1
 have k1 := (hc i t ht 1 _ q1).1
 have k2 := (hc i t ht 2 _ q2).1
 have k3 := (hc i t ht 3 _ q3).1
 have k4 := (hc i t ht 4 _ q4).1
 have k5 := (hc i t ht 5 _ q5).1
 refine ⟨g, 0, e1, hg, ?_, ?_, ?_, ?_, ?_, ?_⟩ <;> simp only [Nat.zero_add]
 ·exact k0
 ·exact k1
 ·exact k2
 ·exact k3
 ·exact k4
 ·exact k5
structure TokOk (ts : List Tok) : Prop where
 few : ts.length ≤ 20000
 short : ∀ t ∈ ts, t.s.length ≤ 1000000
 num : ∀ t ∈ ts, (-9223372036854775808 ≤ t.n ∧ t.n ≤ 9223372036854775807) ∧ okI t.kind
 vol : vol ts ts.length ≤ 10000000
theorem read_any (w : World) (A : Option Addr) (n c : Nat) (ts : List Tok) (hT : ToksAt w w.heap.size A n ts) (hk : TokOk ts) (i : Int) (bt bm : Nat) (es : List (OpK × OpV)) (hTab : TabAt w bt bm es) (hK : KindsAt w) :
    Calls Tryz.prog 8 #[.slice A n c, .int .i64 i, .pointer (some ⟨bt, 0, none⟩)] w fun e w' => ReadOut w w' (readF (opsOf es) ts i) e := by
 by_cases he : i < 0 ∨ (ts.length : Int) ≤ i ∨ (peekF ts i.toNat).kind = 0
 ·exact read_end w A n c ts hT i bt (opsOf es) he
 ·obtain ⟨k, rfl⟩ : ∃ k : Nat, i = (k : Int) := ⟨i.toNat, by omega⟩
  rw [Int.toNat_natCast] at he
  exact read_mid w A n c ts hT hk.few k (by omega) (fun h => he (.inr (.inr h))) bt bm es hTab hK hk.short hk.num hk.vol
theorem term_size {o : OpsF} {ts : List Tok} {k : Nat} {x : Tm × Int} {q : QS} (hx : termQ o ts (ts.length + 1) 1200 ⟨k, 0, []⟩ = .ok (x, q)) (h7 : (peekF ts q.at').kind = 7) : x.1.size ≤ vol ts ts.length := by
 obtain ⟨-, t2⟩ := term_sim o ts (ts.length + 1) (startF k) ⟨k, 0, []⟩ rfl ⟨rfl, rfl, rfl, rfl, fun _ h => by cases h⟩ (by simp only; omega)
 obtain ⟨n1, lt1, op1, e1⟩ := t2 x q hx
 have hw : ((startF k).put q x.1 x.2).wait = [] := rfl
 have hf : endF o ts (startF k) = .fin ((startF k).put q x.1 x.2) := by
  rw [e1, end_step]
  unfold roundF
  rw [if_neg (by simp [RdS.put]), op1, hw]
  dsimp only
  rw [if_neg (show ¬ (peekF ts ((startF k).put q x.1 x.2).at').kind ≠ 7 from fun e => e h7)]
 exact (read_small hf).1
theorem readQ_any (w : World) (A : Option Addr) (n c : Nat) (ts : List Tok) (hT : ToksAt w w.heap.size A n ts) (hk : TokOk ts) (i : Int) (rt : Nat) (es : List (OpK × OpV)) (L : List DefT) (hTab : RTab w rt L) (hag : Agree es L) (hL : L.length ≤ 1000) :
    Calls Tryz.prog 9 #[.slice A n c, .int .i64 i, .pointer (some ⟨rt, 0, none⟩)] w fun e w' => ReadQ w w' (readF (opsQ es) ts i) e := by
 rw [← readQ_eq]
 by_cases he : i < 0 ∨ (ts.length : Int) ≤ i ∨ (peekF ts i.toNat).kind = 0
 ·exact read_endQ w A n c ts hT i rt (opsQ es) he
 ·obtain ⟨k, rfl⟩ : ∃ k : Nat, i = (k : Int) := ⟨i.toNat, by omega⟩
  rw [Int.toNat_natCast] at he
  have hCK : ∀ (u : World) (x : TV) (t : Tm), TermAt u u.heap.size x t → t.size ≤ 1000000000 → Calls Tryz.prog 38 #[.agg #[.int .i64 x.k, .int .i64 x.n, .string ⟨x.s.toArray⟩, .slice x.A x.len x.cap]] u fun e u' => e = .returned (.int .i64 (if t.may = false then 2 else if 2000 < t.deep then 4 else if 20000 < t.size then 3 else 0)) ∧ Below u.heap.size u u' := fun u x t hx hs => by
   have h := rcheck_any u x t hx hs
   unfold checkT at h
   rwa [tvV_lit] at h
  have hsz : ∀ x q, termQ (opsQ es) ts (ts.length + 1) 1200 ⟨k, 0, []⟩ = .ok (x, q) → (peekF ts q.at').kind = 7 → x.1.size ≤ 1000000000 := fun x q hx h7 => by
   have := term_size hx h7
   have := hk.vol
   omega
  cases hb : badQ (opsQ es) ts k with
  | true => exact read_noneQ term_all hCK w A n c ts hT hk.few k (by omega) (fun h => he (.inr (.inr h))) rt es L hTab hag hL hk.short (fun t ht => (hk.num t ht).1) hsz hb
  | false => exact read_someQ term_all hCK w A n c ts hT hk.few k (by omega) (fun h => he (.inr (.inr h))) rt es L hTab hag hL hk.short (fun t ht => (hk.num t ht).1) hsz hb
end Go.Proofs.YtiffopheamnngaaGreatDoor
