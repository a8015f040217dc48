import Derived.Test.YtjdnigepnfeboaaGreatDoorJG22
import Derived.Test.YtjdnigepnfeboaaGreatDoorJG24
import Derived.Test.YtjdnigepnfeboaaGreatDoorJG16
import Derived.Test.YtjdnigepnfeboaaGreatDoorJG25
namespace Go.Proofs.YtjdnigepnfeboaaGreatDoor
open Go.RowKit Go.Maps
set_option maxRecDepth 100000
structure SkI (w u : World) (s : List UInt8) (n tb : Nat) : Prop where
 below : Below w.heap.size w u
 box : u.heap[w.heap.size]? = some (.cells #[.int .i64 4, .int .i64 0, .string ⟨s.toArray⟩, .slice (some ⟨tb, 0, none⟩) n n] 27 (0, 0))
 args : ∃ cs, u.heap[tb]? = some (.cells cs 27 (0, 0)) ∧ cs.size = n * 4
theorem SkI.put {w u : World} {s : List UInt8} {n tb q : Nat} (h : SkI w u s n tb) (ht : w.heap.size < tb) (v : Value) : SkI w (u.setCell ⟨tb, q, none⟩ v) s n tb := by
 obtain ⟨cs, h1, h2⟩ := h.args
 exact ⟨h.below.setCell (Nat.le_of_lt ht) _, (Below.heap_setCell _ _ _ _ (show w.heap.size ≠ tb by omega)).trans h.box, _, blk_put h1 v, by simpa using h2⟩
theorem SkI.cell {w u : World} {s : List UInt8} {n tb q : Nat} (h : SkI w u s n tb) (hq : q < n) : (∃ v, u.cell? ⟨tb, q * 4, none⟩ = some v) ∧ ∀ o, u.frozen? ⟨tb, o, none⟩ = false := by
 obtain ⟨cs, h1, h2⟩ := h.args
 exact ⟨⟨cs[q * 4]'(by omega), by rw [cell_of_row _ _ (q * 4) _ _ _ h1, Array.getElem?_eq_getElem]⟩, fun o => by simp [World.frozen?, h1]⟩
set_option maxHeartbeats 4000000 in
theorem kind_any (w : World) (k m : Int) (s : List UInt8) (A : Option Addr) (c d n : Nat) (hk : k = 3 ∨ k = 4) (hs : s.length ≤ maxLen) (h1 : 1 ≤ n) (h3 : n ≤ 3) :
    Calls Tryz.prog 61 #[.agg #[.int .i64 k, .int .i64 m, .string ⟨s.toArray⟩, .slice A c d], .int .i64 (n : Nat)] w fun e w' => e = .returned (.int .i64 (kindF 4 s n)) ∧ Below w.heap.size w w' := by
 have a1 : ¬ (3 : Int) < (n : Int) := by omega
 have a2 : decide ((3 : Int) < (n : Int)) = false := decide_eq_false a1
 have a3 : (0 : Int) < (n : Int) := by omega
 have HN := Lib.hid (And.intro hs (And.intro h1 h3))
 obtain ⟨W, hW⟩ : ∃ W, W = w.alloc (.cells #[.int .i64 4, .int .i64 0, .string ⟨s.toArray⟩, .slice none 0 0] 27) := ⟨_, rfl⟩
 have hmk := run_terms W n (by omega)
 obtain ⟨tb, htb⟩ : ∃ tb, tb = W.heap.size := ⟨_, rfl⟩
 obtain ⟨M1, hM1⟩ : ∃ M1, M1 = W.alloc (.cells ((List.replicate n zTV).flatMap encTV).toArray 27) := ⟨_, rfl⟩
 obtain ⟨W3, hW3⟩ : ∃ W3, W3 = M1.setCell ⟨w.heap.size, 3, none⟩ (.slice (some ⟨tb, 0, none⟩) n n) := ⟨_, rfl⟩
 have hWb : W.heap[w.heap.size]? = some (.cells #[.int .i64 4, .int .i64 0, .string ⟨s.toArray⟩, .slice none 0 0] 27 (0, 0)) := by rw [hW]; exact heap_alloc_new _ _
 have htbw : tb = w.heap.size + 1 := by rw [htb, hW]; simp
 have hMb : M1.heap[w.heap.size]? = some (.cells #[.int .i64 4, .int .i64 0, .string ⟨s.toArray⟩, .slice none 0 0] 27 (0, 0)) := by rw [hM1]; exact (Below.heap_alloc _ _ _ (by omega)).trans hWb
 have HI0 : Hid (SkI w W3 s n tb) := Lib.hid (by
  refine ⟨?_, ?_, ?_⟩
  ·rw [hW3, hM1, hW]
   exact (((Below.refl _ _).alloc (Nat.le_refl _) _).alloc (by simp) _).setCell (by simp) _
  ·rw [hW3]
   have := blk_put hMb (.slice (some ⟨tb, 0, none⟩) n n) (i := 3)
   simpa using this
  ·refine ⟨((List.replicate n zTV).flatMap encTV).toArray, ?_, ?_⟩
   ·rw [hW3, Below.heap_setCell _ _ _ _ (show tb ≠ w.heap.size by omega), htb, hM1]
    exact heap_alloc_new _ _
   ·rw [List.size_toArray]
    exact zTV_rep n)
 have HT := Lib.hid htbw
 clear hs h1 h3
 rw [← htb, ← hM1] at hmk
 obtain ⟨m0, m1, m2, m3, mf⟩ := four_at hMb
 have HW3 := Lib.hid hW3
 obtain ⟨b0, b1, b2, b3, bf⟩ := four_at hWb
 clear hW3 htb htbw hWb hM1 hMb
 rcases hk with rfl | rfl
 all_goals
  go_enter Tryz.func61, Tryz.ntmps61
  go_upto_region 8 with fail
  rw [← hW]
  clear hW
  go_upto_region 9 with fail
  rw [← HW3.out]
  obtain ⟨c0, c1, c2, c3, cf⟩ := four_at HI0.out.box
  clear hmk b0 b1 b2 b3 bf m0 m1 m2 m3 mf HW3
  go_wp2_with fail
  go_loopw [33] (fun i wr => ∃ q : Nat, i = .int .i64 (q : Nat) ∧ q ≤ n ∧ Hid (SkI w wr s n tb)) (fun i _ => n - (intOf i).toNat)
  case atStart => exact ⟨0, rfl, Nat.zero_le _, HI0⟩
  case round =>
   obtain ⟨q, rfl, hq, HI⟩ := hrel
   have HN3 := HN.out.2.2
   have HTB := HT.out
   clear HI0 c0 c1 c2 c3 cf
   obtain ⟨c0, c1, c2, c3, cf⟩ := four_at HI.out.box
   by_cases hlt : q < n
   ·have hlt1 : (q : Int) < (n : Int) := by omega
    have hge : (0 : Int) ≤ (q : Int) := by omega
    have hwq : IntKind.i64.wrap ((q : Int) + 1) = (q : Int) + 1 := IntWalk.i64_in _ (by omega)
    obtain ⟨⟨v, hv⟩, hf⟩ := HI.out.cell hlt
    have HNX : Hid (SkI w (wr.setCell ⟨tb, q * 4, none⟩ (.int .i64 2)) s n tb) := Lib.hid (HI.out.put (by omega) _)
    clear HTB HN3
    go_wp2_with fail
    go_roundw
    case rel => exact ⟨q + 1, rfl, by omega, HNX⟩
    case measure =>
     simp only [intOf]
     omega
   ·obtain rfl : q = n := by omega
    have hng : ¬ (q : Int) < (q : Int) := by omega
    have HKD := Lib.hid (Kind_any wr ⟨4, 0, s, some ⟨tb, 0, none⟩, q, q⟩ HN.out.1 (show (q : Int) ≤ _ by omega))
    have HB := Lib.hid HI.out.below
    clear HTB HN3 HI hlt
    go_wp2_with fail
    refine HKD.out.mono ?_
    rintro e w9 ⟨rfl, hb⟩
    go_wp2_with fail
    go_ret
    exact ⟨rfl, HB.out.trans (hb.mono HB.out.size)⟩
variable [Base]
set_option linter.unusedSectionVars false
def outI (ok : Bool) : Int := if ok then 0 else 1
def blT : List TypeId := unS ++ evT
def BltO (u : World) (rb : Nat) (r : RC) (l : List (Int × List UInt8)) (db ob : Nat) (spent : Int) (over : List UInt8) (R : Bool → World → Prop) (e : Ending) (u' : World) : Prop :=
 TF blT u u' ∧ ((∃ ok, e = .returned (.int .i64 (outI ok)) ∧ R ok u' ∧ RunSt u' rb r l db ob spent over) ∨ (e = .returned (.int .i64 3) ∧ ∃ v l' which, RunSt u' rb { r with ev := v } l' db ob spent which ∧ which ≠ []))
theorem fits_ok (w : World) (rb : Nat) (b : Bool) : Calls Tryz.prog 159 #[.pointer (some ⟨rb, 0, none⟩), .bool b, .int .i64 0] w fun e w' => e = .returned (.int .i64 (outI b)) ∧ w' = w := by
 cases b
 all_goals
  go_enter Tryz.func159, Tryz.ntmps159
  go_wp2_with fail
  go_ret
  exact ⟨rfl, rfl⟩
theorem fits_no (u : World) (rb : Nat) (b : Bool) (z : Int) (r : RC) (l : List (Int × List UInt8)) (db ob : Nat) (spent : Int) (over : List UInt8) (hz : z ≠ 0) (h : RunSt u rb r l db ob spent over) (hl : l.length + 1 ≤ 100000) :
    Calls Tryz.prog 159 #[.pointer (some ⟨rb, 0, none⟩), .bool b, .int .i64 z] u (Lim u rb r db ob spent) := by
 have hz' : (z != 0) = true := by rw [bne_iff_ne]; exact hz
 have HT := Lib.hid (trouble_any u rb r l db ob spent over z h hl)
 clear hz h hl
 obtain ⟨P, hP⟩ : ∃ P : Ending → World → Prop, P = Lim u rb r db ob spent := ⟨_, rfl⟩
 rw [← hP] at HT ⊢
 have HP : Hid (∀ e w, P e w → e = .returned (.int .i64 3)) := Lib.hid fun e w h => by rw [hP] at h; exact h.1
 clear hP
 go_enter Tryz.func159, Tryz.ntmps159
 go_wp2_with fail
 refine HT.out.mono ?_
 intro e w1 h
 obtain rfl := HP.out _ _ h
 go_wp2_with fail
 exact h
theorem fits_any (u : World) (rb : Nat) (b : Bool) (z : Int) (r : RC) (l : List (Int × List UInt8)) (db ob : Nat) (spent : Int) (over : List UInt8) (h : RunSt u rb r l db ob spent over) (hl : l.length + 1 ≤ 100000) :
    Calls Tryz.prog 159 #[.pointer (some ⟨rb, 0, none⟩), .bool b, .int .i64 z] u fun e u' => ∃ o : Int, e = .returned (.int .i64 o) ∧ ((z = 0 ∧ o = outI b ∧ u' = u) ∨ (o = 3 ∧ Lim u rb r db ob spent e u')) := by
 by_cases hz : z = 0
 ·subst hz
  refine (fits_ok u rb b).mono ?_
  rintro e u' ⟨rfl, rfl⟩
  exact ⟨_, rfl, .inl ⟨rfl, rfl, rfl⟩⟩
 ·refine (fits_no u rb b z r l db ob spent over hz h hl).mono ?_
  intro e u' h
  exact ⟨3, h.1, .inr ⟨rfl, h⟩⟩
def EqR (safe : Bool) (sb room : Nat) (cs : List Sc) (a b : Nat) (ok : Bool) (u' : World) : Prop :=
 ∃ (cv' bv' : Value) (xs' : List ScM) (cs' : List Sc) (ys' : List (Nat × Int)) (csF : List Sc) (bsF : List Nat), StAt sb room u' cv' bv' xs' cs' ys' ∧ Uni safe cs [] [(a, b)] 0 (ok, 0) csF bsF
theorem blt_out {u w1 u' : World} {rb sb room : Nat} {safe : Bool} {r : RC} {l : List (Int × List UInt8)} {db ob a b : Nat} {spent : Int} {over : List UInt8} {cs : List Sc} {ys : List (Nat × Int)} {ok : Bool} {z o : Int} (h : RunSt u rb r l db ob spent over)
    (ha : AllOut sb room u safe cs ys a b (.returned (.tuple #[.bool ok, .int .i64 z])) w1) (hf : (z = 0 ∧ o = outI ok ∧ u' = w1) ∨ (o = 3 ∧ Lim w1 rb r db ob spent (.returned (.int .i64 o)) u')) :
    BltO u rb r l db ob spent over (EqR safe sb room cs a b) (.returned (.int .i64 o)) u' := by
 obtain ⟨ok', z', cv', bv', xs', cs', ys', csF, bsF, e1, h1, h2, h3, h4, h5⟩ := ha
 injection e1 with e1
 simp only [Value.tuple.injEq, Array.mk.injEq, List.cons.injEq, Value.bool.injEq, Value.int.injEq, true_and, and_true] at e1
 obtain ⟨rfl, rfl⟩ := e1
 rcases hf with ⟨rfl, rfl, rfl⟩ | ⟨rfl, hlim⟩
 ·exact ⟨h2.mono fun t ht => List.mem_append_left _ ht, .inl ⟨ok, rfl, ⟨cv', bv', xs', cs', ys', csF, bsF, h1, h4⟩, h.keep h2 (by decide)⟩⟩
 ·obtain ⟨-, v, l', which, g1, g2, g3⟩ := hlim
  exact ⟨(h2.mono fun t ht => List.mem_append_left _ ht).trans (g3.mono fun t ht => List.mem_append_right _ ht), .inr ⟨rfl, v, l', which, g1, g2⟩⟩
end Go.Proofs.YtjdnigepnfeboaaGreatDoor
namespace Go.Proofs.YtjdnigepnfeboaaGreatDoor
open Go.RowKit Go.Maps
set_option maxRecDepth 100000
variable [Base]
set_option linter.unusedSectionVars false
abbrev rbV (rb : Nat) : Value := .pointer (some ⟨rb, 0, none⟩)
def BltAt (u : World) (bb rb : Nat) : Prop := ∃ L, MapAt u bb pk (evB (rbV rb)) L ∧ (∀ x ∈ L, okPK x.1) ∧ ∀ k, mget L k = mget bltL k
omit [Base] in
theorem BltAt.of {w u : World} {bb rb : Nat} (h : LitM w u bb pk (evB (rbV rb)) okPK bltL) : BltAt u bb rb := by
 obtain ⟨L, h1, h2⟩ := h
 exact ⟨L, h1.map, h1.ok, h2⟩
omit [Base] in
theorem BltAt.keep {u v : World} {bb rb : Nat} (h : BltAt u bb rb) (hb : v.heap[bb]? = u.heap[bb]?) : BltAt v bb rb := by
 obtain ⟨L, h1, h2, h3⟩ := h
 exact ⟨L, h1.keep hb, h2, h3⟩
omit [Base] in
theorem BltAt.lt {u : World} {bb rb : Nat} (h : BltAt u bb rb) : bb < u.heap.size := by
 obtain ⟨L, h1, -⟩ := h
 exact h1.lt
omit [Base] in
theorem BltAt.later {u v : World} {bb rb : Nat} (h : BltAt u bb rb) (hb : Below u.heap.size u v) : BltAt v bb rb := h.keep (hb.block _ h.lt)
omit [Base] in
theorem BltAt.look {u : World} {bb rb : Nat} (h : BltAt u bb rb) (s : List UInt8) (n : Int) (hk : okPK (s, n)) : (Instr.lookup 110 (.map (some bb)) (.agg #[.string ⟨s.toArray⟩, .int .i64 n]) true).run Tryz.prog u = .ok (.tuple #[((mget bltL (s, n)).map (evB (rbV rb))).getD .nilFunc, .bool (mget bltL (s, n)).isSome]) u := by
 obtain ⟨L, h1, h2, h3⟩ := h
 have := h1.lookup (t := 110) spKE Tryz.underlying110 (z := .nilFunc) (fun u => by kernel_rfl) h2 hk true
 rw [h3] at this
 exact this
set_option maxHeartbeats 4000000 in
theorem step_blt (u : World) (rb : Nat) (r : RC) (l : List (Int × List UInt8)) (db ob : Nat) (spent : Int) (over : List UInt8) (R : Bool → World → Prop) (f : Value) (x : TV) (A : Option Addr) (c F : Nat)
    (h : RunSt u rb r l db ob spent over) (hB : BltAt u r.bb rb) (hs : x.s.length ≤ maxLen) (hF : mget bltL (x.s, 2) = some F) (hF3 : F = 81 ∨ F = 82 ∨ F = 83)
    (hC : ∀ v, Below u.heap.size u v → Calls Tryz.prog F #[.pointer (some ⟨rb, 0, none⟩), .slice A 2 c] v (BltO v rb r l db ob spent over R)) :
    Calls Tryz.prog 69 #[.pointer (some ⟨rb, 0, none⟩), f, tvV x, .slice A 2 c] u fun e u' => ∃ v, Below u.heap.size u v ∧ BltO v rb r l db ob spent over R e u' := by
 obtain ⟨P, hP⟩ : ∃ P : Ending → World → Prop, P = fun e u' => ∃ v, Below u.heap.size u v ∧ BltO v rb r l db ob spent over R e u' := ⟨_, rfl⟩
 rw [← hP]
 obtain ⟨V, hV⟩ : ∃ V, V = (u.alloc (.cells #[.int .i64 x.k, .int .i64 x.n, .string ⟨x.s.toArray⟩, .slice x.A x.len x.cap] 27)).alloc (.cells #[.string ⟨x.s.toArray⟩, .int .i64 2] 153) := ⟨_, rfl⟩
 have hbV : Below u.heap.size u V := by rw [hV]; exact ((Below.refl _ _).alloc (Nat.le_refl _) _).alloc (by simp) _
 have hz : V.heap[u.heap.size + 1]? = some (.cells #[.string ⟨x.s.toArray⟩, .int .i64 2] 153 (0, 0)) := by
  have := heap_alloc_new (u.alloc (.cells #[.int .i64 x.k, .int .i64 x.n, .string ⟨x.s.toArray⟩, .slice x.A x.len x.cap] 27)) (.cells #[.string ⟨x.s.toArray⟩, .int .i64 2] 153)
  rw [World.size_alloc] at this
  rw [hV]; exact this
 have k0 : V.cell? ⟨u.heap.size + 1, 0, none⟩ = some (.string ⟨x.s.toArray⟩) := (cell_of_row _ _ 0 _ _ _ hz).trans rfl
 have k1 : V.cell? ⟨u.heap.size + 1, 1, none⟩ = some (.int .i64 2) := (cell_of_row _ _ 1 _ _ _ hz).trans rfl
 have k2 : V.cell? ⟨rb, 26, none⟩ = some (.map (some r.bb)) := (h.later hbV).run.get 26
 have hlk := (hB.later hbV.drew).look x.s 2 ⟨hs, (by decide : (-9223372036854775808 : Int) ≤ 2), (by decide : (2 : Int) ≤ 9223372036854775807)⟩
 rw [hF] at hlk
 replace hlk : (Instr.lookup 110 (.map (some r.bb)) (.agg #[.string ⟨x.s.toArray⟩, .int .i64 2]) true).run Tryz.prog V.drew = .ok (.tuple #[.func (Fn.func F) #[.pointer (some ⟨rb, 0, none⟩)] #[], .bool true]) V.drew := hlk
 have HC : Hid (Calls Tryz.prog F #[.pointer (some ⟨rb, 0, none⟩), .slice A 2 c] V.drew fun e u' => P e u' ∧ ∃ o : Int, e = .returned (.int .i64 o)) := Lib.hid (by
  refine (hC V.drew hbV.drew).mono ?_
  intro e u' hO
  refine ⟨by rw [hP]; exact ⟨V.drew, hbV.drew, hO⟩, ?_⟩
  rcases hO.2 with ⟨ok, rfl, -⟩ | ⟨rfl, -⟩
  ·exact ⟨_, rfl⟩
  ·exact ⟨_, rfl⟩)
 clear h hB hs hF hC hP hbV hz
 unfold tvV
 go_enter Tryz.func69, Tryz.ntmps69
 go_upto_region 2 with fail
 rw [← hV]
 clear hV
 go_region
 clear hlk k0 k1 k2
 rcases hF3 with rfl | rfl | rfl
 all_goals
  go_wp2_with fail
  refine HC.out.mono ?_
  rintro e u' ⟨hO, o, rfl⟩
  go_wp2_with fail
  exact hO
end Go.Proofs.YtjdnigepnfeboaaGreatDoor
namespace Go.Proofs.YtjdnigepnfeboaaGreatDoor
open Go.RowKit Go.Maps
set_option maxRecDepth 100000
set_option maxHeartbeats 4000000 in
theorem Body_any (u : World) (G : Nat → Prop) (x : TV) (t : Tm) (hx : TermS u (TyT u G) x t) (hm : t.may = true) (hsz : t.size ≤ 2000) (hs : x.s.length ≤ maxLen) (hl : (x.len : Int) ≤ 9223372036854775807) (hk : x.k = 3 ∨ x.k = 4) (hkd : kindF x.k x.s x.len ≠ 2 ∧ kindF x.k x.s x.len ≠ 3 ∧ kindF x.k x.s x.len ≠ 4) :
    Calls Tryz.prog 60 #[tvV x] u fun e u' => ∃ y : TV, e = .returned (.tuple #[tvV y, .int .i64 0]) ∧ TermS u' (NewT u u' G) y t ∧ Below u.heap.size u u' := by
 obtain ⟨P, hP⟩ : ∃ P : Ending → World → Prop, P = fun e u' => ∃ y : TV, e = .returned (.tuple #[tvV y, .int .i64 0]) ∧ TermS u' (NewT u u' G) y t ∧ Below u.heap.size u u' := ⟨_, rfl⟩
 rw [← hP]
 have HP := Lib.hid hP
 obtain ⟨X, hX⟩ : ∃ X, X = x := ⟨_, rfl⟩
 obtain ⟨W, hW⟩ : ∃ W, W = (u.alloc (.cells #[.int .i64 x.k, .int .i64 x.n, .string ⟨x.s.toArray⟩, .slice x.A x.len x.cap] 27)).alloc (.cells #[.int .i64 0, .int .i64 0, .string ⟨#[]⟩, .slice none 0 0] 27) := ⟨_, rfl⟩
 have hbW : Below u.heap.size u W := by rw [hW]; exact ((Below.refl _ _).alloc (Nat.le_refl _) _).alloc (by simp) _
 have h0 : W.heap[u.heap.size]? = some (.cells #[.int .i64 x.k, .int .i64 x.n, .string ⟨x.s.toArray⟩, .slice x.A x.len x.cap] 27 (0, 0)) := by
  rw [hW, Below.heap_alloc _ _ _ (by simp)]
  exact heap_alloc_new _ _
 have h1 : W.heap[u.heap.size + 1]? = some (.cells #[.int .i64 0, .int .i64 0, .string ⟨#[]⟩, .slice none 0 0] 27 (0, 0)) := by
  have := heap_alloc_new (u.alloc (.cells #[.int .i64 x.k, .int .i64 x.n, .string ⟨x.s.toArray⟩, .slice x.A x.len x.cap] 27)) (.cells #[.int .i64 0, .int .i64 0, .string ⟨#[]⟩, .slice none 0 0] 27)
  rw [World.size_alloc] at this
  rw [hW]; exact this
 have HXW : Hid (TermS W (TyT W fun b => b < u.heap.size ∧ G b) x t) := Lib.hid (hx.move fun b hb => ⟨⟨hb.1.keep (hbW.block b hb.1.lt), hb.1.lt, hb.2⟩, hbW.block b hb.1.lt⟩)
 have HB := Lib.hid hbW
 have H01 := Lib.hid (And.intro h0 h1)
 have HZ := Lib.hid (And.intro hsz (And.intro hm (And.intro hs (And.intro hl (And.intro hk hkd)))))
 obtain ⟨z0, z1, z2, z3, -⟩ := four_at h0
 have hlW : u.heap.size + 1 < W.heap.size := (Array.getElem?_eq_some_iff.1 h1).1
 clear hP hx hm hsz hs hl hk hkd hbW h0 h1
 unfold tvV
 go_enter Tryz.func60, Tryz.ntmps60
 go_upto_region 1 with fail
 rw [← hW]
 clear hW
 go_wp2_with fail
 refine (check_any W x t (HXW.out.at fun b hb => hb.1.lt) (by have := HZ.out.1; omega) (by have := HZ.out.1; have := deep_size t; omega)).mono ?_
 rintro e w1 ⟨rfl, hb1⟩
 rw [checkT_ok HZ.out.2.1 HZ.out.1]
 have HX1 : Hid (TermS w1 (TyT w1 fun b => b < u.heap.size ∧ G b) x t) := Lib.hid (HXW.out.move fun b hb => ⟨⟨hb.1.keep (hb1.block b hb.1.lt), hb.2⟩, hb1.block b hb.1.lt⟩)
 have H11 := Lib.hid (And.intro ((hb1.block _ (by omega)).trans H01.out.1) ((hb1.block _ hlW).trans H01.out.2))
 have HB1 := Lib.hid (HB.out.trans (hb1.mono HB.out.size))
 obtain ⟨z0, z1, z2, z3, -⟩ := four_at H11.out.1
 have hl1 : u.heap.size + 1 < w1.heap.size := (Array.getElem?_eq_some_iff.1 H11.out.2).1
 clear hb1 HXW HB H01 hlW
 go_wp2_with fail
 refine (body_any w1 _ x t HX1.out (by have := HZ.out.1; omega) HZ.out.2.2.1 HZ.out.2.2.2.1 HZ.out.2.2.2.2.1 HZ.out.2.2.2.2.2).mono ?_
 rintro e w2 ⟨y, rfl, ht2, hb2⟩
 have hl2 := hb2.size
 have HB2 := Lib.hid (HB1.out.trans (hb2.mono HB1.out.size))
 have H2 := Lib.hid ((hb2.block _ hl1).trans H11.out.2)
 obtain ⟨V, hV⟩ : ∃ V, V = w2.alloc (.cells #[.int .i64 y.k, .int .i64 y.n, .string ⟨y.s.toArray⟩, .slice y.A y.len y.cap] 27) := ⟨_, rfl⟩
 have hbV : Below w2.heap.size w2 V := by rw [hV]; exact (Below.refl _ _).alloc (Nat.le_refl _) _
 have hVn : V.heap[w2.heap.size]? = some (.cells #[.int .i64 y.k, .int .i64 y.n, .string ⟨y.s.toArray⟩, .slice y.A y.len y.cap] 27 (0, 0)) := by rw [hV]; exact heap_alloc_new _ _
 have HTV : Hid (TermS V (fun b => TyB V 27 b ∧ b < w2.heap.size ∧ (b < w1.heap.size → b < u.heap.size ∧ G b)) y t) := Lib.hid (ht2.move fun b hb => ⟨⟨hb.1.keep (hbV.block b hb.1.lt), hb.1.lt, hb.2⟩, hbV.block b hb.1.lt⟩)
 have HVN := Lib.hid hVn
 have HVB := Lib.hid hbV
 obtain ⟨z0, z1, z2, z3, -⟩ := four_at hVn
 clear ht2 hb2 HX1 HB1 H11 hVn hbV
 unfold tvV
 go_upto_region 7 with fail
 rw [← hV]
 clear hV
 go_wp2_with fail
 refine (check_any V y t (HTV.out.at fun b hb => hb.1.lt) (by have := HZ.out.1; omega) (by have := HZ.out.1; have := deep_size t; omega)).mono ?_
 rintro e w3 ⟨rfl, hb3⟩
 rw [checkT_ok HZ.out.2.1 HZ.out.1]
 have hl3 : w2.heap.size < V.heap.size := (Array.getElem?_eq_some_iff.1 HVN.out).1
 have hB3 : Below w2.heap.size w2 w3 := HVB.out.trans (hb3.mono HVB.out.size)
 obtain ⟨z0, z1, z2, z3, -⟩ := four_at ((hb3.block _ hl3).trans HVN.out)
 have hr3 := (hB3.block _ (by omega)).trans H2.out
 obtain ⟨r0, r1, r2, r3, rf⟩ := four_at hr3
 obtain ⟨WF, hWF⟩ : ∃ WF, WF = ((((w3.setCell ⟨u.heap.size + 1, 0, none⟩ (.int .i64 y.k)).setCell ⟨u.heap.size + 1, 1, none⟩ (.int .i64 y.n)).setCell ⟨u.heap.size + 1, 2, none⟩ (.string ⟨y.s.toArray⟩)).setCell ⟨u.heap.size + 1, 3, none⟩ (.slice y.A y.len y.cap)) := ⟨_, rfl⟩
 have HQ : Hid (WF.heap[u.heap.size + 1]? = some (.cells #[.int .i64 y.k, .int .i64 y.n, .string ⟨y.s.toArray⟩, .slice y.A y.len y.cap] 27 (0, 0)) ∧ P (.returned (.tuple #[tvV y, .int .i64 0])) WF) := Lib.hid (by
  have hp : PutT u w3 WF (u.heap.size + 1) y := by rw [hWF]; exact put_t hr3 rfl (by omega) y
  refine ⟨hp.blk, ?_⟩
  rw [HP.out]
  refine ⟨y, rfl, HTV.out.move fun b hb => ?_, hp.below (HB2.out.trans (hB3.mono HB2.out.size))⟩
  have hne : b ≠ u.heap.size + 1 := fun e => by have := (hb.2.2 (by omega)).1; omega
  have hk := (hp.off b hne).trans (hb3.block b hb.1.lt)
  exact ⟨⟨hb.1.keep hk, fun h => (hb.2.2 (by omega)).2⟩, hk⟩)
 have HWF := Lib.hid hWF
 clear hb3 hB3 hr3 HTV HVN HVB H2 HB2 HZ HP hWF
 go_wp2_with fail
 rw [← HWF.out]
 obtain ⟨f0, f1, f2, f3, -⟩ := four_at HQ.out.1
 exact bodyPost_ret (v := .tuple #[tvV y, .int .i64 0]) (by simp [results, Tryz.results60, go_sem, f0, f1, f2, f3, tvV]) rfl HQ.out.2
variable [Base]
set_option linter.unusedSectionVars false
theorem fr_ty {vb : Nat} {v w : World} {m : List (Int × Int)} {t : TypeId} {k : Nat} (hv : M6 v vb m) (hf : Fr (fun k => k = vb ∨ TyIn stP v k) v w) (hk : TyB v t k) (ht : t ∉ stP) : w.heap[k]? = v.heap[k]? :=
 hf.block k hk.lt fun h => h.elim (fun e => hv.map.ne hk e.symm) fun ⟨_, _, h1, h2⟩ => ht (hk.same h2 ▸ h1)
theorem RunSt.put {u : World} {rb : Nat} {r r' : RC} {l : List (Int × List UInt8)} {db ob : Nat} {spent : Int} {over : List UInt8} (h : RunSt u rb r l db ob spent over) (i : Nat) (v : Value) (he : (rnC r).setIfInBounds i v = rnC r') (hm : r'.mb = r.mb) (hev : r'.ev = r.ev) :
    RunSt (u.setCell ⟨rb, i, none⟩ v) rb r' l db ob spent over ∧ TF [112] u (u.setCell ⟨rb, i, none⟩ v) := by
 have hf : TF [112] u (u.setCell ⟨rb, i, none⟩ v) := (TF.refl _ u).set (p := ⟨rb, i, none⟩) h.run.ty (by decide) h.few.2.1 v
 refine ⟨⟨h.run.set i v r' he, ?_, ?_, by rw [hm]; exact h.few⟩, hf⟩
 ·rw [hev]
  exact hf.row h.ev (by decide)
 ·rw [hm]
  exact (hf.block ⟨_, h.mach⟩ (by decide)).trans h.mach
def QOut (u : World) (rb room : Nat) (r : RC) (l : List (Int × List UInt8)) (db ob : Nat) (spent : Int) (over : List UInt8) (cs : List Sc) (ys : List (Nat × Int)) (t : Tm) (e : Ending) (u' : World) : Prop :=
 e = .returned (.int .i64 0) ∧ ∃ fb cv bv xs, RunSt u' rb { r with fr := .pointer (some ⟨fb, 0, none⟩) } l db ob spent over ∧ FrameAt u' fb ((putT t ⟨cs, []⟩).1 : Nat) 0 ∧ StAt r.sb room u' cv bv xs (putT t ⟨cs, []⟩).2.cs ys ∧ (∃ m, M6 u' r.vb m ∧ ∀ n, mget m n = mget (frI (putT t ⟨cs, []⟩).2.fr) n) ∧ Fr (fun k => k = r.vb ∨ TyIn (112 :: stP) u k) u u'
set_option maxHeartbeats 4000000 in
theorem query_any (u : World) (rb room : Nat) (r : RC) (l : List (Int × List UInt8)) (db ob : Nat) (spent : Int) (over : List UInt8) (cv bv : Value) (xs : List ScM) (cs : List Sc) (ys : List (Nat × Int)) (x : TV) (t : Tm)
    (h : RunSt u rb r l db ob spent over) (hs : StAt r.sb room u cv bv xs cs ys) (hv : M6 u r.vb []) (hx : TermS u (TyB u 27) x t) (hm : t.may = true) (h6 : ∀ n ∈ vrT t, ok6 n) (hsz : t.size ≤ 2000) (hr : cs.length + t.size ≤ room)
    (hsl : x.s.length ≤ maxLen) (hl : (x.len : Int) ≤ 9223372036854775807) (hk : x.k = 3 ∨ x.k = 4) (hkd : kindF x.k x.s x.len ≠ 2 ∧ kindF x.k x.s x.len ≠ 3 ∧ kindF x.k x.s x.len ≠ 4) :
    Calls Tryz.prog 95 #[.pointer (some ⟨rb, 0, none⟩), tvV x] u (QOut u rb room r l db ob spent over cs ys t) := by
 obtain ⟨P, hP⟩ : ∃ P : Ending → World → Prop, P = QOut u rb room r l db ob spent over cs ys t := ⟨_, rfl⟩
 rw [← hP]
 have HP := Lib.hid hP
 have hk1 : (x.k == 1) = false := beq_false_of_ne (by omega)
 obtain ⟨W, hW⟩ : ∃ W, W = u.alloc (.cells #[.int .i64 x.k, .int .i64 x.n, .string ⟨x.s.toArray⟩, .slice x.A x.len x.cap] 27) := ⟨_, rfl⟩
 have hbW : Below u.heap.size u W := by rw [hW]; exact (Below.refl _ _).alloc (Nat.le_refl _) _
 have h0 : W.heap[u.heap.size]? = some (.cells #[.int .i64 x.k, .int .i64 x.n, .string ⟨x.s.toArray⟩, .slice x.A x.len x.cap] 27 (0, 0)) := by rw [hW]; exact heap_alloc_new _ _
 obtain ⟨z0, z1, z2, z3, -⟩ := four_at h0
 have HBO : Hid (Calls Tryz.prog 60 #[tvV x] W fun e w2 => ∃ y : TV, e = .returned (.tuple #[tvV y, .int .i64 0]) ∧ TermS w2 (TyB w2 27) y t ∧ Below W.heap.size W w2) := Lib.hid (by
  refine (Body_any W (fun _ => True) x t (hx.move fun b hb => ⟨⟨hb.keep (hbW.block b hb.lt), trivial⟩, hbW.block b hb.lt⟩) hm hsz hsl hl hk hkd).mono ?_
  rintro e w2 ⟨y, rfl, h1, h2⟩
  exact ⟨y, rfl, h1.move fun b hb => ⟨hb.1, rfl⟩, h2⟩)
 have HZ := Lib.hid (And.intro h (And.intro hs (And.intro hv (And.intro hm (And.intro h6 (And.intro hsz hr))))))
 have HBW := Lib.hid hbW
 have hlu := h.run.lt
 have hlW : u.heap.size ≤ W.heap.size := hbW.size
 clear hP h hs hv hx hm h6 hsz hr hsl hl hk hkd h0 hbW
 unfold tvV at HBO ⊢
 go_enter Tryz.func95, Tryz.ntmps95
 go_upto_region 1 with fail
 rw [← hW]
 clear hW
 go_wp2_with fail
 refine HBO.out.mono ?_
 rintro e w2 ⟨y, rfl, ht, hb2⟩
 obtain ⟨V, hV⟩ : ∃ V, V = w2.alloc (.cells #[.int .i64 y.k, .int .i64 y.n, .string ⟨y.s.toArray⟩, .slice y.A y.len y.cap] 27) := ⟨_, rfl⟩
 have hbV : Below w2.heap.size w2 V := by rw [hV]; exact (Below.refl _ _).alloc (Nat.le_refl _) _
 have hVn : V.heap[w2.heap.size]? = some (.cells #[.int .i64 y.k, .int .i64 y.n, .string ⟨y.s.toArray⟩, .slice y.A y.len y.cap] 27 (0, 0)) := by rw [hV]; exact heap_alloc_new _ _
 have hbuV : Below u.heap.size u V := HBW.out.trans ((hb2.trans (hbV.mono hb2.size)).mono HBW.out.size)
 have HV : Hid (RunSt V.drew rb r l db ob spent over ∧ StAt r.sb room V.drew cv bv xs cs ys ∧ M6 V.drew r.vb [] ∧ TermS V.drew (TyB V.drew 27) y t) := Lib.hid (by
  have hb' := hbuV.drew
  exact ⟨HZ.out.1.later hb', HZ.out.2.1.later hb', HZ.out.2.2.1.later hb', ht.move fun b hb => ⟨TyB.keep hb (hbV.drew.block b hb.lt), hbV.drew.block b hb.lt⟩⟩)
 have HVN := Lib.hid hVn
 have HBU := Lib.hid hbuV
 clear ht hb2 hbV hVn hbuV z0 z1 z2 z3
 go_upto_region 8 with fail
 rw [← hV]
 clear hV
 obtain ⟨sb, hsb⟩ : ∃ sb, sb = r.sb := ⟨_, rfl⟩
 obtain ⟨vb, hvb⟩ : ∃ vb, vb = r.vb := ⟨_, rfl⟩
 obtain ⟨X, hX⟩ : ∃ X, X = w2.heap.size := ⟨_, rfl⟩
 have HSV : Hid (∀ w3, RunAt w3 rb r → w3.heap[X]? = some (.cells #[.int .i64 y.k, .int .i64 y.n, .string ⟨y.s.toArray⟩, .slice y.A y.len y.cap] 27 (0, 0)) → (w3.cell? ⟨rb, 1, none⟩ = some (.pointer (some ⟨sb, 0, none⟩)) ∧ w3.cell? ⟨rb, 3, none⟩ = some (.map (some vb))) ∧ (w3.cell? ⟨X, 0, none⟩ = some (.int .i64 y.k) ∧ w3.cell? ⟨X, 1, none⟩ = some (.int .i64 y.n) ∧ w3.cell? ⟨X, 2, none⟩ = some (.string ⟨y.s.toArray⟩) ∧ w3.cell? ⟨X, 3, none⟩ = some (.slice y.A y.len y.cap))) := Lib.hid fun w3 h1 h2 => by
  obtain ⟨a, b, c, d, -⟩ := four_at h2
  exact ⟨⟨by rw [h1.get 1, hsb]; rfl, by rw [h1.get 3, hvb]; rfl⟩, a, b, c, d⟩
 have HD := Lib.hid (HSV.out V.drew HV.out.1.run (hX ▸ HVN.out))
 have HPU : Hid (Calls Tryz.prog 180 #[.pointer (some ⟨sb, 0, none⟩), .agg #[.int .i64 y.k, .int .i64 y.n, .string ⟨y.s.toArray⟩, .slice y.A y.len y.cap], .map (some vb)] V.drew fun e w3 => ∃ p : Nat, e = .returned (.tuple #[.int .i64 (p : Nat), .int .i64 0]) ∧ p = (putT t ⟨cs, []⟩).1 ∧ RunSt w3 rb r l db ob spent over ∧ w3.heap[X]? = some (.cells #[.int .i64 y.k, .int .i64 y.n, .string ⟨y.s.toArray⟩, .slice y.A y.len y.cap] 27 (0, 0)) ∧ (∃ cv' xs', StAt sb room w3 cv' bv xs' (putT t ⟨cs, []⟩).2.cs ys) ∧ (∃ m, M6 w3 vb m ∧ ∀ n, mget m n = mget (frI (putT t ⟨cs, []⟩).2.fr) n) ∧ Fr (fun k => k = vb ∨ TyIn stP u k) u w3) := Lib.hid (by
  obtain ⟨hR, hS, hM, hT⟩ := HV.out
  rw [← hsb] at hS
  rw [← hvb] at hM
  refine (Put_st hS hM y t hT HZ.out.2.2.2.1 HZ.out.2.2.2.2.1 HZ.out.2.2.2.2.2.1 HZ.out.2.2.2.2.2.2).mono ?_
  rintro e w3 ⟨rfl, g1, g2, g3⟩
  refine ⟨_, rfl, rfl, ⟨(fr_ty hM g3 hR.run.ty (by decide)).trans hR.run, hR.ev.keep fun k hk => fr_ty hM g3 (hR.ev.ty hk) (by decide), (fr_ty hM g3 ⟨_, hR.mach⟩ (by decide)).trans hR.mach, hR.few⟩, ?_, g1, g2, ?_⟩
  ·rw [hX]
   exact (fr_ty hM g3 (t := 27) ⟨_, HVN.out⟩ (by decide)).trans HVN.out
  ·have hb := HBU.out.drew
   refine ⟨g3.os.trans hb.os, g3.tape.trans hb.tape, g3.output.trans hb.output, Nat.le_trans hb.size g3.size, fun k hk hn => (g3.block k (Nat.lt_of_lt_of_le hk hb.size) fun h => hn (h.imp_right ?_)).trans (hb.block k hk)⟩
   rintro ⟨h0, ty, h1, c, h2⟩
   exact ⟨h0, ty, h1, c, (hb.block k hk).symm.trans h2⟩)
 have HSB := Lib.hid (And.intro hsb hvb)
 clear hsb hvb HBO HV HBW HBU HVN
 subst hX
 go_region_held3 (fun v => (v.cell? ⟨rb, 1, none⟩ = some (.pointer (some ⟨sb, 0, none⟩)) ∧ v.cell? ⟨rb, 3, none⟩ = some (.map (some vb))) ∧ (v.cell? ⟨w2.heap.size, 0, none⟩ = some (.int .i64 y.k) ∧ v.cell? ⟨w2.heap.size, 1, none⟩ = some (.int .i64 y.n) ∧ v.cell? ⟨w2.heap.size, 2, none⟩ = some (.string ⟨y.s.toArray⟩) ∧ v.cell? ⟨w2.heap.size, 3, none⟩ = some (.slice y.A y.len y.cap)))
  (first | (with_reducible exact HA1.out) | (with_reducible exact HD.out))
  (first | (go_at_call 180; with_reducible (refine HPU.out.mono ?_; rintro e w3 ⟨p, rfl, hp, g1, g2, g3⟩); have HA1 := Lib.hid (HSV.out w3 g1.run g2); have HG := Lib.hid (And.intro hp (And.intro g1 g3)); clear hp g1 g2 g3))
 clear HPU HSV HD HA1
 go_wp2_with fail
 refine (doGoal_any w3 (p : Nat) 0).mono ?_
 rintro e w4 ⟨rfl, hF, hb4⟩
 obtain ⟨F, hFE⟩ : ∃ F, F = w3.heap.size := ⟨_, rfl⟩
 have hR4 := HG.out.2.1.later hb4
 have c7 : w4.cell? ⟨rb, 7, none⟩ = some r.fr := hR4.run.get 7
 have cf := hR4.run.fz
 have hl4 := hR4.run.lt
 have HQ : Hid (P (.returned (.int .i64 0)) (w4.setCell ⟨rb, 7, none⟩ (.pointer (some ⟨w3.heap.size, 0, none⟩)))) := Lib.hid (by
  obtain ⟨hp, -, ⟨cv', xs', hS⟩, ⟨m, hM, hMm⟩, hfr⟩ := HG.out
  have h9 := hR4.put (r' := { r with fr := .pointer (some ⟨w3.heap.size, 0, none⟩) }) 7 (.pointer (some ⟨w3.heap.size, 0, none⟩)) rfl rfl rfl
  rw [HP.out]
  refine ⟨rfl, w3.heap.size, cv', bv, xs', h9.1, ?_, ?_, ⟨m, ?_, hMm⟩, ?_⟩
  ·rw [← hp]
   exact (h9.2.block (t := 226) ⟨_, hF⟩ (by decide)).trans hF
  ·rw [← HSB.out.1]
   exact (hS.later hb4).tf h9.2 (by decide)
  ·rw [← HSB.out.2]
   exact (hM.later hb4).keep (Below.heap_setCell _ _ _ _ ((hM.later hb4).map.ne hR4.run.ty))
  ·rw [← HSB.out.2]
   have h8 : Fr (fun k => k = vb ∨ TyIn (112 :: stP) u k) u w4 := (hfr.mono fun k _ h => h.imp_right fun ⟨h0, t', h1, h2⟩ => ⟨h0, t', List.mem_cons_of_mem _ h1, h2⟩).trans (Fr.of_below _ hb4)
   exact h8.setCell (p := ⟨rb, 7, none⟩) (.inl (.inr ⟨HZ.out.1.few.2.1, 112, by decide, HZ.out.1.run.ty⟩)) _)
 clear hF hb4 hR4 HG HZ HP hFE F HSB
 go_wp2_with fail
 exact HQ.out
end Go.Proofs.YtjdnigepnfeboaaGreatDoor
namespace Go.Proofs.YtjdnigepnfeboaaGreatDoor
open Go.RowKit Go.Maps
set_option maxRecDepth 100000
def didV (b : Bool) : Value := .agg #[.bool b, .slice none 0 0, .slice none 0 0, .int .i64 0, .int .i64 0, .string ⟨#[]⟩, .slice none 0 0]
structure Two (u : World) (tb c : Nat) (x y : TV) (t s : Tm) : Prop where
 cx : ∀ (j : Nat) v, (encTV x)[j]? = some v → u.cell? ⟨tb, j, none⟩ = some v
 cy : ∀ (j : Nat) v, (encTV y)[j]? = some v → u.cell? ⟨tb, 4 + j, none⟩ = some v
 ty : TyB u 27 tb
 tx : TermS u (TyB u 27) x t
 ts : TermS u (TyB u 27) y s
theorem Two.later {u v : World} {tb c : Nat} {x y : TV} {t s : Tm} (h : Two u tb c x y t s) (hb : Below u.heap.size u v) : Two v tb c x y t s :=
 ⟨fun j a ha => (World.cell?_of_block (a := ⟨tb, j, none⟩) (hb.block _ h.ty.lt)).trans (h.cx j a ha), fun j a ha => (World.cell?_of_block (a := ⟨tb, 4 + j, none⟩) (hb.block _ h.ty.lt)).trans (h.cy j a ha), h.ty.keep (hb.block _ h.ty.lt),
  h.tx.keep (fun b hb' => hb'.keep (hb.block b hb'.lt)) fun b hb' => hb.block b hb'.lt, h.ts.keep (fun b hb' => hb'.keep (hb.block b hb'.lt)) fun b hb' => hb.block b hb'.lt⟩
theorem Two.at {u : World} {tb c : Nat} {x y : TV} {t s : Tm} (h : Two u tb c x y t s) (hm : t.may = true ∧ s.may = true) (hsz : t.size ≤ 2000 ∧ s.size ≤ 2000) {q : Nat} (hq : q < 2) :
    ∃ (z : TV) (r : Tm), (∀ (j : Nat) v, (encTV z)[j]? = some v → u.cell? ⟨tb, q * 4 + j, none⟩ = some v) ∧ TermS u (TyB u 27) z r ∧ r.may = true ∧ r.size ≤ 2000 := by
 rcases (show q = 0 ∨ q = 1 by omega) with rfl | rfl
 ·exact ⟨x, t, fun j v hv => by simpa using h.cx j v hv, h.tx, hm.1, hsz.1⟩
 ·exact ⟨y, s, fun j v hv => by simpa using h.cy j v hv, h.ts, hm.2, hsz.2⟩
set_option maxHeartbeats 4000000 in
theorem Do_eq (w : World) (tb c : Nat) (x y : TV) (t s : Tm) (h2 : Two w tb c x y t s) (hm : t.may = true ∧ s.may = true) (hsz : t.size ≤ 2000 ∧ s.size ≤ 2000) :
    Calls Tryz.prog 138 #[.string ⟨#[61, 61]⟩, .slice (some ⟨tb, 0, none⟩) 2 c] w fun e w' => ∃ b : Bool, e = .returned (.tuple #[didV b, .int .i64 0]) ∧ (b = true ↔ t = s) ∧ Below w.heap.size w w' := by
 obtain ⟨P, hP⟩ : ∃ P : Ending → World → Prop, P = fun e w' => ∃ b : Bool, e = .returned (.tuple #[didV b, .int .i64 0]) ∧ (b = true ↔ t = s) ∧ Below w.heap.size w w' := ⟨_, rfl⟩
 rw [← hP]
 have HP := Lib.hid hP
 have HT := Lib.hid h2
 have HZ := Lib.hid (And.intro hm hsz)
 clear hP h2 hm hsz
 go_enter Tryz.func138, Tryz.ntmps138
 go_upto_region 1 with fail
 obtain ⟨U, hU⟩ : ∃ U, U = w.alloc (.cells #[.bool false, .slice none 0 0, .slice none 0 0, .int .i64 0, .int .i64 0, .string ⟨#[]⟩, .slice none 0 0] 327) := ⟨_, rfl⟩
 rw [← hU]
 have hbU : Below w.heap.size w U := by rw [hU]; exact (Below.refl _ _).alloc (Nat.le_refl _) _
 have hzU : U.heap[w.heap.size]? = some (.cells #[.bool false, .slice none 0 0, .slice none 0 0, .int .i64 0, .int .i64 0, .string ⟨#[]⟩, .slice none 0 0] 327 (0, 0)) := by rw [hU]; exact heap_alloc_new _ _
 have HU := Lib.hid (And.intro hbU hzU)
 have HTU := Lib.hid (HT.out.later hbU)
 clear hU hbU hzU
 go_wp2_with fail
 refine (sdoes_eq U).mono ?_
 rintro e w1 ⟨rfl, rfl⟩
 go_wp2_with fail
 go_loopw [19] (fun i wr => ∃ q : Nat, i = .int .i64 (q : Nat) ∧ q ≤ 2 ∧ Hid (Below w1.heap.size w1 wr)) (fun i _ => 2 - (intOf i).toNat)
 case atStart => exact ⟨0, rfl, Nat.zero_le _, Lib.hid (Below.refl _ _)⟩
 case round =>
  obtain ⟨q, rfl, hq, HI⟩ := hrel
  have HTR := Lib.hid (HTU.out.later HI.out)
  by_cases hlt : q < 2
  ·have hlt1 : (q : Int) < 2 := by omega
   have hge : (0 : Int) ≤ (q : Int) := by omega
   have hwq : IntKind.i64.wrap ((q : Int) + 1) = (q : Int) + 1 := IntWalk.i64_in _ (by omega)
   obtain ⟨z, r, hc, hz, hr1, hr2⟩ := HTR.out.at HZ.out.1 HZ.out.2 hlt
   have y0 := hc 0 _ rfl
   have y1 := hc 1 _ rfl
   have y2 := hc 2 _ rfl
   have y3 := hc 3 _ rfl
   rw [Nat.add_zero] at y0
   have hbl : tb < wr.heap.size := HTR.out.ty.lt
   obtain ⟨V, hV⟩ : ∃ V, V = wr.alloc (.cells #[.int .i64 z.k, .int .i64 z.n, .string ⟨z.s.toArray⟩, .slice z.A z.len z.cap] 27) := ⟨_, rfl⟩
   have hbV : Below wr.heap.size wr V := by rw [hV]; exact (Below.refl _ _).alloc (Nat.le_refl _) _
   have hzV : V.heap[wr.heap.size]? = some (.cells #[.int .i64 z.k, .int .i64 z.n, .string ⟨z.s.toArray⟩, .slice z.A z.len z.cap] 27 (0, 0)) := by rw [hV]; exact heap_alloc_new _ _
   obtain ⟨v0, v1, v2, v3, -⟩ := four_at hzV
   have HCK : Hid (Calls Tryz.prog 30 #[tvV z] V fun e w' => e = .returned (.int .i64 0) ∧ Below V.heap.size V w') := Lib.hid (by
    have := check_any V z r ((hz.keep (S' := TyB V 27) (fun b hb => hb.keep (hbV.block b hb.lt)) fun b hb => hbV.block b hb.lt).at fun b hb => hb.lt) (by omega) (by have := deep_size r; omega)
    rwa [checkT_ok hr1 hr2] at this)
   have HNX := Lib.hid (HI.out.trans (hbV.mono HI.out.size))
   clear hc hz hr1 hr2 hzV hbV HI HTR
   go_upto_region 6 with fail
   rw [← hV]
   clear hV y0 y1 y2 y3 hbl
   go_wp2_with fail
   refine HCK.out.mono ?_
   rintro e w5 ⟨rfl, hb5⟩
   go_wp2_with fail
   go_roundw
   case rel => exact ⟨q + 1, rfl, by omega, Lib.hid (HNX.out.trans (hb5.mono HNX.out.size))⟩
   case measure =>
    simp only [intOf]
    omega
  ·obtain rfl : q = 2 := by omega
   clear hlt HTR hq
   go_wp2_with fail
   refine (orders_any wr).mono ?_
   rintro e w2 ⟨b, rfl, hb2, hlk⟩
   unfold fnV at hlk
   have HB2 := Lib.hid (HI.out.trans (hb2.mono HI.out.size))
   have HT2 := Lib.hid (HTU.out.later HB2.out)
   have HU2 : Hid (Below w.heap.size w w2 ∧ ∀ v, Below w2.heap.size w2 v → v.heap[w.heap.size]? = some (.cells #[.bool false, .slice none 0 0, .slice none 0 0, .int .i64 0, .int .i64 0, .string ⟨#[]⟩, .slice none 0 0] 327 (0, 0))) := Lib.hid (by
    have h1 := (Array.getElem?_eq_some_iff.1 HU.out.2).1
    have h2 := HB2.out.size
    exact ⟨HU.out.1.trans (HB2.out.mono HU.out.1.size), fun v hv => ((hv.block _ (by omega)).trans (HB2.out.block _ h1)).trans HU.out.2⟩)
   clear hb2 HB2 HTU HU HI
   go_upto_region 12 with fail
   have HSC : Hid (∀ v, Below w2.heap.size w2 v → (v.cell? ⟨tb, 0, none⟩ = some (.int .i64 x.k) ∧ v.cell? ⟨tb, 1, none⟩ = some (.int .i64 x.n) ∧ v.cell? ⟨tb, 2, none⟩ = some (.string ⟨x.s.toArray⟩) ∧ v.cell? ⟨tb, 3, none⟩ = some (.slice x.A x.len x.cap)) ∧ (v.cell? ⟨tb, 4, none⟩ = some (.int .i64 y.k) ∧ v.cell? ⟨tb, 4 + 1, none⟩ = some (.int .i64 y.n) ∧ v.cell? ⟨tb, 4 + 2, none⟩ = some (.string ⟨y.s.toArray⟩) ∧ v.cell? ⟨tb, 4 + 3, none⟩ = some (.slice y.A y.len y.cap))) := Lib.hid fun v hv => by
    have h := HT2.out.later hv
    exact ⟨⟨h.cx 0 _ rfl, h.cx 1 _ rfl, h.cx 2 _ rfl, h.cx 3 _ rfl⟩, h.cy 0 _ rfl, h.cy 1 _ rfl, h.cy 2 _ rfl, h.cy 3 _ rfl⟩
   have HCM : Hid (Calls Tryz.prog 231 #[.agg #[.int .i64 x.k, .int .i64 x.n, .string ⟨x.s.toArray⟩, .slice x.A x.len x.cap], .agg #[.int .i64 y.k, .int .i64 y.n, .string ⟨y.s.toArray⟩, .slice y.A y.len y.cap]] w2.drew fun e w3 => ∃ c : Int, e = .returned (.int .i64 c) ∧ (c = 0 ↔ t = s) ∧ Below w2.heap.size w2.drew w3) := Lib.hid (by
    have h := HT2.out.later (Below.refl _ _).drew
    exact Compare_any w2.drew x y t s h.tx h.ts HZ.out.1.1 (by have := HZ.out.2; omega))
   have HC3 : Hid (∀ (d : Bool) (w3 : World), (d = true ↔ t = s) → Below w2.heap.size w2.drew w3 → ((w3.cell? ⟨tb, 0, none⟩ = some (.int .i64 x.k) ∧ w3.cell? ⟨tb, 1, none⟩ = some (.int .i64 x.n) ∧ w3.cell? ⟨tb, 2, none⟩ = some (.string ⟨x.s.toArray⟩) ∧ w3.cell? ⟨tb, 3, none⟩ = some (.slice x.A x.len x.cap)) ∧ (w3.cell? ⟨tb, 4, none⟩ = some (.int .i64 y.k) ∧ w3.cell? ⟨tb, 4 + 1, none⟩ = some (.int .i64 y.n) ∧ w3.cell? ⟨tb, 4 + 2, none⟩ = some (.string ⟨y.s.toArray⟩) ∧ w3.cell? ⟨tb, 4 + 3, none⟩ = some (.slice y.A y.len y.cap))) ∧ w3.heap[w.heap.size]? = some (.cells #[.bool false, .slice none 0 0, .slice none 0 0, .int .i64 0, .int .i64 0, .string ⟨#[]⟩, .slice none 0 0] 327 (0, 0)) ∧ ∀ WF, WF = (((((((w3.setCell ⟨w.heap.size, 0, none⟩ (.bool d)).setCell ⟨w.heap.size, 1, none⟩ (.slice none 0 0)).setCell ⟨w.heap.size, 2, none⟩ (.slice none 0 0)).setCell ⟨w.heap.size, 3, none⟩ (.int .i64 0)).setCell ⟨w.heap.size, 4, none⟩ (.int .i64 0)).setCell ⟨w.heap.size, 5, none⟩ (.string ⟨#[]⟩)).setCell ⟨w.heap.size, 6, none⟩ (.slice none 0 0)) → ((WF.cell? ⟨tb, 0, none⟩ = some (.int .i64 x.k) ∧ WF.cell? ⟨tb, 1, none⟩ = some (.int .i64 x.n) ∧ WF.cell? ⟨tb, 2, none⟩ = some (.string ⟨x.s.toArray⟩) ∧ WF.cell? ⟨tb, 3, none⟩ = some (.slice x.A x.len x.cap)) ∧ (WF.cell? ⟨tb, 4, none⟩ = some (.int .i64 y.k) ∧ WF.cell? ⟨tb, 4 + 1, none⟩ = some (.int .i64 y.n) ∧ WF.cell? ⟨tb, 4 + 2, none⟩ = some (.string ⟨y.s.toArray⟩) ∧ WF.cell? ⟨tb, 4 + 3, none⟩ = some (.slice y.A y.len y.cap))) ∧ WF.heap[w.heap.size]? = some (.cells #[.bool d, .slice none 0 0, .slice none 0 0, .int .i64 0, .int .i64 0, .string ⟨#[]⟩, .slice none 0 0] 327 (0, 0)) ∧ P (.returned (.tuple #[didV d, .int .i64 0])) WF) := Lib.hid fun d w3 hd hb => by
    have hb' : Below w2.heap.size w2 w3 := (Below.refl _ _).drew.trans hb
    refine ⟨HSC.out w3 hb', HU2.out.2 w3 hb', fun WF hWF => ?_⟩
    have hne : tb ≠ w.heap.size := fun e => by
     obtain ⟨cs, h⟩ := HT2.out.ty
     have := HU2.out.2 w2 (Below.refl _ _)
     rw [e, this] at h
     injection h with h
     injection h with _ h
     exact absurd h (by decide)
    have hk : WF.heap[tb]? = w3.heap[tb]? := by rw [hWF]; exact blk_set7_ne _ _ _ _ _ _ _ hne
    have hcell : ∀ o a, w3.cell? ⟨tb, o, none⟩ = some a → WF.cell? ⟨tb, o, none⟩ = some a := fun o a h => (World.cell?_of_block (a := ⟨tb, o, none⟩) hk).trans h
    obtain ⟨⟨a0, a1, a2, a3⟩, b0, b1, b2, b3⟩ := HSC.out w3 hb'
    refine ⟨⟨⟨hcell _ _ a0, hcell _ _ a1, hcell _ _ a2, hcell _ _ a3⟩, hcell _ _ b0, hcell _ _ b1, hcell _ _ b2, hcell _ _ b3⟩, by rw [hWF]; exact blk_set7 (HU2.out.2 w3 hb') _ _ _ _ _ _ _, ?_⟩
    rw [HP.out]
    refine ⟨d, rfl, hd, ?_⟩
    have h0 := HU2.out.1.trans (hb'.mono HU2.out.1.size)
    rw [hWF]
    exact ((((((h0.setCell (p := ⟨w.heap.size, 0, none⟩) (Nat.le_refl _) _).setCell (p := ⟨w.heap.size, 1, none⟩) (Nat.le_refl _) _).setCell (p := ⟨w.heap.size, 2, none⟩) (Nat.le_refl _) _).setCell (p := ⟨w.heap.size, 3, none⟩) (Nat.le_refl _) _).setCell (p := ⟨w.heap.size, 4, none⟩) (Nat.le_refl _) _).setCell (p := ⟨w.heap.size, 5, none⟩) (Nat.le_refl _) _).setCell (p := ⟨w.heap.size, 6, none⟩) (Nat.le_refl _) _
   have HD := Lib.hid (HSC.out _ (Below.refl _ _).drew)
   clear hlk HT HZ HT2 HSC HP HU2
   go_region_held3 (fun v => (v.cell? ⟨tb, 0, none⟩ = some (.int .i64 x.k) ∧ v.cell? ⟨tb, 1, none⟩ = some (.int .i64 x.n) ∧ v.cell? ⟨tb, 2, none⟩ = some (.string ⟨x.s.toArray⟩) ∧ v.cell? ⟨tb, 3, none⟩ = some (.slice x.A x.len x.cap)) ∧ (v.cell? ⟨tb, 4, none⟩ = some (.int .i64 y.k) ∧ v.cell? ⟨tb, 4 + 1, none⟩ = some (.int .i64 y.n) ∧ v.cell? ⟨tb, 4 + 2, none⟩ = some (.string ⟨y.s.toArray⟩) ∧ v.cell? ⟨tb, 4 + 3, none⟩ = some (.slice y.A y.len y.cap)))
    (first | (with_reducible exact (HC2 _ rfl).1) | (with_reducible exact HA) | (with_reducible exact HD.out))
    (first | (go_at_call 231; with_reducible (refine HCM.out.mono ?_; rintro e w3 ⟨c3, rfl, hc3, hb3⟩); have hcd : ((c3 == 0) = true ↔ t = s) := (by rw [beq_iff_eq]; exact hc3); obtain ⟨HA, HQ1, HC2⟩ := HC3.out (c3 == 0) w3 hcd hb3; obtain ⟨q0, q1, q2, q3, q4, q5, q6, qf⟩ := seven_at HQ1) | (go_at_call 297; with_reducible (refine (ord1_any _ _).mono ?_; rintro e w4 ⟨rfl, rfl⟩)))
   clear HA HQ1 q0 q1 q2 q3 q4 q5 q6 qf hb3 hcd hc3 HCM HC3 HD
   obtain ⟨WF, hWF⟩ : ∃ WF, WF = (((((((w4.setCell ⟨w.heap.size, 0, none⟩ (.bool (c3 == 0))).setCell ⟨w.heap.size, 1, none⟩ (.slice none 0 0)).setCell ⟨w.heap.size, 2, none⟩ (.slice none 0 0)).setCell ⟨w.heap.size, 3, none⟩ (.int .i64 0)).setCell ⟨w.heap.size, 4, none⟩ (.int .i64 0)).setCell ⟨w.heap.size, 5, none⟩ (.string ⟨#[]⟩)).setCell ⟨w.heap.size, 6, none⟩ (.slice none 0 0)) := ⟨_, rfl⟩
   have HQ := Lib.hid (HC2 _ hWF).2
   rw [← hWF]
   clear hWF HC2
   go_wp2_with fail
   obtain ⟨f0, f1, f2, f3, f4, f5, f6, -⟩ := seven_at HQ.out.1
   exact bodyPost_ret (v := .tuple #[didV (c3 == 0), .int .i64 0]) (by simp [results, Tryz.results138, go_sem, f0, f1, f2, f3, f4, f5, f6, didV]) rfl HQ.out.2
end Go.Proofs.YtjdnigepnfeboaaGreatDoor
