import Derived.Test.YtcallkljcjimiaaGreatDoorJW05
import Derived.Deep.AppendLies
import Derived.Deep.RegionLaw
namespace Go.Proofs.YtcallkljcjimiaaGreatDoor
open Go.RowKit
set_option maxRecDepth 100000
set_option maxHeartbeats 4000000 in
theorem is_any (u : World) (rb : Nat) (v : RdV) (ts : List Tok) (s : RdS) (B : Nat) (h : RdAt u rb v ts s B) (k : Nat) (hk : k ≤ 2) (c : UInt8) :
    Calls Tryz.prog 123 #[.pointer (some ⟨rb, 0, none⟩), .int .i64 k, .string ⟨#[c]⟩] u fun e u' => e = .returned (.bool (isP ts (s.at' + k) c)) ∧ Below u.heap.size u u' := by
 have HA := Lib.hid h
 have hlt := h.blk.lt
 clear h
 unfold isP
 go_enter Tryz.func123, Tryz.ntmps123
 go_wp2_with fail
 refine (peek_any _ rb v ts s B HA.out k hk).mono ?_
 rintro e w1 ⟨rfl, hb⟩
 simp only [tokW]
 go_wp2_with fail
 all_goals rename_i hk6
 ·refine bodyPost_ret (v := .bool ((peekF ts (s.at' + k)).s == [c])) (by simp [results, Tryz.results123, go_sem]) rfl ⟨?_, hb.alloc hb.size _⟩
  rw [decide_eq_true hk6, Bool.true_and]
  by_cases h2 : (peekF ts (s.at' + k)).s = [c]
  ·rw [decide_eq_true h2, beq_iff_eq.2 h2]
  ·rw [decide_eq_false h2, beq_eq_false_iff_ne.2 h2]
 ·exact bodyPost_ret (v := .bool false) (by simp [results, Tryz.results123, go_sem]) rfl ⟨by rw [decide_eq_false hk6]; rfl, hb.alloc hb.size _⟩
set_option maxHeartbeats 4000000 in
theorem accept_any (u : World) (rb : Nat) (v : RdV) (ts : List Tok) (s : RdS) (B : Nat) (h : RdAt u rb v ts s B) (c : UInt8) :
    Calls Tryz.prog 128 #[.pointer (some ⟨rb, 0, none⟩), .string ⟨#[c]⟩] u fun e u' => e = .returned (.bool (isP ts s.at' c)) ∧ RdAt u' rb v ts (if isP ts s.at' c then s.go 1 else s) B ∧ Fr (· = rb) u u' := by
 have HA := Lib.hid h
 have hlt := h.blk.lt
 clear h
 obtain ⟨s', hs'⟩ : ∃ s', s' = (if isP ts s.at' c then s.go 1 else s) := ⟨_, rfl⟩
 rw [← hs']
 go_enter Tryz.func128, Tryz.ntmps128
 go_wp2_with fail
 refine (is_any _ rb v ts s B HA.out 0 (by omega) c).mono ?_
 rintro e w1 ⟨rfl, hb⟩
 have HA1 := Lib.hid (HA.out.later hb)
 have hP : s.at' + 0 = s.at' := rfl
 rw [hP]
 have HB := Lib.hid hb
 clear hb hP
 cases hq : isP ts s.at' c with
 | false =>
  rw [hq, if_neg (by simp)] at hs'
  subst hs'
  go_wp2_with fail
  exact bodyPost_ret (v := .bool false) (by simp [results, Tryz.results128, go_sem]) rfl ⟨by rw [hq], HA1.out, .of_below _ HB.out⟩
 | true =>
  rw [hq, if_pos rfl] at hs'
  subst hs'
  have hl := isP_lt hq
  have c1 : w1.cell? ⟨rb, 1, none⟩ = some (.int .i64 (s.at' : Int)) := HA1.out.blk.cell (i := 1) rfl
  have cf := HA1.out.blk.free
  have hf := HA1.out.few
  have hwr : IntKind.i64.wrap ((s.at' : Int) + 1) = (s.at' : Int) + 1 := IntWalk.i64_in _ (by omega)
  go_wp2_with fail
  exact bodyPost_ret (v := .bool true) (by simp [results, Tryz.results128, go_sem]) rfl ⟨by rw [hq], HA1.out.put (s' := s.go 1) 1 _ (by simp [rdCells, RdS.go]) rfl rfl (by show s.at' + 1 ≤ _; omega), (Fr.of_below (· = rb) HB.out).setCell (p := ⟨rb, 1, none⟩) (.inl rfl) _⟩
set_option maxHeartbeats 4000000 in
theorem fail_any (u : World) (p : Value) :
    Calls Tryz.prog 89 #[p] u fun e u' => e = .panicked [{ v := .iface 192 (.agg #[]), recovered := false }] ∧ Below u.heap.size u u' := by
 go_enter Tryz.func89, Tryz.ntmps89
 go_wp2_with fail
 exact ⟨rfl, rfl, Below.refl _ _⟩
set_option maxHeartbeats 4000000 in
theorem expect_any (u : World) (rb : Nat) (v : RdV) (ts : List Tok) (s : RdS) (B : Nat) (h : RdAt u rb v ts s B) (c : UInt8) :
    Calls Tryz.prog 124 #[.pointer (some ⟨rb, 0, none⟩), .string ⟨#[c]⟩] u fun e u' => Fr (· = rb) u u' ∧
     (if isP ts s.at' c then e = .returned (.tuple #[]) ∧ RdAt u' rb v ts (s.go 1) B else e = .panicked [{ v := .iface 192 (.agg #[]), recovered := false }] ∧ RdAt u' rb v ts s B) := by
 have HA := Lib.hid h
 clear h
 cases hq : isP ts s.at' c with
 | true =>
  simp only [if_true]
  go_enter Tryz.func124, Tryz.ntmps124
  go_wp2_with fail
  refine (accept_any _ rb v ts s B HA.out c).mono ?_
  rintro e w1 ⟨rfl, h1, hF⟩
  rw [hq, if_pos rfl] at h1
  rw [hq]
  have H1 := Lib.hid h1
  have HF := Lib.hid hF
  clear h1 hF
  go_wp2_with fail
  exact bodyPost_end (v := .tuple #[]) (by simp [results, Tryz.results124, go_sem]) rfl ⟨HF.out, rfl, H1.out⟩
 | false =>
  simp only [Bool.false_eq_true, if_false]
  go_enter Tryz.func124, Tryz.ntmps124
  go_wp2_with fail
  refine (accept_any _ rb v ts s B HA.out c).mono ?_
  rintro e w1 ⟨rfl, h1, hF⟩
  rw [hq, if_neg (by simp)] at h1
  rw [hq]
  have H1 := Lib.hid h1
  have HF := Lib.hid hF
  clear h1 hF
  go_wp2_with fail
  refine (fail_any _ _).mono ?_
  rintro e w2 ⟨rfl, hb⟩
  exact ⟨rfl, HF.out.trans (.of_below _ hb), rfl, H1.out.later hb⟩
set_option maxHeartbeats 4000000 in
theorem want_any (u : World) (rb : Nat) (v : RdV) (ts : List Tok) (s : RdS) (B : Nat) (h : RdAt u rb v ts s B) (m : Int) :
    Calls Tryz.prog 98 #[.pointer (some ⟨rb, 0, none⟩), .int .i64 m] u fun e u' => e = .returned (.tuple #[]) ∧ RdAt u' rb v ts (s.want m) B ∧ u' = (u.setCell ⟨rb, 5, none⟩ (.int .i64 m)).setCell ⟨rb, 6, none⟩ (.bool false) := by
 have HA := Lib.hid h
 have c5 : u.cell? ⟨rb, 5, none⟩ = some (.int .i64 s.most) := h.blk.cell (i := 5) rfl
 have c6 : u.cell? ⟨rb, 6, none⟩ = some (.bool s.hv) := h.blk.cell (i := 6) rfl
 have cf := h.blk.free
 clear h
 go_enter Tryz.func98, Tryz.ntmps98
 go_wp2_with fail
 exact bodyPost_end (v := .tuple #[]) (by simp [results, Tryz.results98, go_sem]) rfl
  ⟨rfl, (HA.out.put (s' := { s with most := m }) 5 _ (by simp [rdCells]) rfl rfl HA.out.in').put (s' := s.want m) 6 _ (by simp [rdCells, RdS.want]) rfl rfl HA.out.in', rfl⟩
set_option maxHeartbeats 4000000 in
theorem done_any (u : World) (rb : Nat) (v : RdV) (ts : List Tok) (s : RdS) (B : Nat) (h : RdAt u rb v ts s B) (x : TV) (t : Tm) (pri : Int) :
    Calls Tryz.prog 90 #[.pointer (some ⟨rb, 0, none⟩), .agg #[.int .i64 x.k, .int .i64 x.n, .string ⟨x.s.toArray⟩, .slice x.A x.len x.cap], .int .i64 pri] u fun e u' => e = .returned (.tuple #[]) ∧ RdAt u' rb { v with x := x } ts (s.done t pri) B ∧ Fr (· = rb) u u' := by
 have HA := Lib.hid h
 have c7 : u.cell? ⟨rb, 7, none⟩ = some (.int .i64 v.x.k) := h.blk.cell (i := 7) rfl
 have c8 : u.cell? ⟨rb, 8, none⟩ = some (.int .i64 v.x.n) := h.blk.cell (i := 8) rfl
 have c9 : u.cell? ⟨rb, 9, none⟩ = some (.string ⟨v.x.s.toArray⟩) := h.blk.cell (i := 9) rfl
 have c10 : u.cell? ⟨rb, 10, none⟩ = some (.slice v.x.A v.x.len v.x.cap) := h.blk.cell (i := 10) rfl
 have c11 : u.cell? ⟨rb, 11, none⟩ = some (.int .i64 s.pri) := h.blk.cell (i := 11) rfl
 have c6 : u.cell? ⟨rb, 6, none⟩ = some (.bool s.hv) := h.blk.cell (i := 6) rfl
 have cf := h.blk.free
 have hlt := h.blk.lt
 clear h
 go_enter Tryz.func90, Tryz.ntmps90
 go_wp2_with fail
 have p1 := HA.out.put (v' := { v with x := { v.x with k := x.k } }) (s' := s) 7 (.int .i64 x.k) (by simp [rdCells]) rfl rfl HA.out.in'
 have p2 := p1.put (v' := { v with x := { v.x with k := x.k, n := x.n } }) (s' := s) 8 (.int .i64 x.n) (by simp [rdCells]) rfl rfl HA.out.in'
 have p3 := p2.put (v' := { v with x := { v.x with k := x.k, n := x.n, s := x.s } }) (s' := s) 9 (.string ⟨x.s.toArray⟩) (by simp [rdCells]) rfl rfl HA.out.in'
 have p4 := p3.put (v' := { v with x := x }) (s' := s) 10 (.slice x.A x.len x.cap) (by simp [rdCells]) rfl rfl HA.out.in'
 have p5 := p4.put (v' := { v with x := x }) (s' := { s with pri := pri }) 11 (.int .i64 pri) (by simp [rdCells]) rfl rfl HA.out.in'
 have p6 := p5.put (v' := { v with x := x }) (s' := s.done t pri) 6 (.bool true) (by simp [rdCells, RdS.done]) rfl rfl HA.out.in'
 have hF : Fr (· = rb) u ((((((u.setCell ⟨rb, 7, none⟩ (.int .i64 x.k)).setCell ⟨rb, 8, none⟩ (.int .i64 x.n)).setCell ⟨rb, 9, none⟩ (.string ⟨x.s.toArray⟩)).setCell ⟨rb, 10, none⟩ (.slice x.A x.len x.cap)).setCell ⟨rb, 11, none⟩ (.int .i64 pri)).setCell ⟨rb, 6, none⟩ (.bool true)) :=
  ((((((Fr.refl (· = rb) u).setCell (p := ⟨rb, 7, none⟩) (.inl rfl) _).setCell (p := ⟨rb, 8, none⟩) (.inl rfl) _).setCell (p := ⟨rb, 9, none⟩) (.inl rfl) _).setCell (p := ⟨rb, 10, none⟩) (.inl rfl) _).setCell (p := ⟨rb, 11, none⟩) (.inl rfl) _).setCell (p := ⟨rb, 6, none⟩) (.inl rfl) _
 exact bodyPost_end (v := .tuple #[]) (by simp [results, Tryz.results90, go_sem]) rfl
  ⟨rfl, p6.later ((Below.refl _ _).alloc (Nat.le_refl _) _), hF.alloc _⟩
structure FrV where
 use : Int
 most : Int
 name : List UInt8
 pri : Int
 A : Option Addr
 len : Nat
 cap : Nat
def encFr (f : FrV) : List Value := [.int .i64 f.use, .int .i64 f.most, .string ⟨f.name.toArray⟩, .int .i64 f.pri, .slice f.A f.len f.cap]
def frV (f : FrV) : Value := .agg #[.int .i64 f.use, .int .i64 f.most, .string ⟨f.name.toArray⟩, .int .i64 f.pri, .slice f.A f.len f.cap]
theorem encFr_len (f : FrV) : (encFr f).length = 5 := rfl
theorem encFr_one (f : FrV) : ∀ u ∈ encFr f, u.oneCell' = true := by
 intro u hu
 simp only [encFr, List.mem_cons, List.mem_nil_iff, or_false] at hu
 rcases hu with rfl | rfl | rfl | rfl | rfl <;> rfl
theorem frame_info : ∃ i z, Tryz.prog.info? 160 = some i ∧ i.zero = some z ∧ i.size = 5 ∧ i.bytes = 64 ∧ z.cells.size = 5 := by
 refine ⟨_, _, rfl, rfl, ?_, ?_, ?_⟩ <;> kernel_rfl
abbrev WRow (u : World) (rb : Nat) (wv : Value) (l : List FrV) : Prop := Row u (rb + 1) 160 5 encFr wv l
theorem five_at {w1 : World} {b : Nat} {a0 a1 a2 a3 a4 : Value} {t : TypeId} (h : w1.heap[b]? = some (.cells #[a0, a1, a2, a3, a4] t (0, 0))) :
    w1.cell? ⟨b, 0, none⟩ = some a0 ∧ w1.cell? ⟨b, 1, none⟩ = some a1 ∧ w1.cell? ⟨b, 2, none⟩ = some a2 ∧ w1.cell? ⟨b, 3, none⟩ = some a3 ∧ w1.cell? ⟨b, 4, none⟩ = some a4 ∧ (∀ o, w1.frozen? ⟨b, o, none⟩ = false) :=
 ⟨by rw [cell_of_row w1 b 0 _ t (0, 0) h]; rfl, by rw [cell_of_row w1 b 1 _ t (0, 0) h]; rfl, by rw [cell_of_row w1 b 2 _ t (0, 0) h]; rfl, by rw [cell_of_row w1 b 3 _ t (0, 0) h]; rfl, by rw [cell_of_row w1 b 4 _ t (0, 0) h]; rfl, fun o => by simp [World.frozen?, h]⟩
theorem WRow.ne {u : World} {rb : Nat} {wv : Value} {l : List FrV} (h : WRow u rb wv l) : wv.ownBlock ≠ some rb := fun e => by have := (h.lt rb e).1; omega
theorem RdAt.keep {u u' : World} {rb : Nat} {v : RdV} {ts : List Tok} {s : RdS} {B : Nat} (h : RdAt u rb v ts s B) (hr : u'.heap[rb]? = u.heap[rb]?) (hb : ∀ k, k < B → u'.heap[k]? = u.heap[k]?) : RdAt u' rb v ts s B :=
 ⟨hr.trans h.blk, h.toks.keep hb, h.base, h.few, h.in'⟩
theorem wait_behind {W W' w9 : World} {rb : Nat} {v : RdV} {ts : List Tok} {s : RdS} {B : Nat} {l : List FrV} (h : RdAt W rb v ts s B) (hr : WRow W rb v.wv l) (hb : Below W.heap.size W W') (hg : W'.grownBy w9 v.wv.ownBlock) : RdAt w9 rb v ts s B :=
 (h.later hb).keep (hg.block rb (Nat.lt_of_lt_of_le h.blk.lt hb.size) (fun e => hr.ne e.symm)) fun k hk => hg.block k (by have := h.blk.lt; have := h.base; have := hb.size; omega) fun e => by
   have := (hr.lt k e.symm).1
   have := h.base
   omega
theorem wait_pushed {u W W' w9 : World} {rb : Nat} {v : RdV} {ts : List Tok} {s : RdS} {B : Nat} {l : List FrV} {f : FrV} {nw : Value} (h : RdAt W rb v ts s B) (hr : WRow W rb v.wv l) (hu : Fr (fun k => k = rb ∨ v.wv.ownBlock = some k) u W) (hb : Below W.heap.size W W') (hg : W'.grownBy w9 v.wv.ownBlock)
    (hown : w9.ownsRow (rb + 1) 160 5 nw (l.length + 1) (l.flatMap encFr ++ encFr f)) (sf : WaitF) :
    RdAt (w9.setCell ⟨rb, 4, none⟩ nw) rb { v with wv := nw } ts { s with wait := sf :: s.wait } B ∧ WRow (w9.setCell ⟨rb, 4, none⟩ nw) rb nw (l ++ [f]) ∧ Fr (fun k => k = rb ∨ v.wv.ownBlock = some k) u (w9.setCell ⟨rb, 4, none⟩ nw) := by
 have h9 := wait_behind h hr hb hg
 have hr9 : WRow w9 rb nw (l ++ [f]) := ⟨by rw [List.length_append, List.flatMap_append]; simpa using hown⟩
 refine ⟨h9.put (v' := { v with wv := nw }) (s' := { s with wait := sf :: s.wait }) 4 nw (by simp [rdCells]) rfl rfl h9.in', Row.keep hr9 fun k hk => Below.heap_setCell _ _ _ _ fun e => hr9.ne (by rw [hk]; exact congrArg some e), ?_⟩
 exact ((hu.step hb).grown hg fun g hg' => .inl (.inr hg')).setCell (.inl (.inl rfl)) _
theorem WRow.put {u : World} {rb : Nat} {wv : Value} {l : List FrV} (h : WRow u rb wv l) (i : Nat) (x : Value) : WRow (u.setCell ⟨rb, i, none⟩ x) rb wv l :=
 Row.keep h fun k hk => Below.heap_setCell _ _ _ _ fun e => h.ne (by rw [hk]; exact congrArg some e)
set_option maxHeartbeats 8000000 in
theorem again_any (u : World) (rb : Nat) (v : RdV) (ts : List Tok) (s : RdS) (B : Nat) (h : RdAt u rb v ts s B) (l : List FrV) (hrow : WRow u rb v.wv l) (hl : l.length ≤ 100000) (f : FrV) (m : Int) (sf : WaitF) :
    Calls Tryz.prog 129 #[.pointer (some ⟨rb, 0, none⟩), frV f, .int .i64 m] u fun e u' => e = .returned (.tuple #[]) ∧ ∃ wv', RdAt u' rb { v with wv := wv' } ts (s.again sf m) B ∧ WRow u' rb wv' (l ++ [f]) ∧
     Fr (fun k => k = rb ∨ v.wv.ownBlock = some k) u u' := by
 obtain ⟨A, cap, hsh⟩ := hrow.shape
 obtain ⟨W1, hW1⟩ : ∃ W1, W1 = u.alloc (.cells #[.int .i64 f.use, .int .i64 f.most, .string ⟨f.name.toArray⟩, .int .i64 f.pri, .slice f.A f.len f.cap] 160) := ⟨_, rfl⟩
 have hb1 : Below u.heap.size u W1 := by rw [hW1]; exact (Below.refl _ _).alloc (Nat.le_refl _) _
 have HS := Lib.hid (h.later hb1)
 have HR : Hid (WRow W1 rb v.wv l) := Lib.hid (Row.later hrow hb1)
 have hnew : W1.heap[u.heap.size]? = some (.cells #[.int .i64 f.use, .int .i64 f.most, .string ⟨f.name.toArray⟩, .int .i64 f.pri, .slice f.A f.len f.cap] 160 (0, 0)) := by rw [hW1]; exact heap_alloc_new u _
 obtain ⟨n0, n1, n2, n3, n4, nf⟩ := five_at hnew
 have hsz : W1.heap.size = u.heap.size + 1 := by rw [hW1]; simp
 have hlt := h.blk.lt
 have c4 : W1.cell? ⟨rb, 4, none⟩ = some v.wv := HS.out.blk.cell (i := 4) rfl
 have cf := HS.out.blk.free
 have HB1 := Lib.hid hb1
 clear h hrow hnew hb1
 obtain ⟨A0, n, c, ob, bv, wv, x, vb, nv⟩ := v
 simp only at hsh
 subst hsh
 unfold frV
 obtain ⟨i0, z0, hi0, hz0, hz1, hz2, hz3⟩ := frame_info
 go_enter Tryz.func129, Tryz.ntmps129
 go_wp2_with fail
 rw [← hW1]
 clear hW1
 go_region_law
     ((refine step_append_lies _ (by rfl) _ _ _ (by rfl) (rb + 1) 160 i0 _ 5 64 Tryz.underlying114 hi0 hz0 hz1 hz2 hz3 (by omega) (.slice A l.length cap) l.length (l.flatMap encFr) (by rfl) (Row.later HR.out (by (repeat (first | exact Below.refl _ _ | refine Below.drew ?_ | refine Below.alloc ?_ (Nat.le_refl _) _)))).own
         ⟨u.heap.size + 1, 0, none⟩ 1 1 (encFr f) (by rfl) (by rfl) (World.news_of_block (cs := (encFr f).toArray) (t := 160) (fr := (0, 0)) (by rw [← hsz]; exact heap_alloc_new W1 _)) (encFr_one _)
         (by omega) (by unfold maxLen; omega) (by omega) (by simp; omega) (u.heap.size + 2) (by simp [hsz]) ?_; intro gg cap2 w9 hown9 hgrow hat9 hlt9; obtain ⟨hc9, hf9⟩ : w9.cell? ⟨rb, 4, none⟩ = some (.slice A l.length cap) ∧ w9.frozen? ⟨rb, 4, none⟩ = false := ⟨(wait_behind HS.out HR.out (by (repeat (first | exact Below.refl _ _ | refine Below.drew ?_ | refine Below.alloc ?_ (Nat.le_refl _) _))) hgrow).blk.cell (i := 4) rfl, (wait_behind HS.out HR.out (by (repeat (first | exact Below.refl _ _ | refine Below.drew ?_ | refine Below.alloc ?_ (Nat.le_refl _) _))) hgrow).blk.free 4⟩))
 all_goals
  go_wp2_with fail
  obtain ⟨r1, r2, r3⟩ := wait_pushed (u := u) HS.out HR.out (Fr.of_below _ HB1.out) (by (repeat (first | exact Below.refl _ _ | refine Below.drew ?_ | refine Below.alloc ?_ (Nat.le_refl _) _))) hgrow hown9 sf
  refine (want_any _ rb _ ts _ B r1 m).mono ?_
  rintro e w10 ⟨rfl, q1, rfl⟩
  have R2 := Lib.hid r2
  have R3 := Lib.hid r3
  have Q1 := Lib.hid q1
  clear r1 r2 r3 q1
  go_wp2_with fail
  exact bodyPost_end (v := .tuple #[]) (by simp [results, Tryz.results129, go_sem]) rfl
   ⟨rfl, _, Q1.out, (R2.out.put 5 _).put 6 _, (R3.out.setCell (p := ⟨rb, 5, none⟩) (.inl (.inl rfl)) _).setCell (p := ⟨rb, 6, none⟩) (.inl (.inl rfl)) _⟩
set_option maxHeartbeats 8000000 in
theorem await_any (u : World) (rb : Nat) (v : RdV) (ts : List Tok) (s : RdS) (B : Nat) (h : RdAt u rb v ts s B) (l : List FrV) (hrow : WRow u rb v.wv l) (hl : l.length ≤ 100000) (f : FrV) (m : Int) (sf : WaitF) :
    Calls Tryz.prog 92 #[.pointer (some ⟨rb, 0, none⟩), frV f, .int .i64 m] u fun e u' => e = .returned (.tuple #[]) ∧ ∃ wv', RdAt u' rb { v with wv := wv' } ts (s.await sf m) B ∧ WRow u' rb wv' (l ++ [{ f with most := s.most }]) ∧
     Fr (fun k => k = rb ∨ v.wv.ownBlock = some k) u u' := by
 obtain ⟨A, cap, hsh⟩ := hrow.shape
 obtain ⟨W1, hW1⟩ : ∃ W1, W1 = u.alloc (.cells #[.int .i64 f.use, .int .i64 s.most, .string ⟨f.name.toArray⟩, .int .i64 f.pri, .slice f.A f.len f.cap] 160) := ⟨_, rfl⟩
 have hb1 : Below u.heap.size u W1 := by rw [hW1]; exact (Below.refl _ _).alloc (Nat.le_refl _) _
 have HS := Lib.hid (h.later hb1)
 have HR : Hid (WRow W1 rb v.wv l) := Lib.hid (Row.later hrow hb1)
 have hnew : W1.heap[u.heap.size]? = some (.cells #[.int .i64 f.use, .int .i64 s.most, .string ⟨f.name.toArray⟩, .int .i64 f.pri, .slice f.A f.len f.cap] 160 (0, 0)) := by rw [hW1]; exact heap_alloc_new u _
 obtain ⟨n0, n1, n2, n3, n4, nf⟩ := five_at hnew
 have hsz : W1.heap.size = u.heap.size + 1 := by rw [hW1]; simp
 have hlt := h.blk.lt
 have c5 : u.cell? ⟨rb, 5, none⟩ = some (.int .i64 s.most) := h.blk.cell (i := 5) rfl
 have c4 : W1.cell? ⟨rb, 4, none⟩ = some v.wv := HS.out.blk.cell (i := 4) rfl
 have cf := HS.out.blk.free
 have HB1 := Lib.hid hb1
 clear h hrow hnew hb1
 obtain ⟨A0, n, c, ob, bv, wv, x, vb, nv⟩ := v
 simp only at hsh
 subst hsh
 unfold frV
 obtain ⟨i0, z0, hi0, hz0, hz1, hz2, hz3⟩ := frame_info
 go_enter Tryz.func92, Tryz.ntmps92
 go_wp2_with fail
 rw [← hW1]
 clear hW1
 go_region_law
     ((refine step_append_lies _ (by rfl) _ _ _ (by rfl) (rb + 1) 160 i0 _ 5 64 Tryz.underlying114 hi0 hz0 hz1 hz2 hz3 (by omega) (.slice A l.length cap) l.length (l.flatMap encFr) (by rfl) (Row.later HR.out (by (repeat (first | exact Below.refl _ _ | refine Below.drew ?_ | refine Below.alloc ?_ (Nat.le_refl _) _)))).own
         ⟨u.heap.size + 1, 0, none⟩ 1 1 (encFr { f with most := s.most }) (by rfl) (by rfl) (World.news_of_block (cs := (encFr { f with most := s.most }).toArray) (t := 160) (fr := (0, 0)) (by rw [← hsz]; exact heap_alloc_new W1 _)) (encFr_one _)
         (by omega) (by unfold maxLen; omega) (by omega) (by simp; omega) (u.heap.size + 2) (by simp [hsz]) ?_; intro gg cap2 w9 hown9 hgrow hat9 hlt9; obtain ⟨hc9, hf9⟩ : w9.cell? ⟨rb, 4, none⟩ = some (.slice A l.length cap) ∧ w9.frozen? ⟨rb, 4, none⟩ = false := ⟨(wait_behind HS.out HR.out (by (repeat (first | exact Below.refl _ _ | refine Below.drew ?_ | refine Below.alloc ?_ (Nat.le_refl _) _))) hgrow).blk.cell (i := 4) rfl, (wait_behind HS.out HR.out (by (repeat (first | exact Below.refl _ _ | refine Below.drew ?_ | refine Below.alloc ?_ (Nat.le_refl _) _))) hgrow).blk.free 4⟩))
 all_goals
  go_wp2_with fail
  obtain ⟨r1, r2, r3⟩ := wait_pushed (u := u) HS.out HR.out (Fr.of_below _ HB1.out) (by (repeat (first | exact Below.refl _ _ | refine Below.drew ?_ | refine Below.alloc ?_ (Nat.le_refl _) _))) hgrow hown9 { sf with most := s.most }
  refine (want_any _ rb _ ts _ B r1 m).mono ?_
  rintro e w10 ⟨rfl, q1, rfl⟩
  have R2 := Lib.hid r2
  have R3 := Lib.hid r3
  have Q1 := Lib.hid q1
  clear r1 r2 r3 q1
  go_wp2_with fail
  exact bodyPost_end (v := .tuple #[]) (by simp [results, Tryz.results92, go_sem]) rfl
   ⟨rfl, _, Q1.out, (R2.out.put 5 _).put 6 _, (R3.out.setCell (p := ⟨rb, 5, none⟩) (.inl (.inl rfl)) _).setCell (p := ⟨rb, 6, none⟩) (.inl (.inl rfl)) _⟩
def gaveUp : Ending := .panicked [{ v := .iface 192 (.agg #[]), recovered := false }]
theorem WRow.fr {u u' : World} {rb : Nat} {wv : Value} {l : List FrV} (h : WRow u rb wv l) (hF : Fr (· = rb) u u') : WRow u' rb wv l :=
 Row.keep h fun k hk => hF.block k (h.lt k hk).2 fun e => h.ne (by rw [hk, e])
set_option maxHeartbeats 8000000 in
theorem arguments_any (u : World) (rb : Nat) (v : RdV) (ts : List Tok) (s : RdS) (B : Nat) (h : RdAt u rb v ts s B) (l : List FrV) (hrow : WRow u rb v.wv l) (hl : l.length ≤ 100000) (name : List UInt8) :
    Calls Tryz.prog 95 #[.pointer (some ⟨rb, 0, none⟩), .string ⟨name.toArray⟩] u fun e u' => Fr (fun k => k = rb ∨ v.wv.ownBlock = some k) u u' ∧
     (if isP ts s.at' 40 then e = .returned (.tuple #[]) ∧ ∃ wv', RdAt u' rb { v with wv := wv' } ts ((s.go 1).await ⟨2, 0, name, 0, []⟩ 999) B ∧ WRow u' rb wv' (l ++ [⟨2, s.most, name, 0, none, 0, 0⟩])
     else e = gaveUp ∧ RdAt u' rb v ts s B) := by
 have HA := Lib.hid h
 have HR := Lib.hid hrow
 clear h hrow
 cases hq : isP ts s.at' 40 with
 | true =>
  simp only [if_true]
  go_enter Tryz.func95, Tryz.ntmps95
  go_wp2_with fail
  refine (expect_any _ rb v ts s B HA.out 40).mono ?_
  rintro e w1 ⟨hF, h1⟩
  rw [hq, if_pos rfl] at h1
  obtain ⟨rfl, h1⟩ := h1
  have H1 := Lib.hid h1
  have HF := Lib.hid hF
  have HR1 := Lib.hid (WRow.fr HR.out hF)
  clear h1 hF
  go_wp2_with fail
  refine (await_any _ rb v ts _ B H1.out l HR1.out hl ⟨2, 0, name, 0, none, 0, 0⟩ 999 ⟨2, 0, name, 0, []⟩).mono ?_
  rintro e w2 ⟨rfl, wv', r1, r2, r3⟩
  have R1 := Lib.hid r1
  have R2 := Lib.hid r2
  have R3 := Lib.hid r3
  clear r1 r2 r3
  go_wp2_with fail
  exact bodyPost_end (v := .tuple #[]) (by simp [results, Tryz.results95, go_sem]) rfl
   ⟨(HF.out.weak fun k hk => .inl hk).trans R3.out, rfl, wv', R1.out, R2.out⟩
 | false =>
  simp only [Bool.false_eq_true, if_false]
  go_enter Tryz.func95, Tryz.ntmps95
  go_wp2_with fail
  refine (expect_any _ rb v ts s B HA.out 40).mono ?_
  rintro e w1 ⟨hF, h1⟩
  rw [hq, if_neg (by simp)] at h1
  obtain ⟨rfl, h1⟩ := h1
  exact ⟨rfl, hF.weak fun k hk => .inl hk, rfl, h1⟩
set_option maxHeartbeats 8000000 in
theorem number_any (u : World) (rb : Nat) (v : RdV) (ts : List Tok) (s : RdS) (B : Nat) (h : RdAt u rb v ts s B) (t : Tok) (hat : s.at' < ts.length) :
    Calls Tryz.prog 49 #[.pointer (some ⟨rb, 0, none⟩), tokW t] u fun e u' => Fr (· = rb) u u' ∧
     (if t.n < 0 then e = gaveUp ∧ RdAt u' rb v ts s B else e = .returned (.tuple #[]) ∧ RdAt u' rb { v with x := ⟨2, t.n, [], none, 0, 0⟩ } ts ((s.go 1).done (intT t.n) 0) B) := by
 have HA := Lib.hid h
 have c1 : u.cell? ⟨rb, 1, none⟩ = some (.int .i64 (s.at' : Int)) := h.blk.cell (i := 1) rfl
 have cf := h.blk.free
 have hf := h.few
 have hlt := h.blk.lt
 have hwr : IntKind.i64.wrap ((s.at' : Int) + 1) = (s.at' : Int) + 1 := IntWalk.i64_in _ (by omega)
 clear h
 unfold tokW
 by_cases hn : t.n < 0
 ·simp only [hn, if_true]
  go_enter Tryz.func49, Tryz.ntmps49
  go_wp2_with fail
  refine (fail_any _ _).mono ?_
  rintro e w1 ⟨rfl, hb⟩
  have hb0 : Below u.heap.size u w1 := ((Below.refl _ _).alloc (Nat.le_refl _) _).trans (hb.mono (by simp))
  exact ⟨rfl, .of_below _ hb0, rfl, HA.out.later hb0⟩
 ·simp only [hn, if_false]
  go_enter Tryz.func49, Tryz.ntmps49
  go_wp2_with fail
  have h1 := HA.out.put (v' := v) (s' := s.go 1) 1 (.int .i64 ((s.at' : Int) + 1)) (by simp [rdCells, RdS.go]) rfl rfl (by show s.at' + 1 ≤ _; omega)
  have h2 := h1.later ((Below.refl _ _).alloc (Nat.le_refl _) (.cells #[.int .i64 t.kind, .int .i64 t.line, .int .i64 t.n, .string ⟨t.s.toArray⟩, .bool t.opn, .bool t.tight] 107))
  have hF := ((Fr.refl (· = rb) u).setCell (p := ⟨rb, 1, none⟩) (.inl rfl) (.int .i64 ((s.at' : Int) + 1))).alloc (.cells #[.int .i64 t.kind, .int .i64 t.line, .int .i64 t.n, .string ⟨t.s.toArray⟩, .bool t.opn, .bool t.tight] 107)
  refine (done_any _ rb v ts _ B h2 ⟨2, t.n, [], none, 0, 0⟩ (intT t.n) 0).mono ?_
  rintro e w1 ⟨rfl, r1, r2⟩
  have R1 := Lib.hid r1
  have R2 := Lib.hid (hF.trans r2)
  clear r1 r2 hF h1 h2
  go_wp2_with fail
  exact bodyPost_end (v := .tuple #[]) (by simp [results, Tryz.results49, go_sem]) rfl ⟨R2.out, rfl, R1.out⟩
end Go.Proofs.YtcallkljcjimiaaGreatDoor
