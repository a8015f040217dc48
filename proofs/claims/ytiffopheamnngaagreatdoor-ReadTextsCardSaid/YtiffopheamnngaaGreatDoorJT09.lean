import Derived.Test.YtiffopheamnngaaGreatDoorJT08
namespace Go.Proofs.YtiffopheamnngaaGreatDoor
open Go.RowKit
set_option maxRecDepth 100000
structure FrV where
 use : Int
 most : Int
 name : List UInt8
 pri : Int
 A : Option Addr
 len : Nat
 cap : Nat
def encFr (f : FrV) : List Value := [.int .i64 f.use, .int .i64 f.most, .string ⟨f.name.toArray⟩, .int .i64 f.pri, .slice f.A f.len f.cap]
def frV (f : FrV) : Value := .agg #[.int .i64 f.use, .int .i64 f.most, .string ⟨f.name.toArray⟩, .int .i64 f.pri, .slice f.A f.len f.cap]
theorem encFr_len (f : FrV) : (encFr f).length = 5 := rfl
theorem encFr_one (f : FrV) : ∀ u ∈ encFr f, u.oneCell' = true := by
 intro u hu
 simp only [encFr, List.mem_cons, List.mem_nil_iff, or_false] at hu
 rcases hu with rfl | rfl | rfl | rfl | rfl <;> rfl
theorem frame_info : ∃ i z, Tryz.prog.info? 120 = some i ∧ i.zero = some z ∧ i.size = 5 ∧ i.bytes = 64 ∧ z.cells.size = 5 := by
 refine ⟨_, _, rfl, rfl, ?_, ?_, ?_⟩ <;> kernel_rfl
abbrev WRow (u : World) (rb : Nat) (wv : Value) (l : List FrV) : Prop := Row u (rb + 1) 120 5 encFr wv l
theorem five_at {w1 : World} {b : Nat} {a0 a1 a2 a3 a4 : Value} {t : TypeId} (h : w1.heap[b]? = some (.cells #[a0, a1, a2, a3, a4] t (0, 0))) :
    w1.cell? ⟨b, 0, none⟩ = some a0 ∧ w1.cell? ⟨b, 1, none⟩ = some a1 ∧ w1.cell? ⟨b, 2, none⟩ = some a2 ∧ w1.cell? ⟨b, 3, none⟩ = some a3 ∧ w1.cell? ⟨b, 4, none⟩ = some a4 ∧ (∀ o, w1.frozen? ⟨b, o, none⟩ = false) :=
 ⟨by rw [cell_of_row w1 b 0 _ t (0, 0) h]; rfl, by rw [cell_of_row w1 b 1 _ t (0, 0) h]; rfl, by rw [cell_of_row w1 b 2 _ t (0, 0) h]; rfl, by rw [cell_of_row w1 b 3 _ t (0, 0) h]; rfl, by rw [cell_of_row w1 b 4 _ t (0, 0) h]; rfl, fun o => by simp [World.frozen?, h]⟩
theorem WRow.ne {u : World} {rb : Nat} {wv : Value} {l : List FrV} (h : WRow u rb wv l) : wv.ownBlock ≠ some rb := fun e => by have := (h.lt rb e).1; omega
theorem RdAt.keep {u u' : World} {rb : Nat} {v : RdV} {ts : List Tok} {s : RdS} {B : Nat} (h : RdAt u rb v ts s B) (hr : u'.heap[rb]? = u.heap[rb]?) (hb : ∀ k, k < B → u'.heap[k]? = u.heap[k]?) : RdAt u' rb v ts s B :=
 ⟨hr.trans h.blk, h.toks.keep hb, h.base, h.few, h.in'⟩
theorem wait_behind {W W' w9 : World} {rb : Nat} {v : RdV} {ts : List Tok} {s : RdS} {B : Nat} {l : List FrV} (h : RdAt W rb v ts s B) (hr : WRow W rb v.wv l) (hb : Below W.heap.size W W') (hg : W'.grownBy w9 v.wv.ownBlock) : RdAt w9 rb v ts s B :=
 (h.later hb).keep (hg.block rb (Nat.lt_of_lt_of_le h.blk.lt hb.size) (fun e => hr.ne e.symm)) fun k hk => hg.block k (by have := h.blk.lt; have := h.base; have := hb.size; omega) fun e => by
   have := (hr.lt k e.symm).1
   have := h.base
   omega
theorem wait_pushed {u W W' w9 : World} {rb : Nat} {v : RdV} {ts : List Tok} {s : RdS} {B : Nat} {l : List FrV} {f : FrV} {nw : Value} (h : RdAt W rb v ts s B) (hr : WRow W rb v.wv l) (hu : Fr (fun k => k = rb ∨ v.wv.ownBlock = some k) u W) (hb : Below W.heap.size W W') (hg : W'.grownBy w9 v.wv.ownBlock)
    (hown : w9.ownsRow (rb + 1) 120 5 nw (l.length + 1) (l.flatMap encFr ++ encFr f)) (sf : WaitF) :
    RdAt (w9.setCell ⟨rb, 4, none⟩ nw) rb { v with wv := nw } ts { s with wait := sf :: s.wait } B ∧ WRow (w9.setCell ⟨rb, 4, none⟩ nw) rb nw (l ++ [f]) ∧ Fr (fun k => k = rb ∨ v.wv.ownBlock = some k) u (w9.setCell ⟨rb, 4, none⟩ nw) := by
 have h9 := wait_behind h hr hb hg
 have hr9 : WRow w9 rb nw (l ++ [f]) := ⟨by rw [List.length_append, List.flatMap_append]; simpa using hown⟩
 refine ⟨h9.put (v' := { v with wv := nw }) (s' := { s with wait := sf :: s.wait }) 4 nw (by simp [rdCells]) rfl rfl h9.in', Row.keep hr9 fun k hk => Below.heap_setCell _ _ _ _ fun e => hr9.ne (by rw [hk]; exact congrArg some e), ?_⟩
 exact ((hu.step hb).grown hg fun g hg' => .inl (.inr hg')).setCell (.inl (.inl rfl)) _
theorem WRow.put {u : World} {rb : Nat} {wv : Value} {l : List FrV} (h : WRow u rb wv l) (i : Nat) (x : Value) : WRow (u.setCell ⟨rb, i, none⟩ x) rb wv l :=
 Row.keep h fun k hk => Below.heap_setCell _ _ _ _ fun e => h.ne (by rw [hk]; exact congrArg some e)
set_option maxHeartbeats 8000000 in
theorem again_any (u : World) (rb : Nat) (v : RdV) (ts : List Tok) (s : RdS) (B : Nat) (h : RdAt u rb v ts s B) (l : List FrV) (hrow : WRow u rb v.wv l) (hl : l.length ≤ 100000) (f : FrV) (m : Int) (sf : WaitF) :
    Calls Tryz.prog 87 #[.pointer (some ⟨rb, 0, none⟩), frV f, .int .i64 m] u fun e u' => e = .returned (.tuple #[]) ∧ ∃ wv', RdAt u' rb { v with wv := wv' } ts (s.again sf m) B ∧ WRow u' rb wv' (l ++ [f]) ∧
     Fr (fun k => k = rb ∨ v.wv.ownBlock = some k) u u' := by
 obtain ⟨A, cap, hsh⟩ := hrow.shape
 obtain ⟨W1, hW1⟩ : ∃ W1, W1 = u.alloc (.cells #[.int .i64 f.use, .int .i64 f.most, .string ⟨f.name.toArray⟩, .int .i64 f.pri, .slice f.A f.len f.cap] 120) := ⟨_, rfl⟩
 have hb1 : Below u.heap.size u W1 := by rw [hW1]; exact (Below.refl _ _).alloc (Nat.le_refl _) _
 have HS := Lib.hid (h.later hb1)
 have HR : Hid (WRow W1 rb v.wv l) := Lib.hid (Row.later hrow hb1)
 have hnew : W1.heap[u.heap.size]? = some (.cells #[.int .i64 f.use, .int .i64 f.most, .string ⟨f.name.toArray⟩, .int .i64 f.pri, .slice f.A f.len f.cap] 120 (0, 0)) := by rw [hW1]; exact heap_alloc_new u _
 obtain ⟨n0, n1, n2, n3, n4, nf⟩ := five_at hnew
 have hsz : W1.heap.size = u.heap.size + 1 := by rw [hW1]; simp
 have hlt := h.blk.lt
 have c4 : W1.cell? ⟨rb, 4, none⟩ = some v.wv := HS.out.blk.cell (i := 4) rfl
 have cf := HS.out.blk.free
 have HB1 := Lib.hid hb1
 clear h hrow hnew hb1
 obtain ⟨A0, n, c, ob, bv, wv, x, vb, nv⟩ := v
 simp only at hsh
 subst hsh
 unfold frV
 obtain ⟨i0, z0, hi0, hz0, hz1, hz2, hz3⟩ := frame_info
 go_enter Tryz.func87, Tryz.ntmps87
 go_wp2_with fail
 rw [← hW1]
 clear hW1
 go_region_law
     ((refine step_append_lies _ (by rfl) _ _ _ (by rfl) (rb + 1) 120 i0 _ 5 64 Tryz.underlying70 hi0 hz0 hz1 hz2 hz3 (by omega) (.slice A l.length cap) l.length (l.flatMap encFr) (by rfl) (Row.later HR.out (by (repeat (first | exact Below.refl _ _ | refine Below.drew ?_ | refine Below.alloc ?_ (Nat.le_refl _) _)))).own
         ⟨u.heap.size + 1, 0, none⟩ 1 1 (encFr f) (by rfl) (by rfl) (World.news_of_block (cs := (encFr f).toArray) (t := 120) (fr := (0, 0)) (by rw [← hsz]; exact heap_alloc_new W1 _)) (encFr_one _)
         (by omega) (by unfold maxLen; omega) (by omega) (by simp; omega) (u.heap.size + 2) (by simp [hsz]) ?_; intro gg cap2 w9 hown9 hgrow hat9 hlt9; obtain ⟨hc9, hf9⟩ : w9.cell? ⟨rb, 4, none⟩ = some (.slice A l.length cap) ∧ w9.frozen? ⟨rb, 4, none⟩ = false := ⟨(wait_behind HS.out HR.out (by (repeat (first | exact Below.refl _ _ | refine Below.drew ?_ | refine Below.alloc ?_ (Nat.le_refl _) _))) hgrow).blk.cell (i := 4) rfl, (wait_behind HS.out HR.out (by (repeat (first | exact Below.refl _ _ | refine Below.drew ?_ | refine Below.alloc ?_ (Nat.le_refl _) _))) hgrow).blk.free 4⟩))
 all_goals
  go_wp2_with fail
  obtain ⟨r1, r2, r3⟩ := wait_pushed (u := u) HS.out HR.out (Fr.of_below _ HB1.out) (by (repeat (first | exact Below.refl _ _ | refine Below.drew ?_ | refine Below.alloc ?_ (Nat.le_refl _) _))) hgrow hown9 sf
  refine (want_any _ rb _ ts _ B r1 m).mono ?_
  rintro e w10 ⟨rfl, q1, rfl⟩
  have R2 := Lib.hid r2
  have R3 := Lib.hid r3
  have Q1 := Lib.hid q1
  clear r1 r2 r3 q1
  go_wp2_with fail
  exact bodyPost_end (v := .tuple #[]) (by simp [results, Tryz.results87, go_sem]) rfl
   ⟨rfl, _, Q1.out, (R2.out.put 5 _).put 6 _, (R3.out.setCell (p := ⟨rb, 5, none⟩) (.inl (.inl rfl)) _).setCell (p := ⟨rb, 6, none⟩) (.inl (.inl rfl)) _⟩
set_option maxHeartbeats 8000000 in
theorem await_any (u : World) (rb : Nat) (v : RdV) (ts : List Tok) (s : RdS) (B : Nat) (h : RdAt u rb v ts s B) (l : List FrV) (hrow : WRow u rb v.wv l) (hl : l.length ≤ 100000) (f : FrV) (m : Int) (sf : WaitF) :
    Calls Tryz.prog 55 #[.pointer (some ⟨rb, 0, none⟩), frV f, .int .i64 m] u fun e u' => e = .returned (.tuple #[]) ∧ ∃ wv', RdAt u' rb { v with wv := wv' } ts (s.await sf m) B ∧ WRow u' rb wv' (l ++ [{ f with most := s.most }]) ∧
     Fr (fun k => k = rb ∨ v.wv.ownBlock = some k) u u' := by
 obtain ⟨A, cap, hsh⟩ := hrow.shape
 obtain ⟨W1, hW1⟩ : ∃ W1, W1 = u.alloc (.cells #[.int .i64 f.use, .int .i64 s.most, .string ⟨f.name.toArray⟩, .int .i64 f.pri, .slice f.A f.len f.cap] 120) := ⟨_, rfl⟩
 have hb1 : Below u.heap.size u W1 := by rw [hW1]; exact (Below.refl _ _).alloc (Nat.le_refl _) _
 have HS := Lib.hid (h.later hb1)
 have HR : Hid (WRow W1 rb v.wv l) := Lib.hid (Row.later hrow hb1)
 have hnew : W1.heap[u.heap.size]? = some (.cells #[.int .i64 f.use, .int .i64 s.most, .string ⟨f.name.toArray⟩, .int .i64 f.pri, .slice f.A f.len f.cap] 120 (0, 0)) := by rw [hW1]; exact heap_alloc_new u _
 obtain ⟨n0, n1, n2, n3, n4, nf⟩ := five_at hnew
 have hsz : W1.heap.size = u.heap.size + 1 := by rw [hW1]; simp
 have hlt := h.blk.lt
 have c5 : u.cell? ⟨rb, 5, none⟩ = some (.int .i64 s.most) := h.blk.cell (i := 5) rfl
 have c4 : W1.cell? ⟨rb, 4, none⟩ = some v.wv := HS.out.blk.cell (i := 4) rfl
 have cf := HS.out.blk.free
 have HB1 := Lib.hid hb1
 clear h hrow hnew hb1
 obtain ⟨A0, n, c, ob, bv, wv, x, vb, nv⟩ := v
 simp only at hsh
 subst hsh
 unfold frV
 obtain ⟨i0, z0, hi0, hz0, hz1, hz2, hz3⟩ := frame_info
 go_enter Tryz.func55, Tryz.ntmps55
 go_wp2_with fail
 rw [← hW1]
 clear hW1
 go_region_law
     ((refine step_append_lies _ (by rfl) _ _ _ (by rfl) (rb + 1) 120 i0 _ 5 64 Tryz.underlying70 hi0 hz0 hz1 hz2 hz3 (by omega) (.slice A l.length cap) l.length (l.flatMap encFr) (by rfl) (Row.later HR.out (by (repeat (first | exact Below.refl _ _ | refine Below.drew ?_ | refine Below.alloc ?_ (Nat.le_refl _) _)))).own
         ⟨u.heap.size + 1, 0, none⟩ 1 1 (encFr { f with most := s.most }) (by rfl) (by rfl) (World.news_of_block (cs := (encFr { f with most := s.most }).toArray) (t := 120) (fr := (0, 0)) (by rw [← hsz]; exact heap_alloc_new W1 _)) (encFr_one _)
         (by omega) (by unfold maxLen; omega) (by omega) (by simp; omega) (u.heap.size + 2) (by simp [hsz]) ?_; intro gg cap2 w9 hown9 hgrow hat9 hlt9; obtain ⟨hc9, hf9⟩ : w9.cell? ⟨rb, 4, none⟩ = some (.slice A l.length cap) ∧ w9.frozen? ⟨rb, 4, none⟩ = false := ⟨(wait_behind HS.out HR.out (by (repeat (first | exact Below.refl _ _ | refine Below.drew ?_ | refine Below.alloc ?_ (Nat.le_refl _) _))) hgrow).blk.cell (i := 4) rfl, (wait_behind HS.out HR.out (by (repeat (first | exact Below.refl _ _ | refine Below.drew ?_ | refine Below.alloc ?_ (Nat.le_refl _) _))) hgrow).blk.free 4⟩))
 all_goals
  go_wp2_with fail
  obtain ⟨r1, r2, r3⟩ := wait_pushed (u := u) HS.out HR.out (Fr.of_below _ HB1.out) (by (repeat (first | exact Below.refl _ _ | refine Below.drew ?_ | refine Below.alloc ?_ (Nat.le_refl _) _))) hgrow hown9 { sf with most := s.most }
  refine (want_any _ rb _ ts _ B r1 m).mono ?_
  rintro e w10 ⟨rfl, q1, rfl⟩
  have R2 := Lib.hid r2
  have R3 := Lib.hid r3
  have Q1 := Lib.hid q1
  clear r1 r2 r3 q1
  go_wp2_with fail
  exact bodyPost_end (v := .tuple #[]) (by simp [results, Tryz.results55, go_sem]) rfl
   ⟨rfl, _, Q1.out, (R2.out.put 5 _).put 6 _, (R3.out.setCell (p := ⟨rb, 5, none⟩) (.inl (.inl rfl)) _).setCell (p := ⟨rb, 6, none⟩) (.inl (.inl rfl)) _⟩
def gaveUp : Ending := .panicked [{ v := .iface 145 (.agg #[]), recovered := false }]
theorem WRow.fr {u u' : World} {rb : Nat} {wv : Value} {l : List FrV} (h : WRow u rb wv l) (hF : Fr (· = rb) u u') : WRow u' rb wv l :=
 Row.keep h fun k hk => hF.block k (h.lt k hk).2 fun e => h.ne (by rw [hk, e])
set_option maxHeartbeats 8000000 in
theorem arguments_any (u : World) (rb : Nat) (v : RdV) (ts : List Tok) (s : RdS) (B : Nat) (h : RdAt u rb v ts s B) (l : List FrV) (hrow : WRow u rb v.wv l) (hl : l.length ≤ 100000) (name : List UInt8) :
    Calls Tryz.prog 58 #[.pointer (some ⟨rb, 0, none⟩), .string ⟨name.toArray⟩] u fun e u' => Fr (fun k => k = rb ∨ v.wv.ownBlock = some k) u u' ∧
     (if isP ts s.at' 40 then e = .returned (.tuple #[]) ∧ ∃ wv', RdAt u' rb { v with wv := wv' } ts ((s.go 1).await ⟨2, 0, name, 0, []⟩ 999) B ∧ WRow u' rb wv' (l ++ [⟨2, s.most, name, 0, none, 0, 0⟩])
     else e = gaveUp ∧ RdAt u' rb v ts s B) := by
 have HA := Lib.hid h
 have HR := Lib.hid hrow
 clear h hrow
 cases hq : isP ts s.at' 40 with
 | true =>
  simp only [if_true]
  go_enter Tryz.func58, Tryz.ntmps58
  go_wp2_with fail
  refine (expect_any _ rb v ts s B HA.out 40).mono ?_
  rintro e w1 ⟨hF, h1⟩
  rw [hq, if_pos rfl] at h1
  obtain ⟨rfl, h1⟩ := h1
  have H1 := Lib.hid h1
  have HF := Lib.hid hF
  have HR1 := Lib.hid (WRow.fr HR.out hF)
  clear h1 hF
  go_wp2_with fail
  refine (await_any _ rb v ts _ B H1.out l HR1.out hl ⟨2, 0, name, 0, none, 0, 0⟩ 999 ⟨2, 0, name, 0, []⟩).mono ?_
  rintro e w2 ⟨rfl, wv', r1, r2, r3⟩
  have R1 := Lib.hid r1
  have R2 := Lib.hid r2
  have R3 := Lib.hid r3
  clear r1 r2 r3
  go_wp2_with fail
  exact bodyPost_end (v := .tuple #[]) (by simp [results, Tryz.results58, go_sem]) rfl
   ⟨(HF.out.weak fun k hk => .inl hk).trans R3.out, rfl, wv', R1.out, R2.out⟩
 | false =>
  simp only [Bool.false_eq_true, if_false]
  go_enter Tryz.func58, Tryz.ntmps58
  go_wp2_with fail
  refine (expect_any _ rb v ts s B HA.out 40).mono ?_
  rintro e w1 ⟨hF, h1⟩
  rw [hq, if_neg (by simp)] at h1
  obtain ⟨rfl, h1⟩ := h1
  exact ⟨rfl, hF.weak fun k hk => .inl hk, rfl, h1⟩
set_option maxHeartbeats 8000000 in
theorem number_any (u : World) (rb : Nat) (v : RdV) (ts : List Tok) (s : RdS) (B : Nat) (h : RdAt u rb v ts s B) (t : Tok) (hat : s.at' < ts.length) :
    Calls Tryz.prog 27 #[.pointer (some ⟨rb, 0, none⟩), tokW t] u fun e u' => Fr (· = rb) u u' ∧
     (if t.n < 0 then e = gaveUp ∧ RdAt u' rb v ts s B else e = .returned (.tuple #[]) ∧ RdAt u' rb { v with x := ⟨2, t.n, [], none, 0, 0⟩ } ts ((s.go 1).done (intT t.n) 0) B) := by
 have HA := Lib.hid h
 have c1 : u.cell? ⟨rb, 1, none⟩ = some (.int .i64 (s.at' : Int)) := h.blk.cell (i := 1) rfl
 have cf := h.blk.free
 have hf := h.few
 have hlt := h.blk.lt
 have hwr : IntKind.i64.wrap ((s.at' : Int) + 1) = (s.at' : Int) + 1 := IntWalk.i64_in _ (by omega)
 clear h
 unfold tokW
 by_cases hn : t.n < 0
 ·simp only [hn, if_true]
  go_enter Tryz.func27, Tryz.ntmps27
  go_wp2_with fail
  refine (fail_any _ _).mono ?_
  rintro e w1 ⟨rfl, hb⟩
  have hb0 : Below u.heap.size u w1 := ((Below.refl _ _).alloc (Nat.le_refl _) _).trans (hb.mono (by simp))
  exact ⟨rfl, .of_below _ hb0, rfl, HA.out.later hb0⟩
 ·simp only [hn, if_false]
  go_enter Tryz.func27, Tryz.ntmps27
  go_wp2_with fail
  have h1 := HA.out.put (v' := v) (s' := s.go 1) 1 (.int .i64 ((s.at' : Int) + 1)) (by simp [rdCells, RdS.go]) rfl rfl (by show s.at' + 1 ≤ _; omega)
  have h2 := h1.later ((Below.refl _ _).alloc (Nat.le_refl _) (.cells #[.int .i64 t.kind, .int .i64 t.line, .int .i64 t.n, .string ⟨t.s.toArray⟩, .bool t.opn, .bool t.tight] 48))
  have hF := ((Fr.refl (· = rb) u).setCell (p := ⟨rb, 1, none⟩) (.inl rfl) (.int .i64 ((s.at' : Int) + 1))).alloc (.cells #[.int .i64 t.kind, .int .i64 t.line, .int .i64 t.n, .string ⟨t.s.toArray⟩, .bool t.opn, .bool t.tight] 48)
  refine (done_any _ rb v ts _ B h2 ⟨2, t.n, [], none, 0, 0⟩ (intT t.n) 0).mono ?_
  rintro e w1 ⟨rfl, r1, r2⟩
  have R1 := Lib.hid r1
  have R2 := Lib.hid (hF.trans r2)
  clear r1 r2 hF h1 h2
  go_wp2_with fail
  exact bodyPost_end (v := .tuple #[]) (by simp [results, Tryz.results27, go_sem]) rfl ⟨R2.out, rfl, R1.out⟩
theorem tok_s (a b c : Int) (d : ByteArray) (e f : Bool) (w : World) : (Instr.field 48 (.agg #[.int .i64 a, .int .i64 b, .int .i64 c, .string d, .bool e, .bool f]) 3).run Tryz.prog w = .ok (.string d) w := by kernel_rfl
theorem tok_opn (a b c : Int) (d : ByteArray) (e f : Bool) (w : World) : (Instr.field 48 (.agg #[.int .i64 a, .int .i64 b, .int .i64 c, .string d, .bool e, .bool f]) 4).run Tryz.prog w = .ok (.bool e) w := by kernel_rfl
theorem cat1 (a : List UInt8) (c : UInt8) : (⟨a.toArray⟩ ++ ⟨#[c]⟩ : ByteArray) = ⟨(a ++ [c]).toArray⟩ := by
 apply ByteArray.ext
 simp [ByteArray.data_append]
set_option maxHeartbeats 8000000 in
theorem pair_no (u : World) (rb : Nat) (v : RdV) (ts : List Tok) (s : RdS) (B : Nat) (h : RdAt u rb v ts s B) (c : UInt8) (hq : isP ts (s.at' + 1) c = false) :
    Calls Tryz.prog 56 #[.pointer (some ⟨rb, 0, none⟩), .string ⟨#[c]⟩] u fun e u' => Below u.heap.size u u' ∧ e = .returned (.bool false) := by
 go_enter Tryz.func56, Tryz.ntmps56
 go_wp2_with fail
 refine (is_any _ rb v ts s B h 1 (by omega) c).mono ?_
 rintro e w1 ⟨rfl, hb⟩
 rw [hq]
 go_wp2_with fail
 exact bodyPost_ret (v := .bool false) (by simp [results, Tryz.results56, go_sem]) rfl ⟨hb, rfl⟩
set_option maxHeartbeats 8000000 in
theorem pair_yes (u : World) (rb : Nat) (v : RdV) (ts : List Tok) (s : RdS) (B : Nat) (h : RdAt u rb v ts s B) (l : List FrV) (hrow : WRow u rb v.wv l) (hl : l.length ≤ 100000) (c : UInt8) (hq : isP ts (s.at' + 1) c = true) (hln : (peekF ts s.at').s.length ≤ 1000000) :
    Calls Tryz.prog 56 #[.pointer (some ⟨rb, 0, none⟩), .string ⟨#[c]⟩] u fun e u' => Fr (fun k => k = rb ∨ v.wv.ownBlock = some k) u u' ∧
     (if (peekF ts (s.at' + 1)).opn then
       (if isP ts (s.at' + 2) 40 then e = .returned (.bool true) ∧ ∃ wv', RdAt u' rb { v with wv := wv' } ts (((s.go 2).go 1).await ⟨2, 0, (peekF ts s.at').s ++ [c], 0, []⟩ 999) B ∧ WRow u' rb wv' (l ++ [⟨2, s.most, (peekF ts s.at').s ++ [c], 0, none, 0, 0⟩])
       else e = gaveUp ∧ RdAt u' rb v ts (s.go 2) B)
     else e = .returned (.bool true) ∧ RdAt u' rb { v with x := ⟨3, 0, (peekF ts s.at').s ++ [c], none, 0, 0⟩ } ts ((s.go 2).done (atomT ((peekF ts s.at').s ++ [c])) 0) B ∧ WRow u' rb v.wv l) := by
 have HA := Lib.hid h
 have HR := Lib.hid hrow
 have hf := h.few
 have hl2 := isP_lt hq
 have hwr : IntKind.i64.wrap ((s.at' : Int) + 2) = (s.at' : Int) + 2 := IntWalk.i64_in _ (by omega)
 clear h hrow
 obtain ⟨R, hR⟩ : ∃ R : Ending → World → Prop, R = fun e u' => Fr (fun k => k = rb ∨ v.wv.ownBlock = some k) u u' ∧
     (if (peekF ts (s.at' + 1)).opn then
       (if isP ts (s.at' + 2) 40 then e = .returned (.bool true) ∧ ∃ wv', RdAt u' rb { v with wv := wv' } ts (((s.go 2).go 1).await ⟨2, 0, (peekF ts s.at').s ++ [c], 0, []⟩ 999) B ∧ WRow u' rb wv' (l ++ [⟨2, s.most, (peekF ts s.at').s ++ [c], 0, none, 0, 0⟩])
       else e = gaveUp ∧ RdAt u' rb v ts (s.go 2) B)
     else e = .returned (.bool true) ∧ RdAt u' rb { v with x := ⟨3, 0, (peekF ts s.at').s ++ [c], none, 0, 0⟩ } ts ((s.go 2).done (atomT ((peekF ts s.at').s ++ [c])) 0) B ∧ WRow u' rb v.wv l) := ⟨_, rfl⟩
 rw [← hR]
 have HRR := Lib.hid hR
 clear hR
 go_enter Tryz.func56, Tryz.ntmps56
 go_wp2_with fail
 refine (is_any _ rb v ts s B HA.out 1 (by omega) c).mono ?_
 rintro e w1 ⟨rfl, hb1⟩
 rw [hq]
 have HB1 := Lib.hid hb1
 have HA1 := Lib.hid (HA.out.later hb1)
 clear hb1
 go_wp2_with fail
 refine (peek_any _ rb v ts s B HA1.out 0 (by omega)).mono ?_
 rintro e w2 ⟨rfl, hb2⟩
 have HB2 := Lib.hid (below_call' HB1.out hb2)
 have HA2 := Lib.hid (HA1.out.later hb2)
 clear hb2
 have e0 : s.at' + 0 = s.at' := rfl
 rw [e0]
 clear e0
 generalize hx : peekF ts s.at' = x at *
 simp only [tokW]
 have hS := tok_s x.kind x.line x.n ⟨x.s.toArray⟩ x.opn x.tight w2
 go_wp2_with fail
 rw [cat1]
 clear hS hln
 generalize x.s ++ [c] = nm at *
 refine (peek_any _ rb v ts s B HA2.out 1 (by omega)).mono ?_
 rintro e w3 ⟨rfl, hb3⟩
 have HB3 := Lib.hid (below_call' HB2.out hb3)
 have HA3 := Lib.hid (HA2.out.later hb3)
 clear hb3 HB1 HB2 HA1 HA2
 generalize hy : peekF ts (s.at' + 1) = y at *
 simp only [tokW]
 have hO := tok_opn y.kind y.line y.n ⟨y.s.toArray⟩ y.opn y.tight w3
 have c1 : w3.cell? ⟨rb, 1, none⟩ = some (.int .i64 (s.at' : Int)) := HA3.out.blk.cell (i := 1) rfl
 have cf := HA3.out.blk.free
 have hgo : RdAt (w3.setCell ⟨rb, 1, none⟩ (.int .i64 ((s.at' : Int) + 2))) rb v ts (s.go 2) B := HA3.out.put (v' := v) (s' := s.go 2) 1 _ (by simp [rdCells, RdS.go]) rfl rfl (by show s.at' + 2 ≤ _; omega)
 have HG := Lib.hid hgo
 have hF : Fr (· = rb) u (w3.setCell ⟨rb, 1, none⟩ (.int .i64 ((s.at' : Int) + 2))) := (Fr.of_below (· = rb) HB3.out).setCell (p := ⟨rb, 1, none⟩) (.inl rfl) _
 have HF := Lib.hid hF
 have HRW := Lib.hid (WRow.fr HR.out hF)
 clear hgo hF
 cases hyo : y.opn with
 | true =>
  rw [hyo] at hO HRR
  go_wp2_with fail
  have ea : (s.go 2).at' = s.at' + 2 := rfl
  refine (arguments_any _ rb v ts _ B HG.out l HRW.out hl nm).mono ?_
  rintro e w4 ⟨hF4, h4⟩
  rw [ea] at h4
  have HF4 := Lib.hid (((HF.out.weak fun k hk => .inl hk).trans hF4 : Fr (fun k => k = rb ∨ v.wv.ownBlock = some k) u w4))
  clear hF4
  cases hp : isP ts (s.at' + 2) 40 with
  | true =>
   rw [hp, if_pos rfl] at h4
   obtain ⟨rfl, h4⟩ := h4
   have H4 := Lib.hid h4
   clear h4
   go_wp2_with fail
   show R (.returned (.bool true)) _
   rw [HRR.out]
   refine ⟨HF4.out, ?_⟩
   simp only [if_true, hp]
   exact ⟨trivial, H4.out⟩
  | false =>
   rw [hp, if_neg (by simp)] at h4
   obtain ⟨rfl, h4⟩ := h4
   refine ⟨rfl, ?_⟩
   rw [HRR.out]
   refine ⟨HF4.out, ?_⟩
   simp only [if_true, hp, Bool.false_eq_true, if_false]
   exact ⟨rfl, h4⟩
 | false =>
  rw [hyo] at hO HRR
  go_wp2_with fail
  refine (done_any _ rb v ts _ B HG.out ⟨3, 0, nm, none, 0, 0⟩ (atomT nm) 0).mono ?_
  rintro e w4 ⟨rfl, r1, r2⟩
  have R1 := Lib.hid r1
  have R2 := Lib.hid (HF.out.trans r2)
  have R3 := Lib.hid (WRow.fr HRW.out r2)
  clear r1 r2
  go_wp2_with fail
  show R (.returned (.bool true)) _
  rw [HRR.out]
  refine ⟨R2.out.weak fun k hk => .inl hk, ?_⟩
  simp only [Bool.false_eq_true, if_false]
  exact ⟨trivial, R1.out, R3.out⟩
end Go.Proofs.YtiffopheamnngaaGreatDoor
