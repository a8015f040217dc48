import Derived.Test.YtjdnigepnfeboaaGreatDoorJG28
import Derived.Test.YtjdnigepnfeboaaGreatDoorJG21
namespace Go.Proofs.YtjdnigepnfeboaaGreatDoor
open Go.RowKit Go.Maps
set_option maxRecDepth 100000
theorem ToksAt.up {w : World} {B B' n : Nat} {A : Option Addr} {l : List Tok} (h : ToksAt w B A n l) (hB : B ≤ B') : ToksAt w B' A n l :=
 ⟨h.len, fun i t ht => by
  obtain ⟨b, off, e1, e2, r⟩ := h.at' i t ht
  exact ⟨b, off, e1, Nat.lt_of_lt_of_le e2 hB, r⟩⟩
def rdV (A : Option Addr) (n c bt bb mb : Nat) : RdV := ⟨A, n, c, .pointer (some ⟨bt, 0, none⟩), .map (some bb), .slice none 0 0, ⟨0, 0, [], none, 0, 0⟩, .map (some mb), .slice none 0 0⟩
def rdS0 (k : Nat) : RdS := ⟨k, [], 0, false, .mk 0 0 [] [], 0, [], [], 0⟩
theorem tsv (x : TV) : tvV x = .agg #[.int .i64 x.k, .int .i64 x.n, .string ⟨x.s.toArray⟩, .slice x.A x.len x.cap] := rfl
def ReadOut (w w' : World) (c : ClauseF × Int) (e : Ending) : Prop :=
 Below w.heap.size w w' ∧ ∃ x nv B, e = .returned (.tuple #[clV x nv c.1.line c.1.next, .int .i64 c.2]) ∧ TermS w' (TyB w' 27) x c.1.t ∧ Row w' B 99 2 encB nv c.1.names
theorem door_nil {P : Program} {fn : Func} {R : Ending → World → Prop} {a : Act} {w : World} (hd : a.defers = []) (v : Value) (h1 : (results fn a.tmps).run P w = .ok v w) (h2 : R (.returned v) w) : bodyPostD P fn R .ret a w := by
 show Leaves P fn a.tmps R a.defers .returning w
 rw [hd]
 exact ⟨v, h1, h2⟩
theorem s6_keep {w w' : World} {cb : Nat} {p0 p1 p2 p3 p4 p5 : Addr} {x0 x1 x2 x3 x4 x5 : Value} (h : w.cell? p0 = some x0 ∧ w.cell? p1 = some x1 ∧ w.cell? p2 = some x2 ∧ w.cell? p3 = some x3 ∧ w.cell? p4 = some x4 ∧ w.cell? p5 = some x5)
    (hb : ∀ k, k ≠ cb → w'.heap[k]? = w.heap[k]?) (n0 : p0.block ≠ cb) (n1 : p1.block ≠ cb) (n2 : p2.block ≠ cb) (n3 : p3.block ≠ cb) (n4 : p4.block ≠ cb) (n5 : p5.block ≠ cb) : w'.cell? p0 = some x0 ∧ w'.cell? p1 = some x1 ∧ w'.cell? p2 = some x2 ∧ w'.cell? p3 = some x3 ∧ w'.cell? p4 = some x4 ∧ w'.cell? p5 = some x5 :=
 ⟨(World.cell?_of_block (hb _ n0)).trans h.1, (World.cell?_of_block (hb _ n1)).trans h.2.1, (World.cell?_of_block (hb _ n2)).trans h.2.2.1, (World.cell?_of_block (hb _ n3)).trans h.2.2.2.1, (World.cell?_of_block (hb _ n4)).trans h.2.2.2.2.1, (World.cell?_of_block (hb _ n5)).trans h.2.2.2.2.2⟩
theorem s6_drew {w : World} {p0 p1 p2 p3 p4 p5 : Addr} {x0 x1 x2 x3 x4 x5 : Option Value} (h : w.cell? p0 = x0 ∧ w.cell? p1 = x1 ∧ w.cell? p2 = x2 ∧ w.cell? p3 = x3 ∧ w.cell? p4 = x4 ∧ w.cell? p5 = x5) : w.drew.cell? p0 = x0 ∧ w.drew.cell? p1 = x1 ∧ w.drew.cell? p2 = x2 ∧ w.drew.cell? p3 = x3 ∧ w.drew.cell? p4 = x4 ∧ w.drew.cell? p5 = x5 := h
theorem fin_cells {W : World} {cb eb : Nat} {x0 x1 x2 x3 x4 x5 x6 y : Value} (hC : W.heap[cb]? = some (.cells #[x0, x1, x2, x3, x4, x5, x6] 40 (0, 0))) (hE : W.heap[eb]? = some (.cells #[y] 52 (0, 0))) (hne : cb ≠ eb) (a0 a1 a2 a3 a4 a5 a6 er : Value) :
    ((((((((W.setCell ⟨cb, 0, none⟩ a0).setCell ⟨cb, 1, none⟩ a1).setCell ⟨cb, 2, none⟩ a2).setCell ⟨cb, 3, none⟩ a3).setCell ⟨cb, 4, none⟩ a4).setCell ⟨cb, 5, none⟩ a5).setCell ⟨cb, 6, none⟩ a6).setCell ⟨eb, 0, none⟩ er).heap[cb]? = some (.cells #[a0, a1, a2, a3, a4, a5, a6] 40 (0, 0)) ∧
    ((((((((W.setCell ⟨cb, 0, none⟩ a0).setCell ⟨cb, 1, none⟩ a1).setCell ⟨cb, 2, none⟩ a2).setCell ⟨cb, 3, none⟩ a3).setCell ⟨cb, 4, none⟩ a4).setCell ⟨cb, 5, none⟩ a5).setCell ⟨cb, 6, none⟩ a6).setCell ⟨eb, 0, none⟩ er).heap[eb]? = some (.cells #[er] 52 (0, 0)) := by
 refine ⟨?_, ?_⟩
 ·rw [Below.heap_setCell _ _ _ _ hne]
  exact blk_set7 hC _ _ _ _ _ _ _
 ·exact blk_put ((blk_set7_ne _ _ _ _ _ _ _ (fun e => hne e.symm)).trans hE) _
def rdZ : Array Value := #[.int .i64 0, .int .i64 0, .string ⟨#[]⟩, .slice none 0 0, .slice none 0 0, .int .i64 0, .int .i64 0]
set_option maxHeartbeats 8000000 in
theorem read_end (w : World) (A : Option Addr) (n c : Nat) (ts : List Tok) (hT : ToksAt w w.heap.size A n ts) (i : Int) (bt : Nat) (o : OpsF) (he : i < 0 ∨ (ts.length : Int) ≤ i ∨ (peekF ts i.toNat).kind = 0) :
    Calls Tryz.prog 23 #[.slice A n c, .int .i64 i, .pointer (some ⟨bt, 0, none⟩)] w fun e w' => ReadOut w w' (readF o ts i) e := by
 have hr : readF o ts i = (⟨noTm, [], 0, 0⟩, 7) := by unfold readF; rw [if_pos he]
 rw [hr]
 clear hr
 have hln := hT.len
 have HT := Lib.hid hT
 obtain ⟨R, hR⟩ : ∃ R : Ending → World → Prop, R = fun e w' => ReadOut w w' (⟨noTm, [], 0, 0⟩, 7) e := ⟨_, rfl⟩
 rw [← hR]
 have HW : Hid (∀ er, R (.returned (.tuple #[clV ⟨0, 0, [], none, 0, 0⟩ (.slice none 0 0) 0 0, .int .i64 7])) (((w.alloc (.cells #[.slice A n c] 65)).alloc (.cells rdZ 40)).alloc (.cells #[er] 52))) := Lib.hid (fun er => by
  rw [hR]
  refine ⟨(((Below.refl _ _).alloc (Nat.le_refl _) _).alloc (by simp) _).alloc (by simp; omega) _, ⟨0, 0, [], none, 0, 0⟩, .slice none 0 0, 0, rfl, .leaf _ _ _ _ _ _ _ (Nat.zero_le _), Row.nil _ _ _ _ _⟩)
 clear hR hT
 unfold rdZ clV at HW
 by_cases h1 : i < 0
 ·clear he
  go_enter_defers Tryz.func23, Tryz.ntmps23
  go_wp2_with fail
  exact door_nil rfl (.tuple #[.agg #[.int .i64 0, .int .i64 0, .string ⟨#[]⟩, .slice none 0 0, .slice none 0 0, .int .i64 0, .int .i64 0], .int .i64 7]) (by simp [results, Tryz.results23, go_sem]) (HW.out _)
 by_cases h2 : (n : Int) ≤ i
 ·clear he
  go_enter_defers Tryz.func23, Tryz.ntmps23
  go_wp2_with fail
  exact door_nil rfl (.tuple #[.agg #[.int .i64 0, .int .i64 0, .string ⟨#[]⟩, .slice none 0 0, .slice none 0 0, .int .i64 0, .int .i64 0], .int .i64 7]) (by simp [results, Tryz.results23, go_sem]) (HW.out _)
 have h3 : (peekF ts i.toNat).kind = 0 := by rcases he with h | h | h <;> first | exact h | (exfalso; omega)
 obtain ⟨k, hk⟩ : ∃ k : Nat, i = (k : Int) := ⟨i.toNat, by omega⟩
 subst hk
 have hkl : k < ts.length := by omega
 have hp : peekF ts k = ts[k] := by unfold peekF; rw [List.getD_eq_getElem?_getD, List.getElem?_eq_getElem hkl]; rfl
 obtain ⟨b, off, e1, e2, d0, -, -, -, -, -⟩ := HT.out.at' k _ (List.getElem?_eq_getElem hkl)
 rw [Int.toNat_natCast, hp] at h3
 rw [h3] at d0
 subst e1
 have hk0 : (0 : Int) ≤ (k : Int) := by omega
 have hb1 : b < w.heap.size + 1 := by omega
 have hb2 : b < w.heap.size + 1 + 1 := by omega
 have hb3 : b < w.heap.size + 1 + 1 + 1 := by omega
 have hkn : (k : Int) < (n : Int) := by omega
 clear he hp h3
 go_enter_defers Tryz.func23, Tryz.ntmps23
 go_wp2_with fail
 exact door_nil rfl (.tuple #[.agg #[.int .i64 0, .int .i64 0, .string ⟨#[]⟩, .slice none 0 0, .slice none 0 0, .int .i64 0, .int .i64 0], .int .i64 7]) (by simp [results, Tryz.results23, go_sem]) (HW.out _)
set_option maxHeartbeats 16000000 in
theorem read_fin (w : World) (A : Option Addr) (n c : Nat) (ts : List Tok) (hT : ToksAt w w.heap.size A n ts) (hf : ts.length ≤ 20000) (k : Nat) (hkl : k < ts.length) (hkd : (peekF ts k).kind ≠ 0) (bt : Nat) (s' : RdS) (hsm0 : s'.t.may = true ∧ s'.t.size ≤ 2000)
    (hCL : ∀ W rb bb mb, Below w.heap.size w W → RdAt W rb (rdV A n c bt bb mb) ts (rdS0 k) (w.heap.size + 3) → VarsAt W mb [] → MapAt W bb evI (evF rb) begL → w.heap.size + 3 ≤ mb → mb < rb → rb < bb → Calls Tryz.prog 56 #[.pointer (some ⟨rb, 0, none⟩)] W fun e u' =>
      ∃ x v', e = .returned (tvV x) ∧ RdAt u' rb v' ts s' (w.heap.size + 3) ∧ NRow u' rb v'.nv s'.names ∧ TermS u' (TyB u' 27) x s'.t ∧ Fr (fun k => k = rb ∨ k = mb) W u') :
    Calls Tryz.prog 23 #[.slice A n c, .int .i64 (k : Nat), .pointer (some ⟨bt, 0, none⟩)] w fun e w' => ReadOut w w' (⟨s'.t, s'.names, (peekF ts k).line, (s'.at' : Int) + 1⟩, 0) e := by
 have hmm := @run_makeMap Tryz.prog
 have hmf : ∀ (fn : Fn) (first cap : Array Value) (w : World), (Instr.makeFunc fn first cap).run Tryz.prog w = .ok (.func fn first cap) w := fun _ _ _ _ => rfl
 have hln := hT.len
 have HT := Lib.hid hT
 have HCLH := Lib.hid hCL
 have HSM0 := Lib.hid hsm0
 have hkn : (k : Int) < (n : Int) := by omega
 have hk0 : (0 : Int) ≤ (k : Int) := by omega
 have hp : peekF ts k = ts[k] := by unfold peekF; rw [List.getD_eq_getElem?_getD, List.getElem?_eq_getElem hkl]; rfl
 obtain ⟨b, off, e1, e2, d0, d1, -, -, -, -⟩ := HT.out.at' k _ (List.getElem?_eq_getElem hkl)
 rw [← hp] at d0 d1
 have hkb : ((peekF ts k).kind == 0) = false := beq_eq_false_iff_ne.2 hkd
 have HKK := Lib.hid hkd
 generalize hK9 : (peekF ts k).kind = K9 at d0 hkb
 generalize hL9 : (peekF ts k).line = L9 at d1
 subst e1
 have hb1 : b < w.heap.size + 1 := by omega
 have hb2 : b < w.heap.size + 1 + 1 := by omega
 have hb3 : b < w.heap.size + 1 + 1 + 1 := by omega
 obtain ⟨R, hR⟩ : ∃ R : Ending → World → Prop, R = fun e w' => ReadOut w w' (⟨s'.t, s'.names, L9, (s'.at' : Int) + 1⟩, 0) e := ⟨_, rfl⟩
 rw [← hR]
 have HRR := Lib.hid hR
 clear hR hT hCL hsm0 hp hkd
 have HLK := Lib.hid (And.intro hK9 hL9)
 clear hK9 hL9
 go_enter_defers Tryz.func23, Tryz.ntmps23
 go_upto_region 6 with fail
 obtain ⟨pb, hpb⟩ : ∃ x, x = w.heap.size + 1 + 1 + 1 + 1 + 1 := ⟨_, rfl⟩
 obtain ⟨rb, hrb⟩ : ∃ x, x = w.heap.size + 1 + 1 + 1 + 1 := ⟨_, rfl⟩
 obtain ⟨mb, hmb⟩ : ∃ x, x = w.heap.size + 1 + 1 + 1 := ⟨_, rfl⟩
 obtain ⟨eb, heb⟩ : ∃ x, x = w.heap.size + 1 + 1 := ⟨_, rfl⟩
 obtain ⟨cb, hcb⟩ : ∃ x, x = w.heap.size + 1 := ⟨_, rfl⟩
 obtain ⟨lb, hlb⟩ : ∃ x, x = w.heap.size := ⟨_, rfl⟩
 rw [← hpb, ← hrb, ← hmb, ← heb, ← hcb, ← hlb]
 obtain ⟨U, hU⟩ : ∃ U, U = (((((w.alloc (.cells #[.slice (some ⟨b, off, none⟩) n c] 65)).alloc (.cells rdZ 40)).alloc (.cells #[.int .i64 0] 52)).alloc (.map #[] 0)).alloc (.cells #[.slice (some ⟨b, off, none⟩) n c, .int .i64 (k : Nat), .pointer (some ⟨bt, 0, none⟩), .map none, .slice none 0 0, .int .i64 0, .bool false, .int .i64 0, .int .i64 0, .string ⟨#[]⟩, .slice none 0 0, .int .i64 0, .map (some mb), .slice none 0 0, .int .i64 0] 136)).alloc (.cells #[.pointer (some ⟨rb, 0, none⟩)] 131) := ⟨_, rfl⟩
 unfold rdZ at hU
 rw [← hU]
 have hUa : U = allocs w [.cells #[.slice (some ⟨b, off, none⟩) n c] 65, .cells rdZ 40, .cells #[.int .i64 0] 52, .map #[] 0, .cells #[.slice (some ⟨b, off, none⟩) n c, .int .i64 (k : Nat), .pointer (some ⟨bt, 0, none⟩), .map none, .slice none 0 0, .int .i64 0, .bool false, .int .i64 0, .int .i64 0, .string ⟨#[]⟩, .slice none 0 0, .int .i64 0, .map (some mb), .slice none 0 0, .int .i64 0] 136, .cells #[.pointer (some ⟨rb, 0, none⟩)] 131] := hU
 have u0 : U.heap[lb]? = some (.cells #[.slice (some ⟨b, off, none⟩) n c] 65 (0, 0)) := by rw [hUa, hlb]; exact allocs_at w _ 0 _ rfl
 have u1 : U.heap[cb]? = some (.cells rdZ 40 (0, 0)) := by rw [hUa, hcb]; exact allocs_at w _ 1 _ rfl
 have u2 : U.heap[eb]? = some (.cells #[.int .i64 0] 52 (0, 0)) := by rw [hUa, heb]; exact allocs_at w _ 2 _ rfl
 have u3 : U.heap[mb]? = some (.map #[] 0) := by rw [hUa, hmb]; exact allocs_at w _ 3 _ rfl
 have u4 : U.heap[rb]? = some (.cells #[.slice (some ⟨b, off, none⟩) n c, .int .i64 (k : Nat), .pointer (some ⟨bt, 0, none⟩), .map none, .slice none 0 0, .int .i64 0, .bool false, .int .i64 0, .int .i64 0, .string ⟨#[]⟩, .slice none 0 0, .int .i64 0, .map (some mb), .slice none 0 0, .int .i64 0] 136 (0, 0)) := by rw [hUa, hrb]; exact allocs_at w _ 4 _ rfl
 have u5 : U.heap[pb]? = some (.cells #[.pointer (some ⟨rb, 0, none⟩)] 131 (0, 0)) := by rw [hUa, hpb]; exact allocs_at w _ 5 _ rfl
 have hUs : U.heap.size = w.heap.size + 6 := by rw [hUa, allocs_size]; rfl
 have hUb : Below w.heap.size w U := by rw [hUa]; exact allocs_below w _
 have hM0 := MapAt.made (ek := evI) (ev := evF rb) (κ := Int) (ν := Nat) U
 have hbU : Below U.heap.size U (U.alloc (.map #[] 0)) := (Below.refl _ _).alloc (Nat.le_refl _) _
 obtain ⟨w1, w2, w3, w4, w5, w6, a1, a2, a3, a4, a5, a6, hM6, f1, f2, f3, f4, f5, f6, hs6⟩ := beg_fill hM0
 unfold ins at a1 a2 a3 a4 a5 a6
 have pc : ∀ W, Fr (· = U.heap.size) (U.alloc (.map #[] 0)) W → ∀ k o, k < U.heap.size → U.heap[k]? = some o → W.heap[k]? = some o := fun W hF k o hk ho => (hF.block k (by simp; omega) (by omega)).trans ((hbU.block k hk).trans ho)
 have PC := Lib.hid pc
 have hpl : pb < U.heap.size := by omega
 have hrl : rb < U.heap.size := by omega
 have q0 : U.cell? ⟨pb, 0, none⟩ = some (.pointer (some ⟨rb, 0, none⟩)) := by rw [cell_of_row U pb 0 _ _ (0, 0) u5]; rfl
 have q1 : w1.cell? ⟨pb, 0, none⟩ = some (.pointer (some ⟨rb, 0, none⟩)) := by rw [cell_of_row w1 pb 0 _ _ (0, 0) (pc w1 f1 pb _ hpl u5)]; rfl
 have q2 : w2.cell? ⟨pb, 0, none⟩ = some (.pointer (some ⟨rb, 0, none⟩)) := by rw [cell_of_row w2 pb 0 _ _ (0, 0) (pc w2 f2 pb _ hpl u5)]; rfl
 have q3 : w3.cell? ⟨pb, 0, none⟩ = some (.pointer (some ⟨rb, 0, none⟩)) := by rw [cell_of_row w3 pb 0 _ _ (0, 0) (pc w3 f3 pb _ hpl u5)]; rfl
 have q4 : w4.cell? ⟨pb, 0, none⟩ = some (.pointer (some ⟨rb, 0, none⟩)) := by rw [cell_of_row w4 pb 0 _ _ (0, 0) (pc w4 f4 pb _ hpl u5)]; rfl
 have q5 : w5.cell? ⟨pb, 0, none⟩ = some (.pointer (some ⟨rb, 0, none⟩)) := by rw [cell_of_row w5 pb 0 _ _ (0, 0) (pc w5 f5 pb _ hpl u5)]; rfl
 have q6 : w6.cell? ⟨pb, 0, none⟩ = some (.pointer (some ⟨rb, 0, none⟩)) := by rw [cell_of_row w6 pb 0 _ _ (0, 0) (pc w6 f6 pb _ hpl u5)]; rfl
 have hr6 := pc w6 f6 rb _ hrl u4
 have r3 : w6.cell? ⟨rb, 3, none⟩ = some (.map none) := by rw [cell_of_row w6 rb 3 _ _ (0, 0) hr6]; rfl
 have rf : ∀ o, w6.frozen? ⟨rb, o, none⟩ = false := fun o => by simp [World.frozen?, hr6]
 have HR6 := Lib.hid hr6
 have HM6 := Lib.hid hM6
 have HF6 := Lib.hid f6
 have HU0 := Lib.hid u0
 have HU1 := Lib.hid u1
 have HU2 := Lib.hid u2
 have HU3 := Lib.hid u3
 have HU5 := Lib.hid u5
 have HUB := Lib.hid hUb
 have HBU := Lib.hid hbU
 have hne : pb ≠ rb := by omega
 have HN := Lib.hid (And.intro hlb (And.intro hcb (And.intro heb (And.intro hmb (And.intro hrb hpb)))))
 have HS := Lib.hid (And.intro hUs hs6)
 clear hU hUa u0 u1 u2 u3 u4 u5 hM0 hbU hM6 f1 f2 f3 f4 f5 f6 pc hUb hr6 hlb hcb heb hmb hrb hpb hUs hs6 hb1 hb2 hb3
 go_upto_region 7 with fail
 clear hmm a1 a2 a3 a4 a5 a6 q0 q1 q2 q3 q4 q5 r3
 obtain ⟨W7, hW7⟩ : ∃ W7, W7 = w6.setCell ⟨rb, 3, none⟩ (.map (some U.heap.size)) := ⟨_, rfl⟩
 rw [← hW7]
 obtain ⟨hlb, hcb, heb, hmb, hrb, hpb⟩ := HN.out
 obtain ⟨hUs, hs6⟩ := HS.out
 have hk7 : ∀ k o, k < U.heap.size → k ≠ rb → U.heap[k]? = some o → W7.heap[k]? = some o := fun k o hk hne ho => by rw [hW7, Below.heap_setCell _ _ _ _ hne]; exact PC.out w6 HF6.out k o hk ho
 have h7 : W7.heap[rb]? = some (.cells #[.slice (some ⟨b, off, none⟩) n c, .int .i64 (k : Nat), .pointer (some ⟨bt, 0, none⟩), .map (some U.heap.size), .slice none 0 0, .int .i64 0, .bool false, .int .i64 0, .int .i64 0, .string ⟨#[]⟩, .slice none 0 0, .int .i64 0, .map (some mb), .slice none 0 0, .int .i64 0] 136 (0, 0)) := by rw [hW7]; exact blk_put HR6.out _
 have hb7 : Below w.heap.size w W7 := by
  rw [hW7]
  have h1 : Below w.heap.size (U.alloc (.map #[] 0)) w6 := HF6.out.below (by simp; omega) fun k hk => by omega
  have h2 : Below w.heap.size w (U.alloc (.map #[] 0)) := HUB.out.trans (HBU.out.mono (by omega))
  exact (h2.trans h1).setCell (p := ⟨rb, 3, none⟩) (by simp only; omega) _
 have hu3 := hk7 mb _ (by omega) (by omega) HU3.out
 have HCL := Lib.hid (HCLH.out W7 rb U.heap.size mb hb7 ⟨h7, (HT.out.keep hb7.block).up (by omega), by omega, hf, Nat.le_of_lt hkl⟩ ⟨⟨⟨#[], 0, hu3, rfl, MapKept.stamped_empty 0⟩, by simp⟩, fun x hx => by cases hx⟩ (by rw [hW7]; exact HM6.out.setCell (p := ⟨rb, 3, none⟩) (by simp only; omega) _) (by omega) (by omega) (by omega))
 clear HCLH hu3
 have q7 : W7.cell? ⟨pb, 0, none⟩ = some (.pointer (some ⟨rb, 0, none⟩)) := by rw [cell_of_row W7 pb 0 _ _ (0, 0) (hk7 pb _ hpl hne HU5.out)]; rfl
 have H7l := Lib.hid (hk7 lb _ (by omega) (by omega) HU0.out)
 have H7c := Lib.hid (hk7 cb _ (by omega) (by omega) HU1.out)
 have H7e := Lib.hid (hk7 eb _ (by omega) (by omega) HU2.out)
 have H7p := Lib.hid (hk7 pb _ hpl hne HU5.out)
 have HB7 := Lib.hid hb7
 clear hW7 hk7 h7 hb7 HR6 HM6 HF6 HU0 HU1 HU2 HU3 HU5 HUB HBU PC hlb hcb heb hmb hrb hpb hUs hs6 q6 rf hpl hrl
 go_wp2_with fail
 refine HCL.out.mono ?_
 rintro e w8 ⟨x, v', rfl, h2, h3, h4, hf8⟩
 have hb8 : ∀ q, q < W7.heap.size → q ≠ rb → q ≠ mb → w8.heap[q]? = W7.heap[q]? := fun q hq n1 n2 => hf8.block q hq fun e => e.elim n1 n2
 ·obtain ⟨hlb, hcb, heb, hmb, hrb, hpb⟩ := HN.out
  have hsm : s'.t.size ≤ 10000000 ∧ s'.t.deep ≤ 10000000 := by have := HSM0.out.2; have := deep_size s'.t; omega
  have hl7 : ∀ q o, W7.heap[q]? = some o → q < W7.heap.size := fun q o h => (Array.getElem?_eq_some_iff.1 h).1
  have k1 := (hb8 lb (hl7 _ _ H7l.out) (by omega) (by omega)).trans H7l.out
  have k2 := (hb8 cb (hl7 _ _ H7c.out) (by omega) (by omega)).trans H7c.out
  have k3 := (hb8 eb (hl7 _ _ H7e.out) (by omega) (by omega)).trans H7e.out
  have k4 := (hb8 pb (hl7 _ _ H7p.out) (by omega) (by omega)).trans H7p.out
  have hrd : RdAt w8 rb v' ts s' (w.heap.size + 3) := h2
  have l0 : w8.cell? ⟨lb, 0, none⟩ = some (.slice (some ⟨b, off, none⟩) n c) := by rw [cell_of_row w8 lb 0 _ _ (0, 0) k1]; rfl
  have p0 : w8.cell? ⟨pb, 0, none⟩ = some (.pointer (some ⟨rb, 0, none⟩)) := by rw [cell_of_row w8 pb 0 _ _ (0, 0) k4]; rfl
  have r1 : w8.cell? ⟨rb, 1, none⟩ = some (.int .i64 (s'.at' : Int)) := hrd.blk.cell (i := 1) rfl
  have r13 : w8.cell? ⟨rb, 13, none⟩ = some v'.nv := hrd.blk.cell (i := 13) rfl
  have hw8 : w.heap.size + 3 ≤ w8.heap.size := by have := hrd.blk.lt; omega
  have t1 : w8.cell? ⟨b, off + k * 6 + 1, none⟩ = some (.int .i64 L9) := by
   have h5 := (World.cell?_of_block (a := ⟨b, off + k * 6 + 1, none⟩) ((hb8 b (by have := HB7.out.size; omega) (by omega) (by omega)).trans (HB7.out.block b e2)))
   exact h5.trans d1
  unfold rdZ at k2
  obtain ⟨z0, z1, z2, z3, z4, z5, z6, zf⟩ := seven_at k2
  have y0 : w8.cell? ⟨eb, 0, none⟩ = some (.int .i64 0) := by rw [cell_of_row w8 eb 0 _ _ (0, 0) k3]; rfl
  have yf : ∀ o, w8.frozen? ⟨eb, o, none⟩ = false := fun o => by simp [World.frozen?, k3]
  have hin := hrd.in'
  have hwr : IntKind.i64.wrap ((s'.at' : Int) + 1) = (s'.at' : Int) + 1 := IntWalk.i64_in _ (by omega)
  have HB8 := Lib.hid (HB7.out.trans (hf8.below HB7.out.size fun q hq e => by rcases e with e | e <;> omega))
  have HRD := Lib.hid hrd
  have HNR := Lib.hid h3
  have HTM := Lib.hid h4
  have HC8 := Lib.hid k2
  have HE8 := Lib.hid k3
  have bl8 : b < w8.heap.size := by omega
  have ll8 : lb < w8.heap.size := by omega
  have pl8 : pb < w8.heap.size := World.block_lt_of_cell? w8 _ p0
  have rl8 : rb < w8.heap.size := hrd.blk.lt
  have cl8 : cb < w8.heap.size := by omega
  have el8 : eb < w8.heap.size := by omega
  have nce : cb ≠ eb := by omega
  have nlc : lb ≠ cb := by omega
  have npc : pb ≠ cb := by omega
  have nrc : rb ≠ cb := by omega
  have nbc : b ≠ cb := by omega
  clear hb8 hf8 hl7 h2 h3 h4 k1 k2 k3 k4 hrd d0 d1 hlb hcb heb hmb hrb hpb q7
  unfold tvV
  go_wp2_with fail
  go_region
  go_wp2_with fail
  obtain ⟨N1, hN1⟩ : ∃ N1, N1 = (s'.at' : Int) + 1 := ⟨_, rfl⟩
  rw [← hN1]
  have HN1 := Lib.hid hN1
  obtain ⟨WA, hWA⟩ : ∃ WA, WA = ((((((((w8.setCell ⟨cb, 0, none⟩ (.int .i64 0)).setCell ⟨cb, 1, none⟩ (.int .i64 0)).setCell ⟨cb, 2, none⟩ (.string ⟨#[]⟩)).setCell ⟨cb, 3, none⟩ (.slice none 0 0)).setCell ⟨cb, 4, none⟩ (.slice none 0 0)).setCell ⟨cb, 5, none⟩ (.int .i64 L9)).setCell ⟨cb, 6, none⟩ (.int .i64 N1)).alloc (.cells #[.int .i64 x.k, .int .i64 x.n, .string ⟨x.s.toArray⟩, .slice x.A x.len x.cap] 27)).drew := ⟨_, rfl⟩
  rw [← hWA]
  have hs7 : (((((((w8.setCell ⟨cb, 0, none⟩ (.int .i64 0)).setCell ⟨cb, 1, none⟩ (.int .i64 0)).setCell ⟨cb, 2, none⟩ (.string ⟨#[]⟩)).setCell ⟨cb, 3, none⟩ (.slice none 0 0)).setCell ⟨cb, 4, none⟩ (.slice none 0 0)).setCell ⟨cb, 5, none⟩ (.int .i64 L9)).setCell ⟨cb, 6, none⟩ (.int .i64 N1)).heap.size = w8.heap.size := by simp [World.setCell]
  have hd : ∀ W : World, W.drew.heap = W.heap := fun _ => rfl
  have hWAs : WA.heap.size = w8.heap.size + 1 := by rw [hWA, hd, World.size_alloc, hs7]
  have hcA : WA.heap[cb]? = some (.cells #[.int .i64 0, .int .i64 0, .string ⟨#[]⟩, .slice none 0 0, .slice none 0 0, .int .i64 L9, .int .i64 N1] 40 (0, 0)) := by
   rw [hWA, hd, Below.heap_alloc _ _ _ (by rw [hs7]; exact cl8)]
   exact blk_set7 HC8.out _ _ _ _ _ _ _
  have hkA : ∀ k, k < w8.heap.size → k ≠ cb → WA.heap[k]? = w8.heap[k]? := fun k hk hne => by
   rw [hWA, hd, Below.heap_alloc _ _ _ (by rw [hs7]; exact hk)]
   exact blk_set7_ne _ _ _ _ _ _ _ hne
  have hgA : WA.heap[w8.heap.size]? = some (.cells #[.int .i64 x.k, .int .i64 x.n, .string ⟨x.s.toArray⟩, .slice x.A x.len x.cap] 27 (0, 0)) := by
   rw [hWA, hd]
   have := heap_alloc_new (((((((w8.setCell ⟨cb, 0, none⟩ (.int .i64 0)).setCell ⟨cb, 1, none⟩ (.int .i64 0)).setCell ⟨cb, 2, none⟩ (.string ⟨#[]⟩)).setCell ⟨cb, 3, none⟩ (.slice none 0 0)).setCell ⟨cb, 4, none⟩ (.slice none 0 0)).setCell ⟨cb, 5, none⟩ (.int .i64 L9)).setCell ⟨cb, 6, none⟩ (.int .i64 N1)) (.cells #[.int .i64 x.k, .int .i64 x.n, .string ⟨x.s.toArray⟩, .slice x.A x.len x.cap] 27)
   rw [hs7] at this
   exact this
  obtain ⟨hlb, hcb, heb, hmb, hrb, hpb⟩ := HN.out
  have hb0 : Below 0 w8 WA := by
   rw [hWA]
   exact (((((((((Below.refl 0 w8).setCell (p := ⟨cb, 0, none⟩) (Nat.zero_le _) _).setCell (p := ⟨cb, 1, none⟩) (Nat.zero_le _) _).setCell (p := ⟨cb, 2, none⟩) (Nat.zero_le _) _).setCell (p := ⟨cb, 3, none⟩) (Nat.zero_le _) _).setCell (p := ⟨cb, 4, none⟩) (Nat.zero_le _) _).setCell (p := ⟨cb, 5, none⟩) (Nat.zero_le _) _).setCell (p := ⟨cb, 6, none⟩) (Nat.zero_le _) _).alloc (Nat.zero_le _) _).drew
  have hbA : Below w.heap.size w WA := HB8.out.trans ⟨hb0.os, hb0.tape, hb0.output, by omega, fun k hk => hkA k (by omega) (by omega)⟩
  have hxA : TermS WA (TyB WA 27) x s'.t := HTM.out.keep (fun b hb => hb.keep (hkA b hb.lt (hb.ne ⟨_, HC8.out⟩ (by decide)))) fun b hb => hkA b hb.lt (hb.ne ⟨_, HC8.out⟩ (by decide))
  have hnA : NRow WA rb v'.nv s'.names := Row.keep HNR.out fun k hk => hkA k (HNR.out.lt k hk).2 ((HNR.out.ty hk).ne ⟨_, HC8.out⟩ (by decide))
  have hck := check_any WA x s'.t (hxA.at fun b hb => hb.lt) (by omega) (by omega)
  rw [tsv] at hck
  have HCK := Lib.hid hck
  have HBA := Lib.hid hbA
  have HXA := Lib.hid hxA
  have HNA := Lib.hid hnA
  have HCA := Lib.hid hcA
  have HGA := Lib.hid hgA
  have HEA := Lib.hid ((hkA eb el8 (by omega)).trans HE8.out)
  have HRA := Lib.hid ((hkA rb rl8 nrc).trans HRD.out.blk)
  have HPA : Hid (WA.cell? ⟨pb, 0, none⟩ = some (.pointer (some ⟨rb, 0, none⟩))) := Lib.hid ((World.cell?_of_block (a := ⟨pb, 0, none⟩) (hkA pb pl8 npc)).trans p0)
  clear hN1 hWA hd hb0 hs7 hcA hkA hgA hbA hxA hnA hck l0 p0 r1 r13 t1 z0 z1 z2 z3 z4 z5 z6 zf y0 yf hlb hcb heb hmb hrb hpb hwr
  refine HCK.out.mono ?_
  rintro e wB ⟨rfl, hbB⟩
  have hlk : ∀ k, k < w8.heap.size + 1 → wB.heap[k]? = WA.heap[k]? := fun k hk => hbB.block k (by omega)
  have hcB := (hlk cb (by omega)).trans HCA.out
  have hgB := (hlk w8.heap.size (by omega)).trans HGA.out
  have heB := (hlk eb (by omega)).trans HEA.out
  have hrB : RdB wB rb v' s' := (hlk rb (by omega)).trans HRA.out
  obtain ⟨z0, z1, z2, z3, z4, z5, z6, zf⟩ := seven_at hcB
  obtain ⟨g0, g1, g2, g3, gf⟩ := four_at hgB
  have y0 : wB.cell? ⟨eb, 0, none⟩ = some (.int .i64 0) := by rw [cell_of_row wB eb 0 _ _ (0, 0) heB]; rfl
  have yf : ∀ o, wB.frozen? ⟨eb, o, none⟩ = false := fun o => by simp [World.frozen?, heB]
  have p0 : wB.cell? ⟨pb, 0, none⟩ = some (.pointer (some ⟨rb, 0, none⟩)) := (World.cell?_of_block (a := ⟨pb, 0, none⟩) (hlk pb (by omega))).trans HPA.out
  obtain ⟨An, cn, hshn⟩ := HNA.out.shape
  have r13 : wB.cell? ⟨rb, 13, none⟩ = some (.slice An s'.names.length cn) := (hrB.cell (i := 13) rfl).trans (congrArg some hshn)
  have hBB := HBA.out.trans (hbB.mono HBA.out.size)
  have HBB := Lib.hid hBB
  have HCB := Lib.hid hcB
  have HEB := Lib.hid heB
  have HXB : Hid (TermS wB (TyB wB 27) x s'.t) := Lib.hid (HXA.out.keep (fun b hb => hb.keep (hbB.block b hb.lt)) fun b hb => hbB.block b hb.lt)
  have hnB : NRow wB rb v'.nv s'.names := Row.later HNA.out hbB
  rw [hshn] at hnB
  have HNB := Lib.hid hnB
  have hwBs : w8.heap.size + 1 ≤ wB.heap.size := by rw [← hWAs]; exact hbB.size
  have gl9 : w8.heap.size < wB.heap.size := by omega
  have cl9 : cb < wB.heap.size := by omega
  have el9 : eb < wB.heap.size := by omega
  have pl9 : pb < wB.heap.size := by omega
  have rl9 : rb < wB.heap.size := by omega
  have ngc : w8.heap.size ≠ cb := by omega
  have nge : w8.heap.size ≠ eb := by omega
  obtain ⟨ck, hck⟩ : ∃ ck, ck = checkT s'.t := ⟨_, rfl⟩
  rw [← hck]
  have HCT := Lib.hid hck
  clear hck hlk hcB hgB heB hrB hshn hBB hnB hbB
  obtain rfl : ck = 0 := HCT.out.trans (checkT_ok HSM0.out.1 HSM0.out.2)
  ·have HS6 := Lib.hid (And.intro g0 (And.intro g1 (And.intro g2 (And.intro g3 (And.intro p0 r13)))))
   have HST := Lib.hid (s6_keep (w' := ((((wB.setCell ⟨cb, 0, none⟩ (.int .i64 x.k)).setCell ⟨cb, 1, none⟩ (.int .i64 x.n)).setCell ⟨cb, 2, none⟩ (.string ⟨x.s.toArray⟩)).setCell ⟨cb, 3, none⟩ (.slice x.A x.len x.cap))) HS6.out (fun k hk => blk_set4_ne _ _ _ _ hk) ngc ngc ngc ngc npc nrc)
   have HSM := Lib.hid (s6_keep (w' := wB.setCell ⟨cb, 4, none⟩ (.slice An s'.names.length cn)) HS6.out (fun k hk => Below.heap_setCell _ _ _ _ hk) ngc ngc ngc ngc npc nrc)
   have HSTM := Lib.hid (s6_keep (w' := ((((wB.setCell ⟨cb, 0, none⟩ (.int .i64 x.k)).setCell ⟨cb, 1, none⟩ (.int .i64 x.n)).setCell ⟨cb, 2, none⟩ (.string ⟨x.s.toArray⟩)).setCell ⟨cb, 3, none⟩ (.slice x.A x.len x.cap)).setCell ⟨cb, 4, none⟩ (.slice An s'.names.length cn)) HST.out (fun k hk => Below.heap_setCell _ _ _ _ hk) ngc ngc ngc ngc npc nrc)
   have HSMT := Lib.hid (s6_keep (w' := (((((wB.setCell ⟨cb, 4, none⟩ (.slice An s'.names.length cn)).setCell ⟨cb, 0, none⟩ (.int .i64 x.k)).setCell ⟨cb, 1, none⟩ (.int .i64 x.n)).setCell ⟨cb, 2, none⟩ (.string ⟨x.s.toArray⟩)).setCell ⟨cb, 3, none⟩ (.slice x.A x.len x.cap))) HSM.out (fun k hk => blk_set4_ne _ _ _ _ hk) ngc ngc ngc ngc npc nrc)
   go_upto_region 12 with fail
   go_region_held3 (fun u' => u'.cell? ⟨w8.heap.size, 0, none⟩ = some (.int .i64 x.k) ∧ u'.cell? ⟨w8.heap.size, 1, none⟩ = some (.int .i64 x.n) ∧ u'.cell? ⟨w8.heap.size, 2, none⟩ = some (.string ⟨x.s.toArray⟩) ∧ u'.cell? ⟨w8.heap.size, 3, none⟩ = some (.slice x.A x.len x.cap) ∧ u'.cell? ⟨pb, 0, none⟩ = some (.pointer (some ⟨rb, 0, none⟩)) ∧ u'.cell? ⟨rb, 13, none⟩ = some (.slice An s'.names.length cn))
    (first | (with_reducible exact HS6.out) | (with_reducible exact HST.out) | (with_reducible exact HSM.out) | (with_reducible exact HSTM.out) | (with_reducible exact HSMT.out) | (with_reducible exact s6_drew HS6.out) | (with_reducible exact s6_drew HST.out) | (with_reducible exact s6_drew HSM.out) | (with_reducible exact s6_drew HSTM.out) | (with_reducible exact s6_drew HSMT.out))
    (fail)
   all_goals
    go_wp2_with fail
    have hC5 : (((((wB.setCell ⟨cb, 0, none⟩ (.int .i64 x.k)).setCell ⟨cb, 1, none⟩ (.int .i64 x.n)).setCell ⟨cb, 2, none⟩ (.string ⟨x.s.toArray⟩)).setCell ⟨cb, 3, none⟩ (.slice x.A x.len x.cap)).setCell ⟨cb, 4, none⟩ (.slice An s'.names.length cn)).heap[cb]? = some (.cells #[.int .i64 x.k, .int .i64 x.n, .string ⟨x.s.toArray⟩, .slice x.A x.len x.cap, .slice An s'.names.length cn, .int .i64 L9, .int .i64 N1] 40 (0, 0)) := blk_put (blk_put (blk_put (blk_put (blk_put HCB.out _) _) _) _) _
    have hne5 : ∀ k, k ≠ cb → (((((wB.setCell ⟨cb, 0, none⟩ (.int .i64 x.k)).setCell ⟨cb, 1, none⟩ (.int .i64 x.n)).setCell ⟨cb, 2, none⟩ (.string ⟨x.s.toArray⟩)).setCell ⟨cb, 3, none⟩ (.slice x.A x.len x.cap)).setCell ⟨cb, 4, none⟩ (.slice An s'.names.length cn)).heap[k]? = wB.heap[k]? := fun k hk => (Below.heap_setCell _ _ _ _ hk).trans (blk_set4_ne _ _ _ _ hk)
    have hfc := fin_cells hC5 ((hne5 eb (fun e => nce e.symm)).trans HEB.out) nce (.int .i64 x.k) (.int .i64 x.n) (.string ⟨x.s.toArray⟩) (.slice x.A x.len x.cap) (.slice An s'.names.length cn) (.int .i64 L9) (.int .i64 N1) (.int .i64 0)
    have hcbw : w.heap.size ≤ cb := by have := HN.out.2.1; omega
    have hebw : w.heap.size ≤ eb := by have := HN.out.2.2.1; omega
    have hb5 : Below w.heap.size w (((((wB.setCell ⟨cb, 0, none⟩ (.int .i64 x.k)).setCell ⟨cb, 1, none⟩ (.int .i64 x.n)).setCell ⟨cb, 2, none⟩ (.string ⟨x.s.toArray⟩)).setCell ⟨cb, 3, none⟩ (.slice x.A x.len x.cap)).setCell ⟨cb, 4, none⟩ (.slice An s'.names.length cn)) := ((((HBB.out.setCell (p := ⟨cb, 0, none⟩) hcbw _).setCell (p := ⟨cb, 1, none⟩) hcbw _).setCell (p := ⟨cb, 2, none⟩) hcbw _).setCell (p := ⟨cb, 3, none⟩) hcbw _).setCell (p := ⟨cb, 4, none⟩) hcbw _
    have hbf := (cl_below hb5 cb hcbw (.int .i64 x.k) (.int .i64 x.n) (.string ⟨x.s.toArray⟩) (.slice x.A x.len x.cap) (.slice An s'.names.length cn) (.int .i64 L9) (.int .i64 N1)).setCell (p := ⟨eb, 0, none⟩) hebw (.int .i64 0)
    have hnf : ∀ k, k ≠ cb → k ≠ eb → (((((((((((((wB.setCell ⟨cb, 0, none⟩ (.int .i64 x.k)).setCell ⟨cb, 1, none⟩ (.int .i64 x.n)).setCell ⟨cb, 2, none⟩ (.string ⟨x.s.toArray⟩)).setCell ⟨cb, 3, none⟩ (.slice x.A x.len x.cap)).setCell ⟨cb, 4, none⟩ (.slice An s'.names.length cn)).setCell ⟨cb, 0, none⟩ (.int .i64 x.k)).setCell ⟨cb, 1, none⟩ (.int .i64 x.n)).setCell ⟨cb, 2, none⟩ (.string ⟨x.s.toArray⟩)).setCell ⟨cb, 3, none⟩ (.slice x.A x.len x.cap)).setCell ⟨cb, 4, none⟩ (.slice An s'.names.length cn)).setCell ⟨cb, 5, none⟩ (.int .i64 L9)).setCell ⟨cb, 6, none⟩ (.int .i64 N1)).setCell ⟨eb, 0, none⟩ (.int .i64 0)).heap[k]? = wB.heap[k]? := fun k h1 h2 => (Below.heap_setCell _ _ _ _ h2).trans ((blk_set7_ne _ _ _ _ _ _ _ h1).trans (hne5 k h1))
    obtain ⟨WF, hWF⟩ : ∃ WF, WF = (((((((((((((wB.setCell ⟨cb, 0, none⟩ (.int .i64 x.k)).setCell ⟨cb, 1, none⟩ (.int .i64 x.n)).setCell ⟨cb, 2, none⟩ (.string ⟨x.s.toArray⟩)).setCell ⟨cb, 3, none⟩ (.slice x.A x.len x.cap)).setCell ⟨cb, 4, none⟩ (.slice An s'.names.length cn)).setCell ⟨cb, 0, none⟩ (.int .i64 x.k)).setCell ⟨cb, 1, none⟩ (.int .i64 x.n)).setCell ⟨cb, 2, none⟩ (.string ⟨x.s.toArray⟩)).setCell ⟨cb, 3, none⟩ (.slice x.A x.len x.cap)).setCell ⟨cb, 4, none⟩ (.slice An s'.names.length cn)).setCell ⟨cb, 5, none⟩ (.int .i64 L9)).setCell ⟨cb, 6, none⟩ (.int .i64 N1)).setCell ⟨eb, 0, none⟩ (.int .i64 0)) := ⟨_, rfl⟩
    rw [← hWF] at hfc hbf hnf ⊢
    clear hWF hC5 hne5 hb5
    obtain ⟨f0, f1, f2, f3, f4, f5, f6, ff⟩ := seven_at hfc.1
    have f7 : WF.cell? ⟨eb, 0, none⟩ = some (.int .i64 0) := by rw [cell_of_row WF eb 0 _ _ (0, 0) hfc.2]; rfl
    refine leaves_cons (f := 54) (args := #[.pointer (some ⟨lb, 0, none⟩), .pointer (some ⟨pb, 0, none⟩), .pointer (some ⟨cb, 0, none⟩), .pointer (some ⟨eb, 0, none⟩)]) (by simp) (by simp [go_sem]) ?_
    refine (catch_idle _ _ _ _ _).mono ?_
    rintro e u' w'' ⟨rfl, rfl, rfl⟩
    show Leaves Tryz.prog Tryz.f23 _ R [] .returning _
    refine ⟨.tuple #[.agg #[.int .i64 x.k, .int .i64 x.n, .string ⟨x.s.toArray⟩, .slice x.A x.len x.cap, .slice An s'.names.length cn, .int .i64 L9, .int .i64 N1], .int .i64 0], by simp [results, Tryz.results23, go_sem, f0, f1, f2, f3, f4, f5, f6, f7], ?_⟩
    rw [HRR.out]
    have hxF : TermS WF (TyB WF 27) x s'.t := HXB.out.keep (fun b hb => hb.keep (hnf b (hb.ne ⟨_, HCB.out⟩ (by decide)) (hb.ne ⟨_, HEB.out⟩ (by decide)))) fun b hb => hnf b (hb.ne ⟨_, HCB.out⟩ (by decide)) (hb.ne ⟨_, HEB.out⟩ (by decide))
    have hnF : NRow WF rb (.slice An s'.names.length cn) s'.names := Row.keep HNB.out fun k hk => hnf k ((HNB.out.ty hk).ne ⟨_, HCB.out⟩ (by decide)) ((HNB.out.ty hk).ne ⟨_, HEB.out⟩ (by decide))
    have hxA : TermS WF.drew (TyB WF.drew 27) x s'.t := hxF.keep (fun _ hb => hb) fun _ _ => rfl
    exact ⟨hbf.drew, x, (.slice An s'.names.length cn), rb + 1, by rw [HN1.out]; rfl, hxA, Row.later hnF (Below.refl _ _).drew⟩
end Go.Proofs.YtjdnigepnfeboaaGreatDoor
