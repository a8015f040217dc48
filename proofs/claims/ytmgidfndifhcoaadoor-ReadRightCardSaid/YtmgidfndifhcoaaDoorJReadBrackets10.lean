import Derived.Test.YtmgidfndifhcoaaDoorJReadBrackets09
import Derived.Laws.OwnMore
import Derived.Test.YtmgidfndifhcoaaDoorJReadBrackets06
/-
  codes: a text in double quotes. Conditions: as before; the text is short.
-/
namespace Go.Proofs.YtmgidfndifhcoaaDoor
open Go.RowKit Go.Maps
set_option maxRecDepth 100000

def zTV : TV := ⟨0, 0, [], none, 0, 0⟩
def cTV (c : UInt8) : TV := ⟨2, c.toNat, [], none, 0, 0⟩
theorem zTV_rep (n : Nat) : ((List.replicate n zTV).flatMap encTV).length = n * 4 := by
  rw [length_flatMap_enc encTV_len, List.length_replicate]
theorem made_terms (z : Value) (hz : z.cells = #[.int .i64 0, .int .i64 0, .string ⟨#[]⟩, .slice none 0 0]) (n : Nat) : (madeCells z.cells (n * 4)).toList = (List.replicate n zTV).flatMap encTV := by
  rw [hz]
  apply List.ext_getElem?
  intro i
  by_cases hi : i < n * 4
  · have h1 : i / 4 < n := by omega
    have h2 : i % 4 < 4 := Nat.mod_lt _ (by omega)
    have h3 : i / 4 * 4 + i % 4 = i := by omega
    have h4 : (List.replicate n zTV)[i / 4]? = some zTV := by rw [List.getElem?_replicate, if_pos h1]
    have e1 : (madeCells #[.int .i64 0, .int .i64 0, .string ⟨#[]⟩, .slice none 0 0] (n * 4)).toList[i]? = (encTV zTV)[i % 4]? := by
      rcases (show i % 4 = 0 ∨ i % 4 = 1 ∨ i % 4 = 2 ∨ i % 4 = 3 by omega) with e | e | e | e <;> simp [madeCells, hi, e, encTV, zTV]
    have h5 : i % 4 < (encTV zTV).length := by rw [encTV_len]; exact h2
    rw [e1, List.getElem?_eq_getElem h5]
    have := flatMap_get encTV_len _ _ _ _ _ h4 (List.getElem?_eq_getElem h5)
    rw [h3] at this
    exact this.symm
  · rw [List.getElem?_eq_none (by simp [madeCells]; omega), List.getElem?_eq_none (by rw [zTV_rep]; omega)]
theorem term_info : ∃ i z, Tryd.prog.info? 25 = some i ∧ i.zero = some z ∧ i.size = 4 ∧ i.bytes = 56 ∧ z.cells = #[.int .i64 0, .int .i64 0, .string ⟨#[]⟩, .slice none 0 0] := by
  refine ⟨_, _, rfl, rfl, ?_, ?_, ?_⟩ <;> kernel_rfl
theorem run_terms (w : World) (n : Nat) (hn : n ≤ 1000000) :
    (Instr.makeSlice 23 (.int .i64 (n : Int)) (.int .i64 (n : Int))).run Tryd.prog w = .ok (.slice (some ⟨w.heap.size, 0, none⟩) n n) (w.alloc (.cells ((List.replicate n zTV).flatMap encTV).toArray 25)) := by
  obtain ⟨i, z, h1, h2, h3, h4, h5⟩ := term_info
  have := run_make (P := Tryd.prog) w 23 25 i z Tryd.underlying23 h1 h2 .i64 .i64 n n (by omega) (by omega) (by rw [h4]; omega) (by omega)
  simp only [Int.toNat_natCast, h3] at this
  rw [this]
  congr 3
  rw [← made_terms z h5 n]
theorem terms_row (w : World) (B n : Nat) (hB : B ≤ w.heap.size) (hn : n ≤ 1000000) : Row (w.alloc (.cells ((List.replicate n zTV).flatMap encTV).toArray 25)) B 25 4 encTV (.slice (some ⟨w.heap.size, 0, none⟩) n n) (List.replicate n zTV) := by
  refine ⟨?_, ?_⟩
  · rw [zTV_rep, List.length_replicate]
  · rw [List.length_replicate]
    refine .inr ⟨w.heap.size, n, ((List.replicate n zTV).flatMap encTV).toArray, rfl, hB, heap_alloc_new w _, Nat.le_refl _, by unfold maxLen; omega, ?_, ?_⟩
    · rw [List.size_toArray, zTV_rep]
    · exact List.take_of_length_le (by rw [zTV_rep]; exact Nat.le_refl _)
theorem row_code {w : World} {B g n cap k : Nat} {xs : List TV} (h : Row w B 25 4 encTV (.slice (some ⟨g, 0, none⟩) n cap) xs) (c : UInt8) (hk : xs[k]? = some zTV) :
    Row ((((w.setCell ⟨g, k * 4, none⟩ (.int .i64 2)).setCell ⟨g, k * 4 + 1, none⟩ (.int .i64 (c.toNat : Int))).setCell ⟨g, k * 4 + 2, none⟩ (.string ⟨#[]⟩)).setCell ⟨g, k * 4 + 3, none⟩ (.slice none 0 0)) B 25 4 encTV (.slice (some ⟨g, 0, none⟩) n cap) (xs.set k (cTV c)) := by
  have hl := (List.getElem?_eq_some_iff.1 hk).1
  have h1 := Row.put encTV_len h (j := 0) (y := ⟨2, 0, [], none, 0, 0⟩) (u := .int .i64 2) hk (by omega) rfl
  have h2 := Row.put encTV_len h1 (i := k) (j := 1) (x := ⟨2, 0, [], none, 0, 0⟩) (y := cTV c) (u := .int .i64 (c.toNat : Int)) (by rw [List.getElem?_set_self hl]) (by omega) rfl
  have h3 := Row.put encTV_len h2 (i := k) (j := 2) (x := cTV c) (y := cTV c) (u := .string ⟨#[]⟩) (by rw [List.getElem?_set_self (by simpa using hl)]) (by omega) rfl
  have h4 := Row.put encTV_len h3 (i := k) (j := 3) (x := cTV c) (y := cTV c) (u := .slice none 0 0) (by rw [List.getElem?_set_self (by simpa using hl)]) (by omega) rfl
  simpa using h4
theorem codes_terms (u : World) (S : Nat → Prop) (s : List UInt8) : TermsS u S (s.map cTV) (s.map fun c => intT c.toNat) := by
  refine ⟨by simp, fun i y t h1 h2 => ?_⟩
  rw [List.getElem?_map] at h1 h2
  cases hc : s[i]? with
  | none => rw [hc] at h1; cases h1
  | some c =>
    rw [hc] at h1 h2
    injection h1 with h1
    injection h2 with h2
    subst h1 h2
    exact .leaf _ _ _ _ _ _ _ (Nat.zero_le _)
/-- In the loop: k codes are laid. -/
structure CInv (W : World) (s : List UInt8) (k : Nat) (wr : World) : Prop where
  below : Below W.heap.size W wr
  row : Row wr W.heap.size 25 4 encTV (.slice (some ⟨W.heap.size, 0, none⟩) s.length s.length) ((s.take k).map cTV ++ List.replicate (s.length - k) zTV)
theorem CInv.round {W wr : World} {s : List UInt8} {k : Nat} {c : UInt8} (h : CInv W s k wr) (hc : s[k]? = some c) :
    CInv W s (k + 1) ((((wr.setCell ⟨W.heap.size, k * 4, none⟩ (.int .i64 2)).setCell ⟨W.heap.size, k * 4 + 1, none⟩ (.int .i64 (c.toNat : Int))).setCell ⟨W.heap.size, k * 4 + 2, none⟩ (.string ⟨#[]⟩)).setCell ⟨W.heap.size, k * 4 + 3, none⟩ (.slice none 0 0)) := by
  have hl := (List.getElem?_eq_some_iff.1 hc).1
  have hlen : ((s.take k).map cTV).length = k := by simp; omega
  refine ⟨(((h.below.setCell (p := ⟨W.heap.size, k * 4, none⟩) (Nat.le_refl _) _).setCell (p := ⟨W.heap.size, k * 4 + 1, none⟩) (Nat.le_refl _) _).setCell (p := ⟨W.heap.size, k * 4 + 2, none⟩) (Nat.le_refl _) _).setCell (p := ⟨W.heap.size, k * 4 + 3, none⟩) (Nat.le_refl _) _, ?_⟩
  have hz : ((s.take k).map cTV ++ List.replicate (s.length - k) zTV)[k]? = some zTV := by
    rw [List.getElem?_append_right (by omega), hlen, Nat.sub_self, List.getElem?_replicate, if_pos (by omega)]
  have h2 := row_code h.row c hz
  have e : ((s.take k).map cTV ++ List.replicate (s.length - k) zTV).set k (cTV c) = (s.take (k + 1)).map cTV ++ List.replicate (s.length - (k + 1)) zTV := by
    rw [List.set_append_right _ _ (by omega), hlen, Nat.sub_self, show s.length - k = (s.length - (k + 1)) + 1 by omega, List.replicate_succ, List.set_cons_zero, List.take_add_one, hc, List.map_append, List.append_assoc]
    rfl
  rw [e] at h2
  exact h2

set_option maxHeartbeats 8000000 in
theorem codes_any (u : World) (rb : Nat) (v : RdV) (ts : List Tok) (s : RdS) (B : Nat) (h : RdAt u rb v ts s B) (t : Tok) (hat : s.at' < ts.length) (hsh : t.s.length ≤ 1000000) (L : List Nat) (hL : ∀ k ∈ L, k < u.heap.size) :
    Calls Tryd.prog 33 #[.pointer (some ⟨rb, 0, none⟩), tokW t] u fun e u' => e = .returned (.tuple #[]) ∧ Fr (· = rb) u u' ∧ ∃ y', RdAt u' rb { v with x := y' } ts ((s.go 1).done (listT (t.s.map fun c => intT c.toNat) nilT) 0) B ∧ TermS u' (SOf u' L) y' (listT (t.s.map fun c => intT c.toNat) nilT) := by
  have HA := Lib.hid h
  have hf := h.few
  have hlt := h.blk.lt
  have c1 : u.cell? ⟨rb, 1, none⟩ = some (.int .i64 (s.at' : Int)) := h.blk.cell (i := 1) rfl
  have cf := h.blk.free
  have hwr : IntKind.i64.wrap ((s.at' : Int) + 1) = (s.at' : Int) + 1 := IntWalk.i64_in _ (by omega)
  have HL := Lib.hid hL
  obtain ⟨W, hW⟩ : ∃ W, W = (u.setCell ⟨rb, 1, none⟩ (.int .i64 ((s.at' : Int) + 1))).alloc (.cells #[.int .i64 t.kind, .int .i64 t.line, .int .i64 t.n, .string ⟨t.s.toArray⟩, .bool t.opn, .bool t.tight] 44) := ⟨_, rfl⟩
  have hgo : RdAt W rb v ts (s.go 1) B := by
    rw [hW]
    exact (h.put (v' := v) (s' := s.go 1) 1 _ (by simp [rdCells, RdS.go]) rfl rfl (by show s.at' + 1 ≤ _; omega)).later ((Below.refl _ _).alloc (Nat.le_refl _) _)
  have HG := Lib.hid hgo
  have HF : Hid (Fr (· = rb) u W) := by
    rw [hW]
    exact Lib.hid (((Fr.refl (· = rb) u).setCell (p := ⟨rb, 1, none⟩) (.inl rfl) _).alloc _)
  have hnew : W.heap[u.heap.size]? = some (.cells #[.int .i64 t.kind, .int .i64 t.line, .int .i64 t.n, .string ⟨t.s.toArray⟩, .bool t.opn, .bool t.tight] 44 (0, 0)) := by
    rw [hW]
    have := heap_alloc_new (u.setCell ⟨rb, 1, none⟩ (.int .i64 ((s.at' : Int) + 1))) (.cells #[.int .i64 t.kind, .int .i64 t.line, .int .i64 t.n, .string ⟨t.s.toArray⟩, .bool t.opn, .bool t.tight] 44)
    simpa using this
  have HN := Lib.hid hnew
  have hls : (t.s.length : Int) ≤ 9223372036854775807 := by omega
  have hmk := run_terms W t.s.length hsh
  have H0 : Hid (CInv W t.s 0 (W.alloc (.cells ((List.replicate t.s.length zTV).flatMap encTV).toArray 25))) := Lib.hid ⟨(Below.refl _ _).alloc (Nat.le_refl _) _, by simpa using terms_row W W.heap.size t.s.length (Nat.le_refl _) hsh⟩
  obtain ⟨n0, n1, n2, n3, n4, n5, nf⟩ := six_at hnew
  clear h hgo hnew
  unfold tokW
  go_enter Tryd.func33, Tryd.ntmps33
  go_upto_region 2 with fail
  rw [← hW]
  clear hW
  go_wp2_with fail
  go_loopw [19] (fun i wr => ∃ k, k ≤ t.s.length ∧ i = .int .i64 (k : Nat) ∧ Hid (CInv W t.s k wr)) (fun i _ => t.s.length - (intOf i).toNat)
  case atStart => exact ⟨0, Nat.zero_le _, rfl, H0⟩
  case round =>
    obtain ⟨k, hk, rfl, HI⟩ := hrel
    have HWR : Hid (Row wr W.heap.size 25 4 encTV (.slice (some ⟨W.heap.size, 0, none⟩) t.s.length t.s.length) ((t.s.take k).map cTV ++ List.replicate (t.s.length - k) zTV)) := Lib.hid HI.out.row
    have hul : u.heap.size < W.heap.size := World.block_lt_of_cell? W _ n0
    have w3 : wr.cell? ⟨u.heap.size, 3, none⟩ = some (.string ⟨t.s.toArray⟩) := (HI.out.below.cell (p := ⟨u.heap.size, 3, none⟩) hul).trans n3
    clear n0 n1 n2 n3 n4 n5 hmk
    by_cases hkl : k < t.s.length
    · have hki : (k : Int) < (t.s.length : Int) := by omega
      have hk0 : (0 : Int) ≤ (k : Int) := by omega
      have hwk : IntKind.i64.wrap ((k : Int) + 1) = (k : Int) + 1 := IntWalk.i64_in _ (by omega)
      obtain ⟨c, hc, hgc⟩ : ∃ c, (⟨t.s.toArray⟩ : ByteArray)[k]'(by show k < t.s.toArray.size; simpa using hkl) = c ∧ t.s[k]? = some c := ⟨t.s[k], rfl, List.getElem?_eq_getElem hkl⟩
      have hlen : ((t.s.take k).map cTV).length = k := by simp; omega
      have hz : ((t.s.take k).map cTV ++ List.replicate (t.s.length - k) zTV)[k]? = some zTV := by
        rw [List.getElem?_append_right (by omega), hlen, Nat.sub_self, List.getElem?_replicate, if_pos (by omega)]
      obtain ⟨g, cap, hv, hBg, hgl, _, hcs⟩ := HWR.out.cells encTV_len (fun e => by rw [e] at hz; cases hz)
      injection hv with hv1 hv2 hv3
      injection hv1 with hv1
      injection hv1 with hv1
      subst hv1
      have q0 := hcs k zTV hz 0 _ rfl
      have q1 := hcs k zTV hz 1 _ rfl
      have q2 := hcs k zTV hz 2 _ rfl
      have q3 := hcs k zTV hz 3 _ rfl
      simp only [zTV, Nat.add_zero] at q0 q1 q2 q3
      obtain ⟨q0, f0⟩ := q0
      obtain ⟨q1, f1⟩ := q1
      obtain ⟨q2, f2⟩ := q2
      obtain ⟨q3, f3⟩ := q3
      have HN1 := Lib.hid (HI.out.round hgc)
      clear hcs hz hlen hv2 hv3 hgc
      have hwc : wrap64 (c.toNat : Int) = (c.toNat : Int) := IntWalk.wrap64_in _ (by have := c.toNat_lt; omega)
      go_wp2_with fail
      go_roundw
      case rel => exact ⟨k + 1, by omega, rfl, HN1⟩
      case measure =>
        simp only [intOf]
        omega
    · have hke : k = t.s.length := by omega
      subst hke
      clear hk hkl
      have hr2 := HWR.out
      rw [Nat.sub_self, List.take_length, List.replicate_zero, List.append_nil] at hr2
      have HR2 := Lib.hid hr2
      have HFr := Lib.hid (HF.out.step HI.out.below)
      have HGr := Lib.hid (HG.out.later HI.out.below)
      clear hr2
      go_wp2_with fail
      refine (list_any wr L (fun k hk => Nat.lt_of_lt_of_le (HL.out k hk) HFr.out.size) (some ⟨W.heap.size, 0, none⟩) t.s.length t.s.length (t.s.map cTV) (t.s.map fun c => intT c.toNat) (SlTerms.row HR2.out) (codes_terms _ _ _) ⟨3, 0, [91, 93], none, 0, 0⟩ nilT (.leaf _ _ _ _ _ _ _ (by unfold maxLen; simp)) hsh).mono ?_
      rintro e w2 ⟨y', rfl, ht2, hb2⟩
      have HT2 := Lib.hid ht2
      have HG2 := Lib.hid (HGr.out.later hb2)
      have HF2 := Lib.hid (HFr.out.step hb2)
      clear ht2 hb2
      unfold tvV
      go_wp2_with fail
      refine (done_any w2 rb v ts (s.go 1) B HG2.out y' (listT (t.s.map fun c => intT c.toNat) nilT) 0).mono ?_
      rintro e w3 ⟨rfl, r1, r2⟩
      have R1 := Lib.hid r1
      have R2 := Lib.hid (HF2.out.trans r2)
      have HT3 : Hid (TermS w3 (SOf w3 L) y' (listT (t.s.map fun c => intT c.toNat) nilT)) := Lib.hid (HT2.out.step fun b hb => by
        have hne : b ≠ rb := hb.1.ne ⟨_, HG2.out.blk⟩ (by decide)
        have hk := r2.block b hb.1.lt hne
        exact ⟨⟨hb.1.keep hk, hb.2⟩, hk⟩)
      clear r1 r2
      go_wp2_with fail
      exact bodyPost_end (v := .tuple #[]) (by simp [results, Tryd.results33, go_sem]) rfl ⟨rfl, R2.out, y', R1.out, HT3.out⟩
end Go.Proofs.YtmgidfndifhcoaaDoor
/-
  number, in the form of what begins a term. Conditions: as before.
-/
namespace Go.Proofs.YtmgidfndifhcoaaDoor
open Go.RowKit

theorem number_out (u : World) (rb : Nat) (v : RdV) (ts : List Tok) (s : RdS) (B : Nat) (h : RdAt u rb v ts s B) (l : List FrV) (hrow : WRow u rb v.wv l) (t : Tok) (hat : s.at' < ts.length) :
    Calls Tryd.prog 31 #[.pointer (some ⟨rb, 0, none⟩), tokW t] u fun e u' => Fr (fun k => k = rb ∨ v.wv.ownBlock = some k) u u' ∧ PrimOut u' rb v ts s B l (if t.n < 0 then .error s.at' else .ok ((s.go 1).done (intT t.n) 0)) e := by
  refine (number_any u rb v ts s B h t hat).mono ?_
  rintro e u' ⟨hF, h1⟩
  refine ⟨hF.weak fun k hk => .inl hk, ?_⟩
  by_cases hn : t.n < 0
  · rw [if_pos hn] at h1 ⊢
    exact ⟨h1.1, s, rfl, h1.2⟩
  · rw [if_neg hn] at h1 ⊢
    exact ⟨h1.1, _, h1.2, rfl, rfl, rfl, rfl, rfl, rfl, rfl, .inr ⟨rfl, rfl, WRow.fr hrow hF, 2, t.n, [], rfl, rfl⟩⟩
end Go.Proofs.YtmgidfndifhcoaaDoor
/-
  The methods that begin a term, over the reader's whole state. Conditions: the state stands; no term is there yet.
-/
namespace Go.Proofs.YtmgidfndifhcoaaDoor
open Go.RowKit Go.Maps
set_option maxRecDepth 100000

section
variable {E : RdE} {u u' : World} {v : RdV} {s : RdS} {fl : List FrV}
theorem RdInv.ops (h : RdInv E u v s fl) : OpsAt u E.rb v E.bt E.bm E.es :=
  ⟨h.ob, h.tab, h.kinds, by have := h.r.base; have := h.btr; have := h.bmr; have := h.kr; omega⟩
theorem RdInv.exl (h : RdInv E u v s fl) : ∀ k ∈ opE E fl, k < u.heap.size := fun k hk => by
  rcases List.mem_append.1 hk with hk | hk
  · exact (h.open_ty hk).1.lt
  · obtain ⟨p, hp, rfl⟩ := List.mem_map.1 hk
    exact (Array.getElem?_eq_some_iff.1 (h.fix p hp).1).1
theorem RdInv.later (h : RdInv E u v s fl) (hb : Below u.heap.size u u') : RdInv E u' v s fl where
  r := h.r.later hb
  row := h.row.later hb
  vb := h.vb
  ob := h.ob
  bv := h.bv
  mbr := h.mbr
  Bmb := h.Bmb
  rbb := h.rbb
  mbb := h.mbb
  vars := ⟨h.vars.map.below hb h.vars.map.lt, h.vars.ok⟩
  beg := h.beg.below hb h.beg.lt
  nm := h.nm.later hb
  tab := h.tab.later hb
  kinds := h.kinds.later hb
  btr := h.btr
  bmr := h.bmr
  kr := h.kr
  tie := h.tie.step (fun f hf k hk => hb.block k (h.tie.ty f hf k hk).1.lt) (SOf.later hb)
  x := h.x.step (SOf.later hb)
  fix := fun p hp => ⟨(hb.block p.1 (Array.getElem?_eq_some_iff.1 (h.fix p hp).1).1).trans (h.fix p hp).1, (h.fix p hp).2⟩
  nd := h.nd
  short := h.short
  num := h.num
  left := h.left
  ll := h.ll
  c0 := h.c0
  cn := h.cn
  nn := h.nn
theorem RdOut.back {w : World} {r : Except Nat RdS} {e : Ending} (h : RdOut E u u' r e) (hb : BelE E w u) : RdOut E w u' r e := ⟨hb.trans h.1, h.2⟩
theorem RdInv.sizeB (h : RdInv E u v s fl) : E.B ≤ u.heap.size := Nat.le_trans h.r.base (Nat.le_of_lt h.r.blk.lt)
theorem RdInv.belE (h : RdInv E u v s fl) (hb : Below u.heap.size u u') : BelE E u u' := ⟨hb.mono h.sizeB, fun p hp => hb.block p.1 (Array.getElem?_eq_some_iff.1 (h.fix p hp).1).1⟩
theorem RdOut.after {w : World} {r : Except Nat RdS} {e : Ending} (h : RdOut E u u' r e) (hi : RdInv E w v s fl) (hb : Below w.heap.size w u) : RdOut E w u' r e := h.back (hi.belE hb)
theorem RdInv.prim' (h : RdInv E u v s fl) (hv : s.hv = false) {r : Except Nat RdS} {e : Ending} {o : OpsF} (hF : Fr (fun k => k = E.rb ∨ v.wv.ownBlock = some k) u u') (ho : PrimOut u' E.rb v E.ts s E.B fl r e) (hr : r = primaryF o E.ts s) (hp : ∀ s', r = .ok s' → PlainOut s s') : RdOut E u u' r e :=
  h.prim hF ho fun s' hs => ⟨(hp s' hs).vars, (hp s' hs).names, (hp s' hs).cnt, by rw [left_new hv]; exact primary_less (hr.symm.trans hs), (hp s' hs).wait, (hp s' hs).t⟩
theorem RdInv.in_lt (_h : RdInv E u v s fl) (hk : (peekF E.ts s.at').kind ≠ 0) : s.at' < E.ts.length := peek_lt hk

theorem number_rd (h : RdInv E u v s fl) (hv : s.hv = false) (hk : (peekF E.ts s.at').kind = 3) :
    Calls Tryd.prog 31 #[.pointer (some ⟨E.rb, 0, none⟩), tokW (peekF E.ts s.at')] u fun e u' => RdOut E u u' (primaryF (opsOf E.es) E.ts s) e := by
  have hr : primaryF (opsOf E.es) E.ts s = if (peekF E.ts s.at').n < 0 then .error s.at' else .ok ((s.go 1).done (intT (peekF E.ts s.at').n) 0) := by unfold primaryF; dsimp only; rw [if_pos hk]
  rw [hr]
  refine (number_out u E.rb v E.ts s E.B h.r fl h.row _ (h.in_lt (by rw [hk]; decide))).mono ?_
  rintro e u' ⟨hF, ho⟩
  refine h.prim' hv hF ho hr.symm fun s' hs => ?_
  split at hs
  · cases hs
  · injection hs with hs
    subst hs
    exact plain_done s _ _ _ (Nat.zero_le _)
theorem punct_rd (h : RdInv E u v s fl) (hv : s.hv = false) (hk : (peekF E.ts s.at').kind = 6) :
    Calls Tryd.prog 34 #[.pointer (some ⟨E.rb, 0, none⟩), tokW (peekF E.ts s.at')] u fun e u' => RdOut E u u' (primaryF (opsOf E.es) E.ts s) e := by
  have hr : primaryF (opsOf E.es) E.ts s = punctF E.ts s (peekF E.ts s.at').s := by unfold primaryF; dsimp only; rw [if_neg (by omega), if_neg (by omega), if_neg (by omega), if_pos hk]
  rw [hr]
  refine (punct_any u E.rb v E.ts s E.B h.r fl h.row (by have := h.waits; omega) _ (h.in_lt (by rw [hk]; decide)) (peek_short h.short _)).mono ?_
  rintro e u' ⟨hF, ho⟩
  exact h.prim' hv hF ho hr.symm fun s' hs => punct_plain h.short hs
theorem peek_num {ts : List Tok} (hs : ∀ t ∈ ts, (-9223372036854775808 ≤ t.n ∧ t.n ≤ 9223372036854775807) ∧ okI t.kind) (i : Nat) : (-9223372036854775808 ≤ (peekF ts i).n ∧ (peekF ts i).n ≤ 9223372036854775807) ∧ okI (peekF ts i).kind := by
  unfold peekF
  rw [List.getD_eq_getElem?_getD]
  cases h : ts[i]? with
  | none => simp [noTok, okI]
  | some t => exact hs t (List.mem_of_getElem? h)
theorem atom_rd (h : RdInv E u v s fl) (hv : s.hv = false) (hk : (peekF E.ts s.at').kind = 1 ∨ (peekF E.ts s.at').kind = 2) :
    Calls Tryd.prog 35 #[.pointer (some ⟨E.rb, 0, none⟩), tokW (peekF E.ts s.at')] u fun e u' => RdOut E u u' (primaryF (opsOf E.es) E.ts s) e := by
  have hr : primaryF (opsOf E.es) E.ts s = atomF (opsOf E.es) E.ts s (peekF E.ts s.at') := by unfold primaryF; dsimp only; rw [if_neg (by omega), if_neg (by omega), if_neg (by omega), if_neg (by omega), if_pos hk]
  rw [hr]
  have hc : Calls Tryd.prog 35 #[.pointer (some ⟨E.rb, 0, none⟩), tokW (peekF E.ts s.at')] u fun e u' => Fr (RW E.rb v) u u' ∧ PrimOut u' E.rb v E.ts s E.B fl (atomF (opsOf E.es) E.ts s (peekF E.ts s.at')) e := by
    by_cases hn : (peekF E.ts s.at').kind = 1 ∧ (peekF E.ts s.at').s = [45] ∧ (peekF E.ts (s.at' + 1)).kind = 3 ∧ (peekF E.ts (s.at' + 1)).tight = true
    · exact atom_neg u E.rb v E.ts s E.B h.r fl h.row _ E.es hn.1 hn.2.1 hn.2.2.1 hn.2.2.2 (peek_num h.num _).1.1 (peek_num h.num _).1.2
    · exact atom_pos u E.rb v E.ts s E.B h.r fl h.row (by have := h.waits; omega) _ E.bt E.bm E.es h.ops (h.in_lt (by omega)) (peek_short h.short _) (peek_short h.short _) hn
  refine hc.mono ?_
  rintro e u' ⟨hF, ho⟩
  exact h.prim' hv hF ho hr.symm fun s' hs => atom_plain (peek_short h.short _) hs
theorem fr_nil (hF : Fr (· = E.rb) u u') : Fr (WSet E v []) u u' := hF.weak fun _ hk => .inl hk
theorem nil_sub {fl : List FrV} : ∀ k ∈ ([] : List Nat), k ∈ opL fl := fun _ hk => by cases hk
theorem codes_rd (h : RdInv E u v s fl) (hv : s.hv = false) (hk : (peekF E.ts s.at').kind = 5) :
    Calls Tryd.prog 33 #[.pointer (some ⟨E.rb, 0, none⟩), tokW (peekF E.ts s.at')] u fun e u' => RdOut E u u' (primaryF (opsOf E.es) E.ts s) e := by
  have hr : primaryF (opsOf E.es) E.ts s = .ok ((s.go 1).done (listT ((peekF E.ts s.at').s.map fun c => intT c.toNat) nilT) 0) := by unfold primaryF; dsimp only; rw [if_neg (by omega), if_neg (by omega), if_pos hk]
  have hless : leftF E.ts ((s.go 1).done (listT ((peekF E.ts s.at').s.map fun c => intT c.toNat) nilT) 0) < leftF E.ts s := by rw [left_new hv]; exact primary_less hr
  rw [hr]
  refine (codes_any u E.rb v E.ts s E.B h.r _ (h.in_lt (by rw [hk]; decide)) (peek_short h.short _) (opE E fl) h.exl).mono ?_
  rintro e u' ⟨rfl, hF, y', h1, h2⟩
  have hF2 : Fr (fun k => k = E.rb ∨ v.wv.ownBlock = some k) u u' := hF.weak fun _ hk => .inl hk
  exact ⟨h.below nil_sub (fr_nil hF), rfl, _, fl, h.step nil_sub (fr_nil hF) h1 (WRow.fr h.row hF) rfl rfl rfl (h.keepV hF2) (h.keepN hF2) (fun b hb => .inl hb) (h.keepT hF2 fun b hb => .inl hb) h2 h.nd hless (fun w hw => .inl ⟨w, hw, by omega⟩) (.inl rfl) (by show s.names.length ≤ _; omega)⟩

theorem mget_find? (l : List (List UInt8 × Int)) (k : List UInt8) : mget l k = (l.find? (fun y => decide (y.1 = k))).map (·.2) := rfl
theorem varF_some {s : RdS} {x : List UInt8} {n : Int} (h : mget s.vars x = some n) : varF s x = s.done (varT n) 0 := by
  rw [mget_find?] at h
  unfold varF
  cases hf : s.vars.find? (fun y => decide (y.1 = x)) with
  | none => rw [hf] at h; cases h
  | some y =>
    rw [hf] at h
    injection h with h
    subst h
    rfl
theorem varF_none {s : RdS} {x : List UInt8} (h : mget s.vars x = none) : varF s x = (if x = [95] then { s with cnt := s.cnt + 1 } else { s with cnt := s.cnt + 1, vars := s.vars ++ [(x, s.cnt)], names := s.names ++ [(x, s.cnt)] }).done (varT s.cnt) 0 := by
  rw [mget_find?] at h
  unfold varF
  cases hf : s.vars.find? (fun y => decide (y.1 = x)) with
  | none => rfl
  | some y => rw [hf] at h; cases h
theorem named_rd (h : RdInv E u v s fl) (hv : s.hv = false) (hk : (peekF E.ts s.at').kind = 4) :
    Calls Tryd.prog 32 #[.pointer (some ⟨E.rb, 0, none⟩), tokW (peekF E.ts s.at')] u fun e u' => RdOut E u u' (primaryF (opsOf E.es) E.ts s) e := by
  have hr : primaryF (opsOf E.es) E.ts s = .ok (varF (s.go 1) (peekF E.ts s.at').s) := by unfold primaryF; dsimp only; rw [if_neg (by omega), if_pos hk]
  have hat : s.at' < E.ts.length := h.in_lt (by rw [hk]; decide)
  have hok : okS (peekF E.ts s.at').s := peek_short h.short _
  cases hm : mget s.vars (peekF E.ts s.at').s with
  | some n =>
    have hr2 := hr
    rw [varF_some (show mget (s.go 1).vars _ = some n from hm)] at hr2
    rw [hr2]
    refine (named_known u E.rb v E.ts s E.B h.r _ hat E.mb h.vb h.vars h.mbr hok n hm).mono ?_
    rintro e u' ⟨rfl, h1, hF⟩
    have hF2 : Fr (fun k => k = E.rb ∨ v.wv.ownBlock = some k) u u' := hF.weak fun _ hk => .inl hk
    refine h.prim' hv hF2 ⟨rfl, _, h1, rfl, rfl, rfl, rfl, rfl, rfl, rfl, .inr ⟨rfl, rfl, WRow.fr h.row hF, 1, n, [], rfl, rfl⟩⟩ hr2.symm fun s' hs => ?_
    injection hs with hs
    subst hs
    exact plain_done s _ _ _ (Nat.zero_le _)
  | none =>
    have hc1 : s.cnt ≤ 1000000 := by have := h.cn; omega
    by_cases hx : (peekF E.ts s.at').s = [95]
    · have hr2 := hr
      rw [varF_none (show mget (s.go 1).vars _ = none from hm), if_pos hx] at hr2
      have hless := primary_less hr2
      rw [← left_new hv] at hless
      rw [hr2]
      refine (named_blank u E.rb v E.ts s E.B h.r _ hat E.mb h.vb h.vars h.mbr hx hm h.c0 hc1).mono ?_
      rintro e u' ⟨rfl, h1, hF⟩
      have hF2 : Fr (fun k => k = E.rb ∨ v.wv.ownBlock = some k) u u' := hF.weak fun _ hk => .inl hk
      exact ⟨h.below nil_sub (fr_nil hF), rfl, _, fl, h.step nil_sub (fr_nil hF) h1 (WRow.fr h.row hF) rfl rfl rfl (h.keepV hF2) (h.keepN hF2) (fun b hb => .inl hb) (h.keepT hF2 fun b hb => .inl hb) (.leaf _ _ _ _ _ _ _ (Nat.zero_le _)) h.nd hless (fun w hw => .inl ⟨w, hw, by omega⟩) (.inr rfl) (by show s.names.length ≤ _; omega)⟩
    · have hr2 := hr
      rw [varF_none (show mget (s.go 1).vars _ = none from hm), if_neg hx] at hr2
      have hless := primary_less hr2
      rw [← left_new hv] at hless
      rw [hr2]
      refine (named_new u E.rb v E.ts s E.B h.r _ hat E.mb h.vb h.vars h.mbr h.Bmb hok hx hm h.c0 hc1 h.nm (by have := h.nn; omega) (fun e => h.vars.map.ne (h.nm.ty e) rfl)).mono ?_
      rintro e u' ⟨rfl, nv', h1, h2, h3, hF⟩
      have hF2 : Fr (WSet E v []) u u' := hF.weak fun _ hk => hk.elim .inl fun e => e.elim (fun e => .inr (.inr (.inr (.inl e)))) fun e => .inr (.inr (.inl e))
      have hrow : WRow u' E.rb v.wv fl := Row.keep h.row fun k hk => hF.block k (h.row.lt k hk).2 (by
        rintro (e | e | e)
        · have := (h.row.lt k hk).1; omega
        · exact h.vars.map.ne (h.row.ty hk) e.symm
        · exact (h.row.ty hk).ne (h.nm.ty e) (by decide) rfl)
      have htie : Ties u' E.rb (SOf u' (opE E fl)) fl.reverse s.wait := h.tie.step (fun f hf k hk => by
        obtain ⟨h4, h5⟩ := h.tie.ty f hf k hk
        refine hF.block k h4.lt ?_
        rintro (e | e | e)
        · omega
        · exact h.vars.map.ne h4 e.symm
        · exact h4.ne (h.nm.ty e) (by decide) rfl) (h.keepS nil_sub hF2 fun b hb => .inl hb)
      exact ⟨h.below nil_sub hF2, rfl, _, fl, h.step nil_sub hF2 h1 hrow rfl rfl rfl h3 h2 (fun b hb => .inl hb) htie (.leaf _ _ _ _ _ _ _ (Nat.zero_le _)) h.nd hless (fun w hw => .inl ⟨w, hw, by omega⟩) (.inr rfl) (by show (s.names ++ _).length ≤ _; simp)⟩
end
end Go.Proofs.YtmgidfndifhcoaaDoor
