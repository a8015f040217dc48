import Derived.Test.YtmgidfndifhcoaaDoorJReadRight00
import Derived.Test.YtmgidfndifhcoaaDoorJReadBrackets17
import Derived.Test.YtmgidfndifhcoaaDoorJReadBrackets07
import Derived.Test.YtmgidfndifhcoaaDoorJReadBrackets30
import Derived.Test.YtmgidfndifhcoaaDoorJReadBrackets08
import Derived.BigQuiet
import Derived.Deep.Heap
/-
  What may be said of any clause that is read: its variables are numbered as they come, its names are each another; it ends at a Stop. Plain laws; no condition.
-/
namespace Go.Proofs.YtmgidfndifhcoaaDoor

/-- A frame that waits is one of the seven sorts. -/
def okF (f : WaitF) : Prop := (f.use = 5 ∨ f.use = 6 ∨ f.use = 0 ∨ f.use = 1 ∨ f.use = 2 ∨ f.use = 3 ∨ f.use = 4) ∧ (f.use = 0 ∨ f.use = 1 ∨ f.use = 5 → f.l = [])
def UseOk (s : RdS) : Prop := ∀ f ∈ s.wait, okF f
section
variable {o : OpsF} {ts : List Tok} {s s' : RdS}
theorem use_await (h : UseOk s) (f : WaitF) (m : Int) (n : Nat) (hf : okF f) : UseOk ((s.go n).await f m) := by
  intro g hg
  rcases List.mem_cons.1 (show g ∈ { f with most := s.most } :: s.wait from hg) with rfl | hg
  · exact hf
  · exact h g hg
theorem args_use (h : UseOk s) {n : List UInt8} (ha : argsF ts s n = .ok s') : UseOk s' := by
  obtain ⟨rfl, _⟩ := args_ok ha
  exact use_await h _ _ 1 ⟨by simp, fun _ => rfl⟩
theorem pair_use (h : UseOk s) {c : UInt8} (ha : pairF ts s c = .ok s') : UseOk s' := by
  unfold pairF at ha
  dsimp only at ha
  split at ha
  · exact args_use (s := s.go 2) h ha
  · injection ha with ha
    subst ha
    exact h
theorem punct_use (h : UseOk s) {x : List UInt8} (ha : punctF ts s x = .ok s') : UseOk s' := by
  unfold punctF at ha
  split at ha
  · injection ha with ha
    subst ha
    exact use_await h _ _ 1 ⟨by simp, fun _ => rfl⟩
  · split at ha
    · split at ha
      · exact pair_use h ha
      · injection ha with ha
        subst ha
        exact use_await h _ _ 1 ⟨by simp, fun _ => rfl⟩
    · split at ha
      · split at ha
        · exact pair_use h ha
        · injection ha with ha
          subst ha
          exact use_await h _ _ 1 ⟨by simp, fun _ => rfl⟩
      · cases ha
theorem atom_use (h : UseOk s) {t : Tok} (ha : atomF o ts s t = .ok s') : UseOk s' := by
  unfold atomF at ha
  dsimp only at ha
  split at ha
  · injection ha with ha
    subst ha
    exact h
  · split at ha
    · exact args_use (s := s.go 1) h ha
    · split at ha
      · injection ha with ha
        subst ha
        exact use_await h _ _ 1 ⟨by simp, fun _ => rfl⟩
      · injection ha with ha
        subst ha
        exact h
theorem primary_use (h : UseOk s) (ha : primaryF o ts s = .ok s') : UseOk s' := by
  unfold primaryF at ha
  dsimp only at ha
  split at ha
  · split at ha
    · cases ha
    · injection ha with ha
      subst ha
      exact h
  · split at ha
    · injection ha with ha
      subst ha
      intro f hf
      rw [(var_at (s.go 1) (peekF ts s.at').s).2.1] at hf
      exact h f hf
    · split at ha
      · injection ha with ha
        subst ha
        exact h
      · split at ha
        · exact punct_use h ha
        · split at ha
          · exact atom_use h ha
          · cases ha
theorem operator_use (h : UseOk s) (ha : operatorF o ts s = some s') : UseOk s' := by
  unfold operatorF at ha
  dsimp only at ha
  split at ha
  · cases ha
  · split at ha
    · injection ha with ha
      subst ha
      exact use_await h _ _ 1 ⟨by simp, fun e => by simp at e⟩
    · split at ha
      · injection ha with ha
        subst ha
        exact h
      · cases ha
theorem expect_use {c : UInt8} {f : RdS → RdS} (h : (s.expect ts c).map f = .ok s') (hf : ∀ x : RdS, (f x).wait = x.wait) (hu : UseOk s) : UseOk s' := by
  obtain ⟨rfl, _⟩ := expect_map h
  intro g hg
  rw [hf] at hg
  exact hu g hg
theorem backG_use {f : WaitF} (h : UseOk s) (_hf : okF f) (ha : backG ts s f = .ok s') : UseOk s' := by
  have again : ∀ (g : WaitF), (g.use = 2 ∨ g.use = 3 ∨ g.use = 4) → ∀ m, UseOk ((s.go 1).again g m) := fun g hg m x hx => by
    rcases List.mem_cons.1 (show x ∈ g :: s.wait from hx) with rfl | hx
    · exact ⟨by omega, fun e => by omega⟩
    · exact h x hx
  unfold backG at ha
  dsimp only at ha
  split at ha
  · exact expect_use ha (fun _ => rfl) h
  · split at ha
    · exact expect_use ha (fun _ => rfl) h
    · split at ha
      · injection ha with ha
        subst ha
        exact h
      · split at ha
        · injection ha with ha
          subst ha
          exact h
        · split at ha
          · rename_i h2
            split at ha
            · injection ha with ha
              subst ha
              exact again ⟨f.use, f.most, f.name, f.pri, f.l ++ [s.t]⟩ (.inl h2) _
            · exact expect_use ha (fun _ => rfl) h
          · split at ha
            · rename_i h3
              split at ha
              · injection ha with ha
                subst ha
                exact again ⟨f.use, f.most, f.name, f.pri, f.l ++ [s.t]⟩ (.inr (.inl h3)) _
              · split at ha
                · injection ha with ha
                  subst ha
                  exact again _ (.inr (.inr rfl)) _
                · exact expect_use ha (fun _ => rfl) h
            · split at ha
              · exact expect_use ha (fun _ => rfl) h
              · injection ha with ha
                subst ha
                exact h
theorem round_num (hn : NumOk s) (hu : UseOk s) (h : roundF o ts s = .on s') : NumOk s' ∧ UseOk s' := by
  unfold roundF at h
  split at h
  · rename_i hv
    have := toO_on h
    exact ⟨primary_num hv hn this, primary_use hu this⟩
  · rename_i hv
    have hv : s.hv = true := by simpa using hv
    split at h
    · rename_i x hx
      injection h with h
      subst h
      exact ⟨operator_num hv hn hx, operator_use hu hx⟩
    · split at h
      · rename_i f r hw
        have hb := toO_on h
        have hf : okF f := hu f (by rw [hw]; exact List.mem_cons_self ..)
        have hr : UseOk { s with wait := r, most := f.most } := fun g hg => hu g (by rw [hw]; exact List.mem_cons_of_mem _ hg)
        refine ⟨?_, backG_use hr hf hb⟩
        have hp := backG_pops hb hf.1 hf.2
        refine hn.keep ?_ hp.cnt hp.vars hp.names
        rw [hp.occ, occ_old hv, hw]
        show occW r ++ (varsL f.l ++ varsT s.t) = (occW r ++ varsL f.l) ++ varsT s.t
        rw [List.append_assoc]
      · split at h
        · cases h
        · cases h
end
theorem end_num (o : OpsF) (ts : List Tok) : ∀ (n : Nat) (s sf : RdS), leftF ts s ≤ n → NumOk s → UseOk s → endF o ts s = .fin sf → NumOk sf ∧ sf.occ = varsT sf.t
  | n, s, sf, hn, hk, hu, he => by
    rw [end_step] at he
    cases hr : roundF o ts s with
    | on s1 =>
      rw [hr] at he
      have hl := round_less hr
      obtain ⟨h1, h2⟩ := round_num hk hu hr
      match n, hn with
      | 0, hn => omega
      | n + 1, hn => exact end_num o ts n s1 sf (by omega) h1 h2 he
    | fin s1 =>
      rw [hr] at he
      injection he with he
      subst he
      obtain ⟨rfl, hv, _, hw, _⟩ := round_fin hr
      refine ⟨hk, ?_⟩
      rw [occ_old hv, hw]
      rfl
    | bad a => rw [hr] at he; cases he
theorem start_num (i : Nat) : NumOk (startF i) := by
  refine ⟨⟨0, rfl, rfl⟩, rfl, fun y hy => ?_, List.Pairwise.nil, List.Pairwise.nil, fun y hy => ?_⟩
  · cases hy
  · cases hy
/-- All that ReadRight asks of a clause. -/
structure RightOk (ts : List Tok) (c : ClauseF) : Prop where
  may : c.t.may = true
  deep : c.t.deep ≤ 2000
  size : c.t.size ≤ 20000
  next : ∃ k : Nat, 1 ≤ k ∧ k < ts.length ∧ c.next = (k : Int) + 1 ∧ (peekF ts k).kind = 7
  line : c.line = (peekF ts 0).line
  vars : ∃ k : Nat, firsts [] (varsT c.t) = upTo k
  low : ∀ y ∈ c.names, 0 ≤ y.2
  up : c.names.Pairwise (fun a b => a.2 < b.2)
  once : c.names.Pairwise (fun a b => a.1 ≠ b.1)
  blank : ∀ y ∈ c.names, y.1 ≠ [95]
theorem read_right {o : OpsF} {ts : List Tok} {c : ClauseF} (hr : readF o ts ((0 : Nat) : Int) = (c, 0)) : RightOk ts c := by
  obtain ⟨hl, hk, sf, he, h1, h2, h3, rfl⟩ := read_ok hr
  have h7 := end_stop o ts _ _ _ (Nat.le_refl _) he
  obtain ⟨hn, ho⟩ := end_num o ts _ _ _ (Nat.le_refl _) (start_num 0) (fun f hf => by cases hf) he
  obtain ⟨⟨k, _, hf⟩, hs, hlw, hup, honce, hbl⟩ := hn
  rw [ho] at hf
  refine ⟨h1, h2, h3, ⟨sf.at', ?_, peek_lt (by rw [h7]; decide), rfl, h7⟩, rfl, ⟨k, hf⟩, fun y hy => ?_, ?_, ?_, fun y hy => ?_⟩
  · rcases Nat.eq_zero_or_pos sf.at' with h0 | h0
    · exfalso
      rw [h0] at h7
      rw [end_step] at he
      have hb : roundF o ts (startF 0) = .bad 0 := by
        unfold roundF primaryF
        rw [if_pos (show (startF 0).hv = false from rfl)]
        simp only
        rw [show (startF 0).at' = 0 from rfl, h7]
        rfl
      rw [hb] at he
      cases he
    · exact h0
  · exact (hlw y (by rw [← hs]; exact hy)).1
  · show sf.names.Pairwise _
    rw [hs]; exact hup
  · show sf.names.Pairwise _
    rw [hs]; exact honce
  · exact hbl y (by rw [← hs]; exact hy)
theorem read_wrong {o : OpsF} {ts : List Tok} {i : Int} {c : ClauseF} {e : Int} (hr : readF o ts i = (c, e)) (he : e ≠ 0) : c.t = noTm ∧ c.names = [] := by
  unfold readF at hr
  split at hr
  · injection hr with hr _
    subst hr
    exact ⟨rfl, rfl⟩
  · split at hr
    · injection hr with hr _
      subst hr
      exact ⟨rfl, rfl⟩
    · injection hr with hr _
      subst hr
      unfold failedF
      split
      · exact ⟨rfl, rfl⟩
      · exact ⟨rfl, rfl⟩
    · split at hr
      · injection hr with hr _
        subst hr
        exact ⟨rfl, rfl⟩
      · split at hr
        · injection hr with hr _
          subst hr
          exact ⟨rfl, rfl⟩
        · split at hr
          · injection hr with hr _
            subst hr
            exact ⟨rfl, rfl⟩
          · injection hr with _ hr
            exact absurd hr.symm he

theorem firsts_all : ∀ (l seen : List Int) (n : Int), n ∈ l → n ∈ firsts seen l
  | m :: l, seen, n, h => by
    rw [firsts]
    rcases List.mem_cons.1 h with rfl | h
    · split
      · rename_i hm
        exact firsts_mem l seen _ hm
      · exact firsts_mem l _ _ (List.mem_append_right _ (List.mem_singleton.2 rfl))
    · split
      · exact firsts_all l seen n h
      · exact firsts_all l _ n h
theorem firsts_len : ∀ (l seen : List Int), (firsts seen l).length ≤ seen.length + l.length
  | [], _ => Nat.le_refl _
  | m :: l, seen => by
    rw [firsts, List.length_cons]
    split
    · have := firsts_len l seen; omega
    · have := firsts_len l (seen ++ [m])
      rw [List.length_append, List.length_singleton] at this
      omega
section
variable {o : OpsF} {ts : List Tok} {s s' : RdS} {M : Nat}
def NmShort (M : Nat) (s : RdS) : Prop := ∀ y ∈ s.names, y.1.length ≤ M
theorem peekShort (h : ∀ t ∈ ts, t.s.length ≤ M) (i : Nat) : (peekF ts i).s.length ≤ M := by
  rcases Nat.lt_or_ge i ts.length with h1 | h1
  · exact h _ (peek_mem h1)
  · unfold peekF
    rw [List.getD_eq_getElem?_getD, List.getElem?_eq_none h1]
    exact Nat.zero_le _
theorem round_short (ht : ∀ t ∈ ts, t.s.length ≤ M) (hn : NmShort M s) (h : roundF o ts s = .on s') : NmShort M s' := by
  have keep : s'.names = s.names → NmShort M s' := fun e y hy => hn y (by rw [← e]; exact hy)
  unfold roundF at h
  split at h
  · have hp := toO_on h
    unfold primaryF at hp
    dsimp only at hp
    split at hp
    · split at hp
      · cases hp
      · injection hp with hp
        subst hp
        exact keep rfl
    · split at hp
      · injection hp with hp
        subst hp
        intro y hy
        unfold varF at hy
        split at hy
        · exact hn y hy
        · dsimp only at hy
          split at hy
          · exact hn y hy
          · rcases List.mem_append.1 (show y ∈ s.names ++ [((peekF ts s.at').s, s.cnt)] from hy) with hy | hy
            · exact hn y hy
            · rw [List.mem_singleton] at hy
              subst hy
              exact peekShort ht _
      · split at hp
        · injection hp with hp
          subst hp
          exact keep rfl
        · split at hp
          · exact keep (punct_keeps hp).names
          · split at hp
            · exact keep (atom_keeps hp).names
            · cases hp
  · split at h
    · rename_i x hx
      injection h with h
      subst h
      exact keep (operator_names hx)
    · split at h
      · rename_i f r hw
        have := backG_names (toO_on h)
        exact keep this
      · split at h
        · cases h
        · cases h
end
theorem end_short (o : OpsF) (ts : List Tok) (M : Nat) (ht : ∀ t ∈ ts, t.s.length ≤ M) : ∀ (n : Nat) (s sf : RdS), leftF ts s ≤ n → NmShort M s → endF o ts s = .fin sf → NmShort M sf
  | n, s, sf, hn, hk, he => by
    rw [end_step] at he
    cases hr : roundF o ts s with
    | on s1 =>
      rw [hr] at he
      have hl := round_less hr
      match n, hn with
      | 0, hn => omega
      | n + 1, hn => exact end_short o ts M ht n s1 sf (by omega) (round_short ht hk hr) he
    | fin s1 =>
      rw [hr] at he
      injection he with he
      subst he
      obtain ⟨rfl, _, _, _, _⟩ := round_fin hr
      exact hk
    | bad a => rw [hr] at he; cases he
theorem read_short {o : OpsF} {ts : List Tok} {c : ClauseF} {M : Nat} (ht : ∀ t ∈ ts, t.s.length ≤ M) (hr : readF o ts ((0 : Nat) : Int) = (c, 0)) : ∀ y ∈ c.names, y.1.length ≤ M := by
  obtain ⟨_, _, sf, he, _, _, _, rfl⟩ := read_ok hr
  exact end_short o ts M ht _ _ _ (Nat.le_refl _) (fun y hy => by cases hy) he
end Go.Proofs.YtmgidfndifhcoaaDoor
/-
  From and the document's Same, of clauses: a clause as the document tells it; the same clauses are the same. Conditions: the names can be read and are few; the terms are small.
-/
namespace Go.Proofs.YtmgidfndifhcoaaDoor
open Go.RowKit Go.Maps
set_option maxRecDepth 100000

theorem bind_info2 : ∃ i z, Tryd.prog.info? 99 = some i ∧ i.zero = some z ∧ i.size = 2 ∧ i.bytes = 24 ∧ z.cells.size = 2 := by
  refine ⟨_, _, rfl, rfl, ?_, ?_, ?_⟩ <;> kernel_rfl
theorem encB_len2 (x : List UInt8 × Int) : (encB x).length = 2 := rfl
theorem cell_allocF (w : World) (o : Obj) (cs : Array Value) (t : TypeId) (i : Nat) (u : Value) (h : cs[i]? = some u) : ((w.alloc o).alloc (.cells cs t)).cell? ⟨w.heap.size + 1, i, none⟩ = some u := by
  rw [cell_of_row _ (w.heap.size + 1) i _ t (0, 0) (by have := heap_alloc_new (w.alloc o) (.cells cs t); rwa [World.size_alloc] at this)]
  exact h
/-- Names that can be read. -/
structure NmAt (w : World) (B : Nat) (A : Option Addr) (n : Nat) (l : List (List UInt8 × Int)) : Prop where
  len : l.length = n
  at' : ∀ (i : Nat) e, l[i]? = some e → ∃ b, A = some ⟨b, 0, none⟩ ∧ b < B ∧ w.cell? ⟨b, i * 2, none⟩ = some (.string ⟨e.1.toArray⟩) ∧ w.cell? ⟨b, i * 2 + 1, none⟩ = some (.int .i64 e.2)
theorem NmAt.of {w : World} {B : Nat} {t : TypeId} {A : Option Addr} {n c : Nat} {l : List (List UInt8 × Int)} (h : Row w B t 2 encB (.slice A n c) l) : NmAt w w.heap.size A n l := by
  refine ⟨h.len.symm, fun i e hi => ?_⟩
  obtain ⟨g, cap, hv, h1, h2, h3, h4⟩ := h.cells encB_len2 (by rintro rfl; simp at hi)
  injection hv with hA _ _
  exact ⟨g, hA, h2, (h4 i e hi 0 _ rfl).1, (h4 i e hi 1 _ rfl).1⟩
theorem NmAt.keep {w w' : World} {B B' : Nat} {A : Option Addr} {n : Nat} {l : List (List UInt8 × Int)} (h : NmAt w B A n l) (hB : B ≤ B') (hb : ∀ k, k < B → w'.heap[k]? = w.heap[k]?) : NmAt w' B' A n l := by
  refine ⟨h.len, fun i e hi => ?_⟩
  obtain ⟨b, e1, e2, e3, e4⟩ := h.at' i e hi
  exact ⟨b, e1, by omega, (World.cell?_of_block (a := ⟨b, i * 2, none⟩) (hb b e2)).trans e3, (World.cell?_of_block (a := ⟨b, i * 2 + 1, none⟩) (hb b e2)).trans e4⟩
theorem NmAt.later {w w' : World} {A : Option Addr} {n : Nat} {l : List (List UInt8 × Int)} (h : NmAt w w.heap.size A n l) (hb : Below w.heap.size w w') : NmAt w' w'.heap.size A n l := h.keep hb.size hb.block

structure FromInv (w : World) (x : TV) (fl fx : Int) (l : List (List UInt8 × Int)) (k : Nat) (wr : World) : Prop where
  below : Below w.heap.size w wr
  out : ∃ A c, Row wr (w.heap.size + 1 + 1 + 1) 99 2 encB (.slice A k c) (l.take k) ∧ wr.heap[w.heap.size + 1 + 1]? = some (.cells #[.int .i64 x.k, .int .i64 x.n, .string ⟨x.s.toArray⟩, .slice x.A x.len x.cap, .slice A k c, .int .i64 fl, .int .i64 fx] 49 (0, 0))
  res : wr.heap[w.heap.size + 1]? = some (.cells #[.int .i64 0, .int .i64 0, .string ⟨#[]⟩, .slice none 0 0, .slice none 0 0, .int .i64 0, .int .i64 0] 49 (0, 0))
  size : w.heap.size + 1 + 1 + 1 ≤ wr.heap.size

theorem blk_set_at {w : World} {b i : Nat} {cs : Array Value} {t : TypeId} {fr : Nat × Nat} (h : w.heap[b]? = some (.cells cs t fr)) (v : Value) : (w.setCell ⟨b, i, none⟩ v).heap[b]? = some (.cells (cs.setIfInBounds i v) t fr) := by
  simp [World.setCell, Array.getElem?_modify, h]
theorem FromInv.step {w wr w5 : World} {x : TV} {fl fx : Int} {l : List (List UInt8 × Int)} {k : Nat} (h : FromInv w x fl fx l k wr) {A A5 : Option Addr} {c c5 : Nat} {o1 o2 : Obj} {e : List UInt8 × Int}
    (hrow : Row wr (w.heap.size + 1 + 1 + 1) 99 2 encB (.slice A k c) (l.take k)) (hblk : wr.heap[w.heap.size + 1 + 1]? = some (.cells #[.int .i64 x.k, .int .i64 x.n, .string ⟨x.s.toArray⟩, .slice x.A x.len x.cap, .slice A k c, .int .i64 fl, .int .i64 fx] 49 (0, 0)))
    (hsn : l.take (k + 1) = l.take k ++ [e])
    (hrow5 : Row w5 (w.heap.size + 1 + 1 + 1) 99 2 encB (.slice A5 (k + 1) c5) (l.take k ++ [e])) (hg : ((wr.alloc o1).alloc o2).grownBy w5 (Value.slice A k c).ownBlock) :
    FromInv w x fl fx l (k + 1) (w5.setCell ⟨w.heap.size + 1 + 1, 4, none⟩ (.slice A5 (k + 1) c5)) ∧ w5.heap[w.heap.size + 1 + 1]? = some (.cells #[.int .i64 x.k, .int .i64 x.n, .string ⟨x.s.toArray⟩, .slice x.A x.len x.cap, .slice A k c, .int .i64 fl, .int .i64 fx] 49 (0, 0)) := by
  have hs := h.size
  have hF : Fr (fun k => w.heap.size + 1 + 1 + 1 ≤ k) wr w5 := ((((Fr.of_below (fun k => w.heap.size + 1 + 1 + 1 ≤ k) (Below.refl _ _)).alloc _).alloc _).grown hg fun g e => .inl (hrow.lt g e).1)
  have h2 : w5.heap[w.heap.size + 1 + 1]? = _ := (hF.block (w.heap.size + 1 + 1) (by omega) (by omega)).trans hblk
  have h1 : w5.heap[w.heap.size + 1]? = _ := (hF.block (w.heap.size + 1) (by omega) (by omega)).trans h.res
  have hb : Below w.heap.size w w5 := h.below.trans (hF.below (by omega) fun k hk => by omega)
  have hsz : wr.heap.size ≤ w5.heap.size := hF.size
  refine ⟨⟨hb.setCell (p := ⟨w.heap.size + 1 + 1, 4, none⟩) (by simp only; omega) _, ⟨A5, c5, ?_, ?_⟩, ?_, ?_⟩, h2⟩
  · rw [hsn]
    exact hrow5.away _ fun k hk => by have := (hrow5.lt k hk).1; simp only; omega
  · exact blk_set_at h2 _
  · rw [Go.Deep.blk_setCell_other _ _ _ _ (by simp)]
    exact h1
  · rw [World.size_setCell]
    omega

theorem FromInv.start (w : World) (x : TV) (sv : Value) (fl fx : Int) (l : List (List UInt8 × Int)) : FromInv w x fl fx l 0 (((w.alloc (.cells #[.int .i64 x.k, .int .i64 x.n, .string ⟨x.s.toArray⟩, .slice x.A x.len x.cap, sv, .int .i64 fl, .int .i64 fx] 28)).alloc
    (.cells #[.int .i64 0, .int .i64 0, .string ⟨#[]⟩, .slice none 0 0, .slice none 0 0, .int .i64 0, .int .i64 0] 49)).alloc (.cells #[.int .i64 x.k, .int .i64 x.n, .string ⟨x.s.toArray⟩, .slice x.A x.len x.cap, .slice none 0 0, .int .i64 fl, .int .i64 fx] 49)) := by
  refine ⟨(((Below.refl _ _).alloc (Nat.le_refl _) _).alloc (by simp) _).alloc (by simp; omega) _, ⟨none, 0, Row.nil _ _ _ _ _, ?_⟩, ?_, by simp⟩
  · have := heap_alloc_new ((w.alloc (.cells #[.int .i64 x.k, .int .i64 x.n, .string ⟨x.s.toArray⟩, .slice x.A x.len x.cap, sv, .int .i64 fl, .int .i64 fx] 28)).alloc (.cells #[.int .i64 0, .int .i64 0, .string ⟨#[]⟩, .slice none 0 0, .slice none 0 0, .int .i64 0, .int .i64 0] 49)) (.cells #[.int .i64 x.k, .int .i64 x.n, .string ⟨x.s.toArray⟩, .slice x.A x.len x.cap, .slice none 0 0, .int .i64 fl, .int .i64 fx] 49)
    rw [World.size_alloc, World.size_alloc] at this
    exact this
  · rw [Below.heap_alloc _ _ _ (by simp)]
    have := heap_alloc_new (w.alloc (.cells #[.int .i64 x.k, .int .i64 x.n, .string ⟨x.s.toArray⟩, .slice x.A x.len x.cap, sv, .int .i64 fl, .int .i64 fx] 28)) (.cells #[.int .i64 0, .int .i64 0, .string ⟨#[]⟩, .slice none 0 0, .slice none 0 0, .int .i64 0, .int .i64 0] 49)
    rw [World.size_alloc] at this
    exact this

set_option maxHeartbeats 8000000 in
theorem from06_any (w : World) (x : TV) (A : Option Addr) (n c : Nat) (fl fx : Int) (l : List (List UInt8 × Int)) (hl : NmAt w w.heap.size A n l) (hn : n ≤ 100000) :
    Calls Tryd.prog 15 #[clV x (.slice A n c) fl fx] w fun e w' => ∃ A' c', e = .returned (clV x (.slice A' n c') fl fx) ∧ NmAt w' w'.heap.size A' n l ∧ Below w.heap.size w w' := by
  have HL := Lib.hid hl
  have HLN := Lib.hid hl.len
  clear hl
  obtain ⟨i0, z0, hi0, hz0, hz1, hz2, hz3⟩ := bind_info2
  unfold clV
  go_enter Tryd.func15, Tryd.ntmps15
  go_wp2_with fail
  go_loopw [16] (fun i wr => ∃ k : Nat, k ≤ n ∧ i = .int .i64 k ∧ Hid (FromInv w x fl fx l k wr)) (fun i _ => n - (intOf i).toNat)
  case atStart =>
    exact ⟨0, Nat.zero_le _, rfl, Lib.hid (FromInv.start w x _ fl fx l)⟩
  case round =>
    obtain ⟨k, hk, rfl, HI⟩ := hrel
    have hwr := HI.out.size
    have hlt2 : w.heap.size + 1 + 1 < wr.heap.size := Nat.lt_of_succ_le hwr
    by_cases hlt : k < n
    · have hkl : k < l.length := by rw [HLN.out]; exact hlt
      have hx := List.getElem?_eq_getElem hkl
      have htk : (l.take k).length = k := by rw [List.length_take]; omega
      have hsn := List.take_succ_eq_append_getElem hkl
      generalize l[k] = e at hx hsn
      obtain ⟨b, hA, hb, c0, c1⟩ := HL.out.at' k e hx
      rw [← HI.out.below.cell (p := ⟨b, k * 2, none⟩) hb] at c0
      rw [← HI.out.below.cell (p := ⟨b, k * 2 + 1, none⟩) hb] at c1
      have hlt' : (k : Int) < (n : Int) := by omega
      obtain ⟨Ar, cr, hrow, hblk⟩ := HI.out.out
      obtain ⟨y0, y1, y2, y3, y4, y5, y6, yf⟩ := seven_at hblk
      have HROW := Lib.hid hrow
      have HBLK := Lib.hid hblk
      have HSN := Lib.hid hsn
      have HTK := Lib.hid htk
      clear hx hsn hrow hblk htk
      subst hA
      have HSZ := Lib.hid hwr
      go_wp2_with (at_builtin; refine wpList_row rfl _ _ 47 rfl _ (w.heap.size + 1 + 1 + 1) 99 i0 z0 2 24 encB Tryd.underlying47 hi0 hz0 hz1 hz2 hz3 (by decide) encB_len2 encB_one _ (l.take k) e rfl ((HROW.out.alloc _).alloc _) _ _ rfl (fun j u hu => cell_allocF _ _ _ _ j u (by rw [← Array.getElem?_toList]; exact hu)) (by rw [HTK.out]; unfold maxLen; omega) (by rw [HTK.out]; omega) (Nat.le_trans HSZ.out (by simp; omega)) ?_)
      intro v' w5 hrow5 hg5
      obtain ⟨A5, c5, rfl⟩ := hrow5.shape
      rw [show (l.take k ++ [e]).length = k + 1 by rw [List.length_append, HTK.out]; rfl] at hrow5 ⊢
      obtain ⟨hI5, hblk5⟩ := HI.out.step HROW.out HBLK.out HSN.out hrow5 hg5
      have HI5 := Lib.hid hI5
      clear hI5 hrow5 hg5 y0 y1 y2 y3 y4 y5 y6 yf
      obtain ⟨y0, y1, y2, y3, y4, y5, y6, yf⟩ := seven_at hblk5
      clear hblk5
      go_wp2_with fail
      go_roundw
      case rel => exact ⟨k + 1, hlt, by go_num, HI5⟩
      case measure => simp [intOf]; omega
    · have hkn : k = n := by omega
      subst hkn
      obtain ⟨Ar, cr, hrow, hblk⟩ := HI.out.out
      have e1 : l.take k = l := List.take_of_length_le (by rw [HLN.out]; exact Nat.le_refl _)
      rw [e1] at hrow
      clear e1
      obtain ⟨y0, y1, y2, y3, y4, y5, y6, yf⟩ := seven_at hblk
      obtain ⟨z0, z1, z2, z3, z4, z5, z6, zf⟩ := seven_at HI.out.res
      have HROW := Lib.hid hrow
      clear hrow hblk yf
      go_wp2_with fail
      have hC7 := blk_set7 HI.out.res (.int .i64 x.k) (.int .i64 x.n) (.string ⟨x.s.toArray⟩) (.slice x.A x.len x.cap) (.slice Ar k cr) (.int .i64 fl) (.int .i64 fx)
      have hb7 := cl_below HI.out.below (w.heap.size + 1) (by omega) (.int .i64 x.k) (.int .i64 x.n) (.string ⟨x.s.toArray⟩) (.slice x.A x.len x.cap) (.slice Ar k cr) (.int .i64 fl) (.int .i64 fx)
      have hr7 : Row _ _ _ _ _ _ _ := HROW.out.keep fun g hg => blk_set7_ne (w := wr) (b := w.heap.size + 1) (.int .i64 x.k) (.int .i64 x.n) (.string ⟨x.s.toArray⟩) (.slice x.A x.len x.cap) (.slice Ar k cr) (.int .i64 fl) (.int .i64 fx) (by have := (HROW.out.lt g hg).1; omega)
      clear z0 z1 z2 z3 z4 z5 z6 zf
      obtain ⟨z0, z1, z2, z3, z4, z5, z6, zf⟩ := seven_at hC7
      exact ⟨rfl, _, by simp [results, Tryd.results15, go_sem, z0, z1, z2, z3, z4, z5, z6], Ar, cr, rfl, NmAt.of hr7, hb7⟩

set_option maxHeartbeats 8000000 in
theorem same06_any (w : World) (x y : TV) (t : Tm) (A1 A2 : Option Addr) (n c1 c2 : Nat) (fl fx : Int) (l : List (List UInt8 × Int)) (hx : TermAt w w.heap.size x t) (hy : TermAt w w.heap.size y t) (hs : t.size ≤ 10000000)
    (h1 : NmAt w w.heap.size A1 n l) (h2 : NmAt w w.heap.size A2 n l) (hn : n ≤ 100000) :
    Calls Tryd.prog 14 #[clV x (.slice A1 n c1) fl fx, clV y (.slice A2 n c2) fl fx] w fun e w' => e = .returned (.bool true) ∧ Below w.heap.size w w' := by
  have HX := Lib.hid hx
  have HY := Lib.hid hy
  have HL1 := Lib.hid h1
  have HL2 := Lib.hid h2
  have HLN := Lib.hid h1.len
  have HS := Lib.hid hs
  clear hx hy h1 h2 hs
  have e1 : (fl != fl) = false := by simp
  have e2 : (fx != fx) = false := by simp
  have e3 : ((n : Int) != (n : Int)) = false := by simp
  unfold clV
  go_enter Tryd.func14, Tryd.ntmps14
  go_wp2_with fail
  have hb2 := ((Below.refl w.heap.size w).alloc (Nat.le_refl _) (.cells #[.int .i64 x.k, .int .i64 x.n, .string ⟨x.s.toArray⟩, .slice x.A x.len x.cap, .slice A1 n c1, .int .i64 fl, .int .i64 fx] 49)).alloc (by simp) (.cells #[.int .i64 y.k, .int .i64 y.n, .string ⟨y.s.toArray⟩, .slice y.A y.len y.cap, .slice A2 n c2, .int .i64 fl, .int .i64 fx] 49)
  have hk1 := (Below.heap_alloc (w.alloc (.cells #[.int .i64 x.k, .int .i64 x.n, .string ⟨x.s.toArray⟩, .slice x.A x.len x.cap, .slice A1 n c1, .int .i64 fl, .int .i64 fx] 49)) (.cells #[.int .i64 y.k, .int .i64 y.n, .string ⟨y.s.toArray⟩, .slice y.A y.len y.cap, .slice A2 n c2, .int .i64 fl, .int .i64 fx] 49) w.heap.size (by simp)).trans (heap_alloc_new w _)
  have hk2 := heap_alloc_new (w.alloc (.cells #[.int .i64 x.k, .int .i64 x.n, .string ⟨x.s.toArray⟩, .slice x.A x.len x.cap, .slice A1 n c1, .int .i64 fl, .int .i64 fx] 49)) (.cells #[.int .i64 y.k, .int .i64 y.n, .string ⟨y.s.toArray⟩, .slice y.A y.len y.cap, .slice A2 n c2, .int .i64 fl, .int .i64 fx] 49)
  rw [World.size_alloc] at hk2
  have hsz2 : ((w.alloc (.cells #[.int .i64 x.k, .int .i64 x.n, .string ⟨x.s.toArray⟩, .slice x.A x.len x.cap, .slice A1 n c1, .int .i64 fl, .int .i64 fx] 49)).alloc (.cells #[.int .i64 y.k, .int .i64 y.n, .string ⟨y.s.toArray⟩, .slice y.A y.len y.cap, .slice A2 n c2, .int .i64 fl, .int .i64 fx] 49)).heap.size = w.heap.size + 1 + 1 := by simp
  generalize ((w.alloc (.cells #[.int .i64 x.k, .int .i64 x.n, .string ⟨x.s.toArray⟩, .slice x.A x.len x.cap, .slice A1 n c1, .int .i64 fl, .int .i64 fx] 49)).alloc (.cells #[.int .i64 y.k, .int .i64 y.n, .string ⟨y.s.toArray⟩, .slice y.A y.len y.cap, .slice A2 n c2, .int .i64 fl, .int .i64 fx] 49)) = W at hb2 hk1 hk2 hsz2 ⊢
  refine (same_any t.size t t x y W (Nat.le_refl _) HS.out HS.out (HX.out.later hb2) (HY.out.later hb2)).mono ?_
  rintro e w1 ⟨rfl, hb1⟩
  rw [sameTm_self]
  have hq1 := (hb1.block w.heap.size (by omega)).trans hk1
  have hq2 := (hb1.block (w.heap.size + 1) (by omega)).trans hk2
  have HB := Lib.hid (hb2.trans (hb1.mono hb2.size))
  obtain ⟨y0, y1, y2, y3, y4, y5, y6, -⟩ := seven_at hq1
  obtain ⟨z0, z1, z2, z3, z4, z5, z6, -⟩ := seven_at hq2
  clear hb2 hk1 hk2 hsz2 hb1 hq1 hq2
  go_wp2_with fail
  go_loopw [38] (fun i wr => ∃ k nq : Nat, k ≤ n ∧ i = .int .i64 k ∧ wr = w1.drewN nq) (fun i _ => n - (intOf i).toNat)
  case atStart => exact ⟨0, 0, Nat.zero_le _, rfl, rfl⟩
  case round =>
    obtain ⟨k, nq, hk, rfl, rfl⟩ := hrel
    by_cases hlt : k < n
    · have hkl : k < l.length := by rw [HLN.out]; exact hlt
      have hx := List.getElem?_eq_getElem hkl
      generalize l[k] = e at hx
      obtain ⟨b, hA1, hb, c0, c1⟩ := HL1.out.at' k e hx
      obtain ⟨b', hA2, hb', d0, d1⟩ := HL2.out.at' k e hx
      rw [← HB.out.cell (p := ⟨b, k * 2, none⟩) hb] at c0
      rw [← HB.out.cell (p := ⟨b, k * 2 + 1, none⟩) hb] at c1
      rw [← HB.out.cell (p := ⟨b', k * 2, none⟩) hb'] at d0
      rw [← HB.out.cell (p := ⟨b', k * 2 + 1, none⟩) hb'] at d1
      have hlt' : (k : Int) < (n : Int) := by omega
      clear hx e1 e2 e3
      subst hA1 hA2
      go_wp2_with fail
      go_quiet (fail)
      go_wp2
      go_roundw
      case rel => exact ⟨k + 1, _, hlt, by go_num, rfl⟩
      case measure => simp [intOf]; omega
    · have hkn : k = n := by omega
      subst hkn
      clear e1 e2 e3
      go_wp2
      go_ret
      exact ⟨rfl, below_drewN' HB.out nq⟩
end Go.Proofs.YtmgidfndifhcoaaDoor
/-
  The numbers that came: term.seen.number and take. Conditions: the numbers are of 64 bits and few.
-/
namespace Go.Proofs.YtmgidfndifhcoaaDoor
open Go.RowKit Go.Maps
set_option maxRecDepth 100000

def encN (x : Int) : List Value := [.int .i64 x]
theorem encN_len (x : Int) : (encN x).length = 1 := rfl
theorem encN_one (x : Int) : ∀ u ∈ encN x, u.oneCell' = true := by
  intro u hu
  simp only [encN, List.mem_cons, List.mem_nil_iff, or_false] at hu
  subst hu
  rfl
theorem i64_info : ∃ i z, Tryd.prog.info? 2 = some i ∧ i.zero = some z ∧ i.size = 1 ∧ i.bytes = 8 ∧ z.cells.size = 1 := by
  refine ⟨_, _, rfl, rfl, ?_, ?_, ?_⟩ <;> kernel_rfl
theorem i64KE : KE Tryd.prog 2 evI okI :=
  ⟨int_keyed Tryd.underlying2, fun _ hk => ⟨_, keyOf_int_mk Tryd.underlying2 (int_wf hk.1 hk.2)⟩, fun a b h => by simpa [evI] using h⟩

/-- The numbers, each with its place. -/
def idxF (l : List Int) (k : Nat) : List (Int × Int) := (l.zipIdx k).map fun p => (p.1, (p.2 : Int))
def idxL (l : List Int) : List (Int × Int) := idxF l 0
theorem idxL_snoc (l : List Int) (n : Int) : idxL (l ++ [n]) = idxL l ++ [(n, (l.length : Int))] := by
  unfold idxL idxF
  rw [List.zipIdx_append]
  simp
theorem mget_idxF (n : Int) : ∀ (l : List Int) (k : Nat), mget (idxF l k) n = if n ∈ l then some (((l.idxOf n + k : Nat)) : Int) else none
  | [], k => by simp [idxF, mget_nil]
  | x :: l, k => by
    have ih := mget_idxF n l (k + 1)
    unfold idxF at ih ⊢
    rw [List.zipIdx_cons, List.map_cons, mget_cons, ih]
    by_cases e : x = n
    · subst e
      simp
    · have e2 : ¬ n = x := fun h => e h.symm
      rw [if_neg e, List.idxOf_cons]
      have e3 : (x == n) = false := by simpa using e
      rw [e3]
      by_cases hm : n ∈ l
      · rw [if_pos hm, if_pos (List.mem_cons_of_mem _ hm)]
        simp only [cond_false]
        congr 2
        omega
      · rw [if_neg hm, if_neg (by simp [e2, hm])]
theorem mget_idxL (l : List Int) (n : Int) : mget (idxL l) n = if n ∈ l then some ((l.idxOf n : Nat) : Int) else none := mget_idxF n l 0
theorem idxL_keys (l : List Int) : (idxL l).map (·.1) = l := by
  unfold idxL idxF
  rw [List.map_map]
  have : ((fun x : Int × Int => x.1) ∘ fun p : Int × Nat => (p.1, (p.2 : Int))) = Prod.fst := rfl
  rw [this, List.zipIdx_map_fst]
def addN (l : List Int) (n : Int) : List Int := if n ∈ l then l else l ++ [n]
theorem firsts_one (l r : List Int) (n : Int) : firsts l (n :: r) = firsts (addN l n) r := by
  rw [firsts]
  unfold addN
  split <;> rfl
theorem addN_len (l : List Int) (n : Int) : (addN l n).length ≤ l.length + 1 := by
  unfold addN
  split
  · exact Nat.le_succ _
  · rw [List.length_append]; exact Nat.le_refl _

structure SeenAt (u : World) (B b mb : Nat) (l : List Int) : Prop where
  blk : ∃ A c, u.heap[b]? = some (.cells #[.slice A l.length c, .map (some mb)] 107 (0, 0)) ∧ Row u B 2 1 encN (.slice A l.length c) l
  map : MapAt u mb evI evI (idxL l)
  bB : b < B
  mB : mb < B
  ok : ∀ n ∈ l, okI n
theorem SeenAt.keep {u u' : World} {B b mb : Nat} {l : List Int} (h : SeenAt u B b mb l) (h1 : u'.heap[b]? = u.heap[b]?) (h2 : u'.heap[mb]? = u.heap[mb]?) (h3 : ∀ k, B ≤ k → TyB u 2 k → u'.heap[k]? = u.heap[k]?) : SeenAt u' B b mb l := by
  obtain ⟨A, c, k1, k2⟩ := h.blk
  exact ⟨⟨A, c, h1.trans k1, k2.keep fun g hg => h3 g (k2.lt g hg).1 (k2.ty hg)⟩, h.map.keep h2, h.bB, h.mB, h.ok⟩
theorem SeenAt.later {u u' : World} {B b mb : Nat} {l : List Int} (h : SeenAt u B b mb l) (hb : Below u.heap.size u u') : SeenAt u' B b mb l := by
  obtain ⟨A, c, k1, k2⟩ := h.blk
  exact h.keep (hb.block _ (Array.getElem?_eq_some_iff.1 k1).1) (hb.block _ h.map.lt) fun k _ hk => hb.block k hk.lt
theorem SeenAt.lt {u : World} {B b mb : Nat} {l : List Int} (h : SeenAt u B b mb l) : b < u.heap.size := by
  obtain ⟨A, c, k1, _⟩ := h.blk
  exact (Array.getElem?_eq_some_iff.1 k1).1
/-- What the numbers' own blocks are. -/
def SnS (w : World) (B b mb : Nat) (k : Nat) : Prop := k = b ∨ k = mb ∨ (B ≤ k ∧ TyB w 2 k)

theorem seen_look {u : World} {mb : Nat} {l : List Int} (hm : MapAt u mb evI evI (idxL l)) (hok : ∀ n ∈ l, okI n) (n : Int) (hn : okI n) :
    (Instr.lookup 105 (.map (some mb)) (.int .i64 n) true).run Tryd.prog u = .ok (.tuple #[.int .i64 (if n ∈ l then ((l.idxOf n : Nat) : Int) else 0), .bool (decide (n ∈ l))]) u := by
  have hk : ∀ x ∈ idxL l, okI x.1 := fun x hx => hok _ (by rw [← idxL_keys l]; exact List.mem_map_of_mem hx)
  have := hm.lookup (t := 105) i64KE Tryd.underlying105 (z := .int .i64 0) (fun u => by kernel_rfl) hk (k := n) hn true
  simp only [if_true] at this
  rw [mget_idxL] at this
  by_cases hm' : n ∈ l
  · rw [if_pos hm'] at this ⊢
    rw [decide_eq_true hm']
    exact this
  · rw [if_neg hm'] at this ⊢
    rw [decide_eq_false hm']
    exact this
theorem seen_put {u : World} {mb : Nat} {l : List Int} (hm : MapAt u mb evI evI (idxL l)) (hok : ∀ n ∈ l, okI n) (n : Int) (hn : okI n) (hx : n ∉ l) :
    ∃ w', (Instr.mapUpdate 105 (.map (some mb)) (.int .i64 n) (.int .i64 (l.length : Int))).run Tryd.prog u = .ok () w' ∧ MapAt w' mb evI evI (idxL (l ++ [n])) ∧ u.grownBy w' (some mb) ∧ w'.heap.size = u.heap.size := by
  have hk : ∀ x ∈ idxL l, okI x.1 := fun x hx => hok _ (by rw [← idxL_keys l]; exact List.mem_map_of_mem hx)
  obtain ⟨w', h1, h2, h3, h4⟩ := MapAt.update (P := Tryd.prog) (t := 105) i64KE Tryd.underlying105 hm hk (k := n) hn (l.length : Int)
  have hp : mput (idxL l) n (l.length : Int) = idxL (l ++ [n]) := by
    rw [idxL_snoc]
    unfold mput
    rw [mget_idxL, if_neg hx]
    simp
  rw [hp] at h2
  exact ⟨w', h1, h2, h3, h4⟩

set_option maxHeartbeats 4000000 in
theorem number_old (w : World) (B b mb : Nat) (l : List Int) (h : SeenAt w B b mb l) (n : Int) (hn : okI n) (hm : n ∈ l) :
    Calls Tryd.prog 70 #[.pointer (some ⟨b, 0, none⟩), .int .i64 n] w fun e w' => e = .returned (.int .i64 (l.idxOf n : Int)) ∧ w' = w := by
  obtain ⟨A, c, hb, hr⟩ := h.blk
  have hlk := seen_look h.map h.ok n hn
  rw [if_pos hm, decide_eq_true hm] at hlk
  have c1 : w.cell? ⟨b, 1, none⟩ = some (.map (some mb)) := by rw [cell_of_row w b 1 _ _ (0, 0) hb]; rfl
  clear hr hb h
  go_enter Tryd.func70, Tryd.ntmps70
  go_wp2_with fail
  go_ret
  exact ⟨rfl, rfl⟩
set_option maxHeartbeats 4000000 in
theorem number_new (w : World) (B b mb : Nat) (l : List Int) (h : SeenAt w B b mb l) (n : Int) (hn : okI n) (hm : n ∉ l) (hl : l.length ≤ 100000000) (hB : B ≤ w.heap.size) :
    Calls Tryd.prog 70 #[.pointer (some ⟨b, 0, none⟩), .int .i64 n] w fun e w' => e = .returned (.int .i64 (l.length : Int)) ∧ SeenAt w' B b mb (l ++ [n]) ∧ Fr (SnS w B b mb) w w' := by
  obtain ⟨A, c, hb, hr⟩ := h.blk
  have hlk := seen_look h.map h.ok n hn
  rw [if_neg hm, decide_eq_false hm] at hlk
  obtain ⟨w1, hup, hM1, hG1, hs1⟩ := seen_put h.map h.ok n hn hm
  have hbl := h.lt
  have hne : b ≠ mb := by
    intro e
    exact h.map.ne (b' := b) (t := 107) ⟨_, hb⟩ e.symm
  have hb1 : w1.heap[b]? = some (.cells #[.slice A l.length c, .map (some mb)] 107 (0, 0)) := (hG1.block b hbl (fun e => hne (by injection e))).trans hb
  have hr1 : Row w1 B 2 1 encN (.slice A l.length c) l := hr.keep fun k hk => hG1.block k (hr.lt k hk).2 (fun e => by have h1 := (hr.lt k hk).1; have h2 := h.mB; injection e with e; omega)
  have c0 : w.cell? ⟨b, 0, none⟩ = some (.slice A l.length c) := by rw [cell_of_row w b 0 _ _ (0, 0) hb]; rfl
  have c1 : w.cell? ⟨b, 1, none⟩ = some (.map (some mb)) := by rw [cell_of_row w b 1 _ _ (0, 0) hb]; rfl
  have d0 : w1.cell? ⟨b, 0, none⟩ = some (.slice A l.length c) := by rw [cell_of_row w1 b 0 _ _ (0, 0) hb1]; rfl
  have hbl1 : b < w1.heap.size := by omega
  have HR1 := Lib.hid hr1
  have HM1 := Lib.hid hM1
  have HG1 := Lib.hid hG1
  have HB1 := Lib.hid hb1
  have HH := Lib.hid h
  have HS1 := Lib.hid hs1
  have HBw := Lib.hid hB
  have HLL := Lib.hid hl
  have HOK := Lib.hid hn
  have HNE := Lib.hid hne
  obtain ⟨i0, z0, hi0, hz0, hz1, hz2, hz3⟩ := i64_info
  clear hr hr1 hM1 hG1 h hb hb1 hs1 hB
  go_enter Tryd.func70, Tryd.ntmps70
  go_wp2_with (at_builtin; refine wpList_row rfl _ _ 58 rfl _ B 2 i0 z0 1 8 encN Tryd.underlying58 hi0 hz0 hz1 hz2 hz3 (by decide) encN_len encN_one _ l n rfl (HR1.out.alloc _) _ _ rfl (fun j u hu => cell_made w1 _ _ j u (by rw [← Array.getElem?_toList]; exact hu)) (by have := HLL.out; unfold maxLen; omega) (by have := HLL.out; omega) (by have := HBw.out; have := HS1.out; simp; omega) ?_)
  intro v' w5 hrow5 hg5
  obtain ⟨A5, c5, rfl⟩ := hrow5.shape
  have hlt5 : b < (w1.alloc (.cells #[.int .i64 n] 2)).heap.size := by simp; omega
  have hown : ∀ g, (Value.slice A l.length c).ownBlock = some g → B ≤ g ∧ TyB w 2 g := fun g hg => by
    have h1 := HR1.out.lt g hg
    obtain ⟨cs, h2⟩ := HR1.out.ty hg
    have h3 := HG1.out.block g (by have := HS1.out; omega) (fun e => by have h4 := HH.out.mB; injection e with e; omega)
    exact ⟨h1.1, cs, h3.symm.trans h2⟩
  have hb5 : w5.heap[b]? = some (.cells #[.slice A l.length c, .map (some mb)] 107 (0, 0)) := by
    rw [hg5.block b hlt5 (fun e => by have h1 := (hown b e.symm).1; have h2 := HH.out.bB; omega), Below.heap_alloc _ _ _ hbl1]
    exact HB1.out
  have hm5 : w5.heap[mb]? = w1.heap[mb]? := by
    have := HM1.out.lt
    rw [hg5.block mb (by simp; omega) (fun e => by have h1 := (hown mb e.symm).1; have h2 := HH.out.mB; omega), Below.heap_alloc _ _ _ this]
  have e0 : w5.cell? ⟨b, 0, none⟩ = some (.slice A l.length c) := by rw [cell_of_row w5 b 0 _ _ (0, 0) hb5]; rfl
  have ef : w5.frozen? ⟨b, 0, none⟩ = false := by simp [World.frozen?, hb5]
  have hF : Fr (SnS w B b mb) w w5 := (((Fr.refl (SnS w B b mb) w).grown HG1.out fun g e => .inl (by cases e; exact .inr (.inl rfl))).alloc _).grown hg5 fun g e => .inl (.inr (.inr (hown g e)))
  have hS6 : SeenAt (w5.setCell ⟨b, 0, none⟩ (.slice A5 (l ++ [n]).length c5)) B b mb (l ++ [n]) := by
    refine ⟨⟨A5, c5, blk_put hb5 _, hrow5.away _ fun k hk => by have h1 := (hrow5.lt k hk).1; have h2 := HH.out.bB; simp only; omega⟩, ?_, HH.out.bB, HH.out.mB, fun x hx => ?_⟩
    · exact (HM1.out.keep hm5).setCell (p := ⟨b, 0, none⟩) (by simp only; exact fun e => HNE.out e.symm) _
    · rcases List.mem_append.1 hx with hx | hx
      · exact HH.out.ok x hx
      · rw [List.mem_singleton] at hx
        subst hx
        exact HOK.out
  have HS6 := Lib.hid hS6
  have HF6 := Lib.hid (hF.setCell (p := ⟨b, 0, none⟩) (.inl (.inl rfl)) (.slice A5 (l ++ [n]).length c5))
  clear hrow5 hg5 hown hb5 hm5 hF hS6 c0 c1 d0
  generalize (l ++ [n]).length = m5 at HS6 HF6 ⊢
  go_wp2_with fail
  go_ret
  exact ⟨rfl, HS6.out, HF6.out⟩

theorem nseen_any (w : World) (B b mb : Nat) (l : List Int) (h : SeenAt w B b mb l) (n : Int) (hn : okI n) (hl : l.length ≤ 100000000) (hB : B ≤ w.heap.size) :
    Calls Tryd.prog 70 #[.pointer (some ⟨b, 0, none⟩), .int .i64 n] w fun e w' => e = .returned (.int .i64 (l.idxOf n : Int)) ∧ SeenAt w' B b mb (addN l n) ∧ Fr (SnS w B b mb) w w' := by
  unfold addN
  by_cases hm : n ∈ l
  · refine (number_old w B b mb l h n hn hm).mono ?_
    rintro e w' ⟨rfl, rfl⟩
    rw [if_pos hm]
    exact ⟨rfl, h, Fr.refl _ _⟩
  · refine (number_new w B b mb l h n hn hm hl hB).mono ?_
    rintro e w' ⟨rfl, h1, h2⟩
    rw [if_neg hm, List.idxOf_eq_length hm]
    exact ⟨rfl, h1, h2⟩

set_option maxHeartbeats 4000000 in
theorem takeS_any (w : World) (B b mb : Nat) (l : List Int) (h : SeenAt w B b mb l) (x : TV) (d : Nat) (hn : x.k = 1 → okI x.n) (hl : l.length ≤ 100000000) (hB : B ≤ w.heap.size) :
    Calls Tryd.prog 43 #[.pointer (some ⟨b, 0, none⟩), tvV x, .int .i64 d] w fun e w' => e = .returned (.tuple #[]) ∧ SeenAt w' B b mb (if x.k = 1 then addN l x.n else l) ∧ Fr (SnS w B b mb) w w' := by
  have HH := Lib.hid h
  have hbl := h.lt
  rw [tvV_lit]
  by_cases hk : x.k = 1
  · have HN := Lib.hid (hn hk)
    rw [if_pos hk]
    have hk' : (x.k == 1) = true := by rw [hk]; rfl
    clear h hn hk
    go_enter Tryd.func43, Tryd.ntmps43
    go_wp2_with fail
    refine (nseen_any _ B b mb l (HH.out.later ((Below.refl _ _).alloc (Nat.le_refl _) _)) x.n HN.out hl (by simp; omega)).mono ?_
    rintro e w' ⟨rfl, h1, h2⟩
    have H1 := Lib.hid h1
    have H2 : Hid (Fr (SnS w B b mb) w w') := Lib.hid (((Fr.refl (SnS w B b mb) w).alloc _).trans (h2.mono fun k hk e => by
      rcases e with e | e | ⟨e1, e2⟩
      · exact .inl e
      · exact .inr (.inl e)
      · by_cases hkw : k < w.heap.size
        · obtain ⟨cs, e3⟩ := e2
          rw [Below.heap_alloc _ _ _ hkw] at e3
          exact .inr (.inr ⟨e1, cs, e3⟩)
        · exfalso
          obtain ⟨cs, e3⟩ := e2
          simp at hk
          have : k = w.heap.size := by omega
          subst this
          have e4 := (heap_alloc_new w _).symm.trans e3
          injection e4 with e4
          injection e4 with _ e4
          exact absurd e4 (by decide)))
    clear h1 h2
    go_wp2_with fail
    go_end0
    exact ⟨rfl, H1.out, H2.out⟩
  · rw [if_neg hk]
    have hk' : (x.k == 1) = false := beq_eq_false_iff_ne.2 hk
    clear h hn hk
    go_enter Tryd.func43, Tryd.ntmps43
    go_wp2_with fail
    go_end0
    exact ⟨rfl, HH.out.later ((Below.refl _ _).alloc (Nat.le_refl _) _), (Fr.refl _ _).alloc _⟩
end Go.Proofs.YtmgidfndifhcoaaDoor
