/-
  The database's map of procedures: its keys can be read; what db.get answers. Conditions: the database's block holds a map of procedures; the name has at most maxLen bytes.
-/
import Derived.Test.YtiaajpfebcccfaaDbN
import Derived.Test.YtiaajpfebcccfaaMaps
import Derived.KernelRfl
namespace Go.Proofs.Ytiaajpfebcccfaa
open Go.RowKit Go.Maps
set_option maxRecDepth 100000

abbrev PK := List UInt8 × Int
def pk (k : PK) : Value := .agg #[.string ⟨k.1.toArray⟩, .int .i64 k.2]
def pv (b : Nat) : Value := .pointer (some ⟨b, 0, none⟩)
def okPK (k : PK) : Prop := k.1.length ≤ maxLen ∧ (-9223372036854775808 ≤ k.2 ∧ k.2 ≤ 9223372036854775807)
theorem pk_inj (a b : PK) (h : pk a = pk b) : a = b := by
  obtain ⟨a1, a2⟩ := a
  obtain ⟨b1, b2⟩ := b
  simp [pk] at h
  rw [h.1, h.2]
theorem dbLaid : laidOutB Try.prog = true := by kernel_rfl
theorem pkRow : (58 : TypeId) < Try.prog.types.size := of_decide_eq_true (by kernel_rfl)
theorem pkWide : (match Try.prog.underlying 58 with | some (.array _ _) | some (.struct _) => true | _ => false) = true := by kernel_rfl
theorem pkLaw : WideMaps.KeyLaw Try.prog 58 := deep_law_laid dbLaid (m := 2) (by omega) pkRow (by kernel_rfl) pkWide
theorem pkIs : Try.prog.keyType 58 = true := by kernel_rfl
theorem pkFields : ∃ f g, Try.prog.underlying 58 = some (.struct #[f, g]) ∧ f.type = 9 ∧ g.type = 3 ∧ f.offset = 0 ∧ g.offset = 1 ∧ (f.name != "_") = true ∧ (g.name != "_") = true := ⟨_, _, Try.underlying58, rfl, rfl, rfl, rfl, by decide, by decide⟩
theorem pkCells : Try.prog.cellsOf 58 = 2 := by kernel_rfl
theorem intCells : Try.prog.cellsOf 3 = 1 := by kernel_rfl
theorem stringCells : Try.prog.cellsOf 9 = 1 := by kernel_rfl
theorem pkTypes : ∃ m, Try.prog.types.size = m + 1 := ⟨Try.prog.types.size - 1, (Nat.succ_pred_eq_of_pos (Nat.lt_of_le_of_lt (Nat.zero_le _) pkRow)).symm⟩
theorem int_wf {a : Int} (h1 : -9223372036854775808 ≤ a) (h2 : a ≤ 9223372036854775807) : (Lit.int .i64 a).wf = true := by
  have e1 : IntKind.i64.min = -9223372036854775808 := by decide
  have e2 : IntKind.i64.max = 9223372036854775807 := by decide
  simp only [Lit.wf, Bool.and_eq_true, e1, e2]
  exact ⟨decide_eq_true h1, decide_eq_true h2⟩
theorem pkReads (k : PK) (h : okPK k) : ∃ l, keyOf Try.prog 58 (pk k) = some l := by
  obtain ⟨f, g, hu, f1, g1, f2, g2, f3, g3⟩ := pkFields
  obtain ⟨m, hm⟩ := pkTypes
  obtain ⟨h3, ⟨h1, h2⟩⟩ := h
  have hw := int_wf h1 h2
  unfold keyOf
  simp only [hu]
  rw [if_pos (by simp [pkIs, pk, Value.formed, hu, pkCells]), hm]
  refine ⟨.string (keyBytes [.string k.1, .int .i64 k.2]), ?_⟩
  unfold Program.keyLits
  simp only [hu, pk, Value.cells]
  rw [if_pos ⟨by rw [pkCells]; rfl, by simp [f3, g3]⟩]
  simp only [List.mapM_cons, List.mapM_nil, f1, g1, f2, g2, intCells, stringCells]
  simp [Program.keyLits, Try.underlying3, Try.underlying9, hw, ByteArray.size, h3]
theorem pkKE : KE Try.prog 58 pk okPK := ⟨Keyed.of_law pkLaw, pkReads, pk_inj⟩

/-- The database's block and map. -/
structure DbAt (w : World) (db mb : Nat) (time : Int) (es : List (PK × Nat)) (cv : Value) : Prop where
  blk : w.heap[db]? = some (.cells #[.int .i64 time, .map (some mb), cv] 44 (0, 0))
  map : MapAt w mb pk pv es
  ok : ∀ x ∈ es, okPK x.1
theorem DbAt.ne {w : World} {db mb : Nat} {time : Int} {es : List (PK × Nat)} {cv : Value} (h : DbAt w db mb time es cv) : db ≠ mb := by
  rintro rfl
  obtain ⟨es', clock, hb, _⟩ := h.map.blk
  rw [h.blk] at hb
  cases hb
theorem DbAt.keep {w w' : World} {db mb : Nat} {time : Int} {es : List (PK × Nat)} {cv : Value} (h : DbAt w db mb time es cv) (h1 : w'.heap[db]? = w.heap[db]?) (h2 : w'.heap[mb]? = w.heap[mb]?) : DbAt w' db mb time es cv := ⟨h1.trans h.blk, h.map.keep h2, h.ok⟩
theorem DbAt.lt {w : World} {db mb : Nat} {time : Int} {es : List (PK × Nat)} {cv : Value} (h : DbAt w db mb time es cv) : db < w.heap.size := (Array.getElem?_eq_some_iff.1 h.blk).1
theorem DbAt.later {w w' : World} {db mb : Nat} {time : Int} {es : List (PK × Nat)} {cv : Value} (h : DbAt w db mb time es cv) (hb : Below w.heap.size w w') : DbAt w' db mb time es cv := h.keep (hb.block _ h.lt) (hb.block _ h.map.lt)
theorem DbAt.cells {w : World} {db mb : Nat} {time : Int} {es : List (PK × Nat)} {cv : Value} (h : DbAt w db mb time es cv) :
    w.cell? ⟨db, 0, none⟩ = some (.int .i64 time) ∧ w.cell? ⟨db, 1, none⟩ = some (.map (some mb)) ∧ w.cell? ⟨db, 2, none⟩ = some cv ∧ (∀ o, w.frozen? ⟨db, o, none⟩ = false) := meas_cells h.blk
theorem db_lookup {u : World} {mb : Nat} {es : List (PK × Nat)} (h : MapAt u mb pk pv es) (hok : ∀ x ∈ es, okPK x.1) (n : List UInt8) (a : Int) (hk : okPK (n, a)) :
    (Instr.lookup 41 (.map (some mb)) (.agg #[.string ⟨n.toArray⟩, .int .i64 a]) false).run Try.prog u = .ok (((mget es (n, a)).map pv).getD (.pointer none)) u := by
  have := h.lookup (t := 41) pkKE Try.underlying41 (z := .pointer none) (fun u => by kernel_rfl) hok hk false
  rw [show pk (n, a) = .agg #[.string ⟨n.toArray⟩, .int .i64 a] from rfl] at this
  rw [this]
  rfl

set_option maxHeartbeats 2000000 in
theorem get_old (w : World) (db mb pb : Nat) (time : Int) (es : List (PK × Nat)) (cv : Value) (h : DbAt w db mb time es cv) (n : List UInt8) (a : Int) (hk : okPK (n, a)) (hg : mget es (n, a) = some pb) :
    Calls Try.prog 14 #[.pointer (some ⟨db, 0, none⟩), .string ⟨n.toArray⟩, .int .i64 a] w fun e w' => e = .returned (.pointer (some ⟨pb, 0, none⟩)) ∧ Below w.heap.size w w' := by
  obtain ⟨c0, c1, c2, cf⟩ := h.cells
  have hl := fun (u : World) (hb : Below w.heap.size w u) => db_lookup (h.later hb).map h.ok n a hk
  simp only [hg, Option.map_some, Option.getD_some, pv] at hl
  have hl1 := hl ((w.alloc (.cells #[.string ⟨n.toArray⟩, .int .i64 a] 58)).drew) (((Below.refl _ _).alloc (Nat.le_refl _) _).drew)
  have hdb := h.lt
  clear hl hg hk h
  go_enter Try.func14, Try.ntmps14
  go_wp2_with fail
  go_region
  go_wp2_with fail
  go_ret
  exact ⟨rfl, ((Below.refl _ _).alloc (Nat.le_refl _) _).drew⟩

/-- A procedure's block. -/
def PrAt (w : World) (pb : Nat) (kind ver : Int) (ov : Value) (now : Int) : Prop := w.heap[pb]? = some (.cells #[.int .i64 kind, .int .i64 ver, ov, .int .i64 now] 49 (0, 0))
theorem PrAt.cells {w : World} {pb : Nat} {kind ver : Int} {ov : Value} {now : Int} (h : PrAt w pb kind ver ov now) :
    w.cell? ⟨pb, 0, none⟩ = some (.int .i64 kind) ∧ w.cell? ⟨pb, 1, none⟩ = some (.int .i64 ver) ∧ w.cell? ⟨pb, 2, none⟩ = some ov ∧ w.cell? ⟨pb, 3, none⟩ = some (.int .i64 now) ∧ (∀ o, w.frozen? ⟨pb, o, none⟩ = false) := four_cells h
theorem PrAt.lt {w : World} {pb : Nat} {kind ver : Int} {ov : Value} {now : Int} (h : PrAt w pb kind ver ov now) : pb < w.heap.size := (Array.getElem?_eq_some_iff.1 h).1
theorem PrAt.later {w w' : World} {pb : Nat} {kind ver : Int} {ov : Value} {now : Int} (h : PrAt w pb kind ver ov now) (hb : Below w.heap.size w w') : PrAt w' pb kind ver ov now := (hb.block _ h.lt).trans h

set_option maxHeartbeats 4000000 in
theorem get_new (w : World) (db mb : Nat) (time : Int) (es : List (PK × Nat)) (cv : Value) (h : DbAt w db mb time es cv) (n : List UInt8) (a : Int) (hk : okPK (n, a)) (hg : mget es (n, a) = none) :
    Calls Try.prog 14 #[.pointer (some ⟨db, 0, none⟩), .string ⟨n.toArray⟩, .int .i64 a] w fun e w' => ∃ pb, e = .returned (.pointer (some ⟨pb, 0, none⟩)) ∧ w.heap.size ≤ pb ∧ DbAt w' db mb time (es ++ [((n, a), pb)]) cv ∧ PrAt w' pb 0 0 (.slice none 0 0) 0 ∧ Fr (· = mb) w w' := by
  obtain ⟨c0, c1, c2, cf⟩ := h.cells
  have hl := fun (u : World) (hb : Below w.heap.size w u) => db_lookup (h.later hb).map h.ok n a hk
  simp only [hg, Option.map_none, Option.getD_none] at hl
  have hl1 := hl ((w.alloc (.cells #[.string ⟨n.toArray⟩, .int .i64 a] 58)).drew) (((Below.refl _ _).alloc (Nat.le_refl _) _).drew)
  have hmn := fun (u : World) => run_eql_map_nil (P := Try.prog) u 41 58 46 (some mb) Try.underlying41
  have hdb := h.lt
  have hbb : Below w.heap.size w ((((w.alloc (.cells #[.string ⟨n.toArray⟩, .int .i64 a] 58)).alloc (.cells #[.int .i64 0, .int .i64 0, .slice none 0 0, .int .i64 0] 49)).drew).drew) := ((((Below.refl _ _).alloc (Nat.le_refl _) _).alloc (by simp) _).drew).drew
  obtain ⟨w9, hup, hM, hG, -⟩ := MapAt.update (P := Try.prog) (t := 41) pkKE Try.underlying41 (h.later hbb).map h.ok (k := (n, a)) hk (w.heap.size + 1)
  rw [show pk (n, a) = .agg #[.string ⟨n.toArray⟩, .int .i64 a] from rfl, show pv (w.heap.size + 1) = .pointer (some ⟨w.heap.size + 1, 0, none⟩) from rfl] at hup
  have hF : Fr (· = mb) w w9 := (Fr.of_below (· = mb) hbb).grown hG (fun k e => .inl (Option.some.inj e).symm)
  have hpu : mput es (n, a) (w.heap.size + 1) = es ++ [((n, a), w.heap.size + 1)] := by unfold mput; rw [hg]; simp
  rw [hpu] at hM
  have hD : DbAt w9 db mb time (es ++ [((n, a), w.heap.size + 1)]) cv := ⟨(hF.block _ h.lt (by simpa using h.ne)).trans h.blk, hM, fun x hx => by
    rcases List.mem_append.1 hx with hx | hx
    · exact h.ok x hx
    · have : x = ((n, a), w.heap.size + 1) := by simpa using hx
      rw [this]
      exact hk⟩
  have hP : PrAt w9 (w.heap.size + 1) 0 0 (.slice none 0 0) 0 := by
    unfold PrAt
    rw [hG.block _ (by simp) (fun e => by have := Option.some.inj e; have := h.map.lt; omega)]
    have := heap_alloc_new (w.alloc (.cells #[.string ⟨n.toArray⟩, .int .i64 a] 58)) (.cells #[.int .i64 0, .int .i64 0, .slice none 0 0, .int .i64 0] 49)
    rw [show (w.alloc (.cells #[.string ⟨n.toArray⟩, .int .i64 a] 58)).heap.size = w.heap.size + 1 by simp] at this
    exact this
  have HR := Lib.hid (And.intro hD (And.intro hP hF))
  clear hl hg hk h hM hG hF hpu hD hP hbb
  go_enter Try.func14, Try.ntmps14
  go_wp2_with fail
  go_region
  go_wp2_with fail
  go_region
  go_wp2_with fail
  go_ret
  exact ⟨_, rfl, by omega, HR.out.1, HR.out.2.1, HR.out.2.2⟩
end Go.Proofs.Ytiaajpfebcccfaa
