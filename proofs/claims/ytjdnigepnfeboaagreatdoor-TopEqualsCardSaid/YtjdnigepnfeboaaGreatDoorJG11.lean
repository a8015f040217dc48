import Derived.Test.YtjdnigepnfeboaaGreatDoorJG03
namespace Go.Proofs.YtjdnigepnfeboaaGreatDoor
open Go.RowKit Go.Maps
set_option maxRecDepth 100000
abbrev PK := List UInt8 × Int
def pk (k : PK) : Value := .agg #[.string ⟨k.1.toArray⟩, .int .i64 k.2]
def okPK (k : PK) : Prop := k.1.length ≤ maxLen ∧ (-9223372036854775808 ≤ k.2 ∧ k.2 ≤ 9223372036854775807)
theorem pk_inj (a b : PK) (h : pk a = pk b) : a = b := by
 obtain ⟨a1, a2⟩ := a
 obtain ⟨b1, b2⟩ := b
 simp [pk] at h
 rw [h.1, h.2]
theorem keysLaid : laidOutB Tryz.prog = true := by kernel_rfl
theorem kIntCells : Tryz.prog.cellsOf 3 = 1 := by kernel_rfl
theorem kStrCells : Tryz.prog.cellsOf 9 = 1 := by kernel_rfl
theorem pk_KE {t : TypeId} (hrow : t < Tryz.prog.types.size) (law : WideMaps.KeyLaw Tryz.prog t) (his : Tryz.prog.keyType t = true) (hc : Tryz.prog.cellsOf t = 2)
    (hf : ∃ f g, Tryz.prog.underlying t = some (.struct #[f, g]) ∧ f.type = 9 ∧ g.type = 3 ∧ f.offset = 0 ∧ g.offset = 1 ∧ (f.name != "_") = true ∧ (g.name != "_") = true) : KE Tryz.prog t pk okPK := by
 refine ⟨Keyed.of_law law, fun k h => ?_, pk_inj⟩
 obtain ⟨f, g, hu, f1, g1, f2, g2, f3, g3⟩ := hf
 obtain ⟨m, hm⟩ : ∃ m, Tryz.prog.types.size = m + 1 := ⟨Tryz.prog.types.size - 1, (Nat.succ_pred_eq_of_pos (Nat.lt_of_le_of_lt (Nat.zero_le _) hrow)).symm⟩
 have hw : (Lit.int .i64 k.2).wf = true := wf6 h.2
 have h3 := h.1
 unfold keyOf
 simp only [hu]
 rw [if_pos (by simp [his, pk, Value.formed, hu, hc]), hm]
 refine ⟨.string (keyBytes [.string k.1, .int .i64 k.2]), ?_⟩
 unfold Program.keyLits
 simp only [hu, pk, Value.cells]
 rw [if_pos ⟨by rw [hc]; rfl, by simp [f3, g3]⟩]
 simp only [List.mapM_cons, List.mapM_nil, f1, g1, f2, g2, kIntCells, kStrCells]
 simp [Program.keyLits, Tryz.underlying3, Tryz.underlying9, hw, ByteArray.size, h3]
theorem gkKE : KE Tryz.prog 314 pk okPK :=
 have h : (314 : TypeId) < Tryz.prog.types.size := of_decide_eq_true (by kernel_rfl)
 pk_KE h (deep_law_laid keysLaid (m := 2) (by omega) h (by kernel_rfl) (by kernel_rfl)) (by kernel_rfl) (by kernel_rfl) ⟨_, _, Tryz.underlying314, rfl, rfl, rfl, rfl, by decide, by decide⟩
theorem spKE : KE Tryz.prog 153 pk okPK :=
 have h : (153 : TypeId) < Tryz.prog.types.size := of_decide_eq_true (by kernel_rfl)
 pk_KE h (deep_law_laid keysLaid (m := 2) (by omega) h (by kernel_rfl) (by kernel_rfl)) (by kernel_rfl) (by kernel_rfl) ⟨_, _, Tryz.underlying153, rfl, rfl, rfl, rfl, by decide, by decide⟩
structure NMap (w u : World) (b : Nat) {κ ν : Type} [DecidableEq κ] (ek : κ → Value) (ev : ν → Value) (okk : κ → Prop) (l : List (κ × ν)) : Prop where
 below : Below w.heap.size w u
 map : MapAt u b ek ev l
 ok : ∀ x ∈ l, okk x.1
 le : w.heap.size ≤ b
theorem mput_okk {κ ν : Type} [DecidableEq κ] {okk : κ → Prop} {l : List (κ × ν)} {k : κ} {n : ν} (h : ∀ x ∈ l, okk x.1) (hk : okk k) : ∀ x ∈ mput l k n, okk x.1 := fun x hx => by
 unfold mput at hx
 split at hx
 ·obtain ⟨y, hy, e⟩ := List.mem_map.1 hx
  split at e
  ·rw [← e]; exact hk
  ·rw [← e]; exact h y hy
 ·rcases List.mem_append.1 hx with hx | hx
  ·exact h x hx
  ·rw [List.mem_singleton] at hx
   rw [hx]; exact hk
section
variable {P : Program} {κ ν : Type} [DecidableEq κ] {ek : κ → Value} {ev : ν → Value} {okk : κ → Prop} {w u : World} {b : Nat} {l : List (κ × ν)}
theorem NMap.made (hw : Below w.heap.size w u) : NMap w (u.alloc (.map #[] 0)) u.heap.size ek ev okk ([] : List (κ × ν)) :=
 ⟨hw.alloc hw.size _, MapAt.made u, (fun x hx => by cases hx), hw.size⟩
theorem NMap.put {t kt et : TypeId} (K : KE P kt ek okk) (ht : P.underlying t = some (.map kt et)) (h : NMap w u b ek ev okk l) {k : κ} (hk : okk k) (v : ν) :
    ∃ u', (Instr.mapUpdate t (.map (some b)) (ek k) (ev v)).run P u = .ok () u' ∧ NMap w u' b ek ev okk (mput l k v) ∧ u'.heap.size = u.heap.size := by
 obtain ⟨u', h1, h2, h3, h4⟩ := MapAt.update K ht h.map h.ok hk v
 exact ⟨u', h1, ⟨⟨h3.os.trans h.below.os, h3.tape.trans h.below.tape, h3.output.trans h.below.output, Nat.le_trans h.below.size h3.size,
  fun i hi => (h3.block i (Nat.lt_of_lt_of_le hi h.below.size) (fun e => by cases e; exact absurd h.le (Nat.not_le.2 hi))).trans (h.below.block i hi)⟩, h2, mput_okk h.ok hk, h.le⟩, h4⟩
end
end Go.Proofs.YtjdnigepnfeboaaGreatDoor
