/-
  What Copy answers: a table of its own with the same operators. Conditions: the table's block holds a map of well-formed operators.
-/
import Derived.Test.YtiaajpfebcccfaaDoorTab
import Derived.Test.YtiaajpfebcccfaaDoorRange
import Derived.LoopTactic
import Derived.Lib.Hide
import Derived.Deep.LoopGhost
namespace Go.Proofs.YtiaajpfebcccfaaDoor
open Go.RowKit Go.Maps
set_option maxRecDepth 100000

theorem mput_new {κ ν : Type} [DecidableEq κ] (l : List (κ × ν)) (k : κ) (v : ν) (h : k ∉ l.map (·.1)) : mput l k v = l ++ [(k, v)] := by
  have hn : mget l k = none := mget_none fun x hx e => h (List.mem_map.2 ⟨x, hx, e⟩)
  unfold mput
  rw [hn]
  simp

theorem mem_mput' {κ ν : Type} [DecidableEq κ] {l : List (κ × ν)} {k : κ} {v : ν} {x : κ × ν} (h : x ∈ mput l k v) : x ∈ l ∨ x = (k, v) := by
  unfold mput at h
  split at h
  · obtain ⟨y, hy, rfl⟩ := List.mem_map.1 h
    split
    · exact .inr rfl
    · exact .inl hy
  · rcases List.mem_append.1 h with h | h
    · exact .inl h
    · exact .inr (by simpa using h)
theorem erase_perm' {α : Type} : ∀ (l : List α) (j : Nat) (x : α), l[j]? = some x → (x :: l.eraseIdx j).Perm l
  | [], j, x, h => by simp at h
  | y :: r, 0, x, h => by
    simp at h
    subst h
    exact List.Perm.refl _
  | y :: r, j + 1, x, h => by
    simp at h
    exact (List.Perm.swap y x _).trans (List.Perm.cons y (erase_perm' r j x h))

/-- What holds as Copy goes: the new table's map in block b, its cell in block b + 1, the range in block b + 2. -/
structure CopyInv (w : World) (bm : Nat) (es done left : List (OpK × OpV)) (u : World) : Prop where
  it : RangeAt u (w.heap.size + 2) bm opk opv es left
  tab : TabAt u (w.heap.size + 1) w.heap.size done
  perm : (done ++ left).Perm es
  below : Below w.heap.size w u

theorem CopyInv.step {w u un u1 w9 : World} {bm j : Nat} {es done left : List (OpK × OpV)} {x : OpK × OpV} (h : CopyInv w bm es done left u) (hnd : (es.map (·.1)).Nodup) (hbm : bm < w.heap.size) (hg : ∀ y ∈ es, goodOp y)
    (hit : RangeAt un (w.heap.size + 2) bm opk opv es (left.eraseIdx j)) (hgn : u.grownBy un (some (w.heap.size + 2))) (hjx : left[j]? = some x)
    (hb : Below un.heap.size un u1) (hM : MapAt w9 w.heap.size opk opv (mput done x.1 x.2)) (hg9 : u1.grownBy w9 (some w.heap.size)) : CopyInv w bm es (done ++ [x]) (left.eraseIdx j) w9 := by
  have hmem : x ∈ left := List.mem_of_getElem? hjx
  have hnd2 : ((done ++ left).map (·.1)).Nodup := (h.perm.map _).nodup_iff.2 hnd
  have hnew : x.1 ∉ done.map (·.1) := by
    rw [List.map_append, List.nodup_append] at hnd2
    intro hx
    exact hnd2.2.2 _ hx _ (List.mem_map.2 ⟨x, hmem, rfl⟩) rfl
  rw [show x = (x.1, x.2) from rfl, ← mput_new done x.1 x.2 hnew]
  have hts := h.tab.lt
  have hus := hgn.size
  have hus2 := hb.size
  have hsz := h.it.lt.2
  have hk1 : ∀ k, k < u.heap.size → k ≠ w.heap.size + 2 → k ≠ w.heap.size → w9.heap[k]? = u.heap[k]? := fun k hk h1 h2 => by
    rw [hg9.block k (by omega) (fun e => h2 (Option.some.inj e)), hb.block k (by omega), hgn.block k hk (fun e => h1 (Option.some.inj e))]
  refine ⟨hit.keep ?_ ?_, ⟨?_, hM, ?_⟩, ?_, ?_⟩
  · rw [hg9.block bm (by omega) (fun e => by have := Option.some.inj e; omega), hb.block bm (by omega)]
  · rw [hg9.block _ (by omega) (fun e => by have := Option.some.inj e; omega), hb.block _ (by omega)]
  · exact (World.cell?_of_block (a := ⟨w.heap.size + 1, 0, none⟩) (hk1 _ hts (by simp) (by simp))).trans h.tab.cell
  · intro y hy
    rcases mem_mput' hy with hy | rfl
    · exact h.tab.good y hy
    · exact hg _ (h.perm.mem_iff.1 (List.mem_append_right _ hmem))
  · rw [mput_new done x.1 x.2 hnew, List.append_assoc]
    exact (List.Perm.append_left done (erase_perm' left j x hjx)).trans h.perm
  · exact ⟨hg9.os.trans (hb.os.trans (hgn.os.trans h.below.os)), hg9.tape.trans (hb.tape.trans (hgn.tape.trans h.below.tape)), hg9.output.trans (hb.output.trans (hgn.output.trans h.below.output)),
      by have := h.below.size; have := hg9.size; omega, fun k hk => (hk1 k (by omega) (by omega) (by omega)).trans (h.below.block k hk)⟩

theorem make_hint (n : Nat) (u : World) : (Instr.makeMap 42 (some (.int .i64 n))).run Tryd.prog u = .ok (.map (some u.heap.size)) (u.alloc (.map #[] 0)) := by
  simp [Instr.makeMap, run_underlying Tryd.underlying42, asInt, Result.andThen]
  rfl

set_option maxHeartbeats 4000000 in
theorem copy_any (w : World) (bt bm : Nat) (es : List (OpK × OpV)) (hT : TabAt w bt bm es) :
    Calls Tryd.prog 9 #[.pointer (some ⟨bt, 0, none⟩)] w fun e w' => ∃ es', e = .returned (.pointer (some ⟨w.heap.size + 1, 0, none⟩)) ∧ TabAt w' (w.heap.size + 1) w.heap.size es' ∧ es'.Perm es ∧ Below w.heap.size w w' := by
  have hbt := hT.lt
  have hbm := hT.map.lt
  have hlen := hT.map.len (P := Tryd.prog) (ty := 3) Tryd.underlying42
  have hmk := make_hint es.length
  have hc := hT.cell
  have hb2 : Below w.heap.size w ((w.alloc (.map #[] 0)).alloc (.cells #[.map (some w.heap.size)] 44)) := ((Below.refl _ _).alloc (Nat.le_refl _) _).alloc (by simp) _
  obtain ⟨w2, hw2⟩ : ∃ w2, w2 = (w.alloc (.map #[] 0)).alloc (.cells #[.map (some w.heap.size)] 44) := ⟨_, rfl⟩
  rw [← hw2] at hb2
  have hs2 : w2.heap.size = w.heap.size + 2 := by rw [hw2]; simp
  have hT2 : TabAt w2 (w.heap.size + 1) w.heap.size [] := ⟨by rw [hw2, show w.heap.size + 1 = (w.alloc (.map #[] 0)).heap.size by simp, World.cell?_alloc_at _ _ _ _ rfl]; rfl, by rw [hw2]; exact (MapAt.made w).alloc _, by simp⟩
  obtain ⟨w3, hrg, hit, hb3⟩ := (hT.map.below hb2 hbm).range (P := Tryd.prog) Tryd.underlying42
  have hc2 := (hb2.cell (p := ⟨bt, 0, none⟩) hbt).trans hc
  rw [hs2] at hrg hit
  have HI : Hid (CopyInv w bm es [] es w3) := Lib.hid ⟨hit, hT2.later hb3, List.Perm.refl _, hb2.trans (hb3.mono hb2.size)⟩
  have HT := Lib.hid hT
  clear hT hb2 hT2 hit hb3 hs2
  subst hw2
  go_enter Tryd.func9, Tryd.ntmps9
  go_wp2_with fail
  clear hmk hlen hrg
  go_loopg [] es.length (fun n u => ∃ done left, CopyInv w bm es done left u ∧ left.length = n)
  case atStart => exact ⟨_, _, HI.out, rfl⟩
  case round =>
    obtain ⟨done, left, hR, hln⟩ := hrel
    have HR := Lib.hid hR
    have HLN := Lib.hid hln
    clear hR hln HI
    by_cases hl : left = []
    · subst hl
      have hov := HR.out.it.over (P := Tryd.prog) (ty := 0)
      go_wp2_with fail
      go_ret
      exact ⟨done, rfl, HR.out.tab, by simpa using HR.out.perm, HR.out.below⟩
    · obtain ⟨j, x, wn, hnx, hjx, hitn, hgn, hszn, hent⟩ := HR.out.it.next (P := Tryd.prog) (ty := 0) hl
      have hx9 : x ∈ es := HR.out.perm.mem_iff.1 (List.mem_append_right _ (List.mem_of_getElem? hjx))
      have hokx : okOpK x.1 := HT.out.ok x hx9
      obtain ⟨⟨x1, x2⟩, ⟨x3, x4⟩⟩ := x
      have htn : TabAt wn (w.heap.size + 1) w.heap.size done := HR.out.tab.keep (hgn.block _ HR.out.tab.lt (fun e => by have := Option.some.inj e; omega)) (hgn.block _ HR.out.tab.map.lt (fun e => by have := Option.some.inj e; omega))
      have hc9 := htn.cell
      have hl9 := htn.lt
      have hbb : Below wn.heap.size wn (((wn.alloc (.cells #[.int .i64 x1, .string ⟨x2.toArray⟩] 56)).alloc (.cells #[.int .i64 x3, .int .i64 x4] 51)).drew) := (((Below.refl _ _).alloc (Nat.le_refl _) _).alloc (by simp) _).drew
      obtain ⟨w9, hup, hM, hG, -⟩ := MapAt.update (P := Tryd.prog) (t := 42) opKE Tryd.underlying42 (htn.later hbb).map htn.ok (k := (x1, x2)) hokx ((x3, x4) : OpV)
      rw [show opk (x1, x2) = .agg #[.int .i64 x1, .string ⟨x2.toArray⟩] from rfl, show opv (x3, x4) = .agg #[.int .i64 x3, .int .i64 x4] from rfl] at hup
      have HI9 : Hid (CopyInv w bm es (done ++ [((x1, x2), x3, x4)]) (left.eraseIdx j) w9) := Lib.hid (HR.out.step HT.out.map.nodup hbm HT.out.good hitn hgn hjx hbb hM hG)
      have HL9 : Hid ((left.eraseIdx j).length + 1 = gk) := Lib.hid (by
        have hj := (List.getElem?_eq_some_iff.1 hjx).1
        rw [List.length_eraseIdx, if_pos hj, ← HLN.out]
        omega)
      clear hitn hgn hszn hjx hx9 hokx hM hG htn hbb hl
      simp only [opk, opv] at hnx hent
      have hc10 : ((wn.alloc (.cells #[.int .i64 x1, .string ⟨x2.toArray⟩] 56)).alloc (.cells #[.int .i64 x3, .int .i64 x4] 51)).cell? ⟨w.heap.size + 1, 0, none⟩ = some (.map (some w.heap.size)) := by
        rw [World.cell?_alloc_past _ _ _ (by simp; omega), World.cell?_alloc_past _ _ _ (by omega)]
        exact hc9
      go_wp2_with fail
      go_region
      go_wp2_with fail
      go_roundg (gk - 1)
      case measure => have := HL9.out; omega
      case rel => exact ⟨_, _, HI9.out, by have := HL9.out; omega⟩
end Go.Proofs.YtiaajpfebcccfaaDoor
