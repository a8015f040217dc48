/-
  Laws for law14's DbOrder: the wanted list appended to, in front and behind; which clauses are alive. No condition but the sizes that are named.
-/
import Derived.Test.YtiaajpfebcccfaaDbZ
namespace Go.Proofs.Ytiaajpfebcccfaa
open Go.RowKit Go.Maps
set_option maxRecDepth 100000

theorem law_behind {w w5 : World} {db mb : Nat} {time : Int} {es : List (PK × Nat)} {A : Option Addr} {c : Nat} {cls : List ClV} {ov : Value} {ord : List Int} {wv : Value} {want : List Int} (h : LawSt w db mb time es A c cls ov ord wv want w5) (x : Int) (hl : want.length ≤ 1000) :
    ∃ A9 c9 w9, (Builtin.append_ #[27, 27] 27 #[wv, .slice (some ⟨w5.heap.size, 0, none⟩) 1 1]).run Try.prog (w5.alloc (.cells #[.int .i64 x] 3)) = .ok (.slice A9 (want.length + 1) c9) w9 ∧ LawSt w db mb time es A c cls ov ord (.slice A9 (want.length + 1) c9) (want ++ [x]) w9 := by
  obtain ⟨i1, z1, hi1, hz4, hz5, hz6, hz7⟩ := int_info
  have hb6 : Below w5.heap.size w5 (w5.alloc (.cells #[.int .i64 x] 3)) := below_alloc (Below.refl _ _) _
  have h6 := h.later hb6
  obtain ⟨g', cap', w', hr, hR, hg, ho⟩ := Row.push (P := Try.prog) 27 Try.underlying27 hi1 hz4 hz5 hz6 hz7 (by decide) encI_len encI_one h6.wt x w5.heap.size 1 (fun j u hu => cell_made w5 _ _ j u (by simpa [encI] using hu)) (by unfold maxLen; omega) (by omega) h6.below.size
  refine ⟨_, _, w', hr, h6.want' (fun g hgl hne => hg.block g hgl (fun e => hne e.symm)) hR (fun g e1 e2 => ?_) ?_⟩
  · have e1' : g' = g := by simpa [Value.ownBlock] using e1
    rcases ho with h7 | h7
    · exact h6.sep g (by rw [h7, e1']) e2
    · have := (h6.od.lt g e2).2
      omega
  · exact ((Fr.of_below (fun k => w.heap.size ≤ k) h6.below).grown hg (fun g e => .inl (h6.wt.lt g e).1)).below (Nat.le_refl _) (fun k hk => by omega)
theorem law_front {w w5 : World} {db mb : Nat} {time : Int} {es : List (PK × Nat)} {A : Option Addr} {c : Nat} {cls : List ClV} {ov : Value} {ord : List Int} {wv : Value} {want : List Int} (h : LawSt w db mb time es A c cls ov ord wv want w5) (x : Int) (hl : want.length ≤ 1000) :
    ∃ A9 c9 w9, (Builtin.append_ #[27, 27] 27 #[.slice (some ⟨w5.heap.size, 0, none⟩) 1 1, wv]).run Try.prog (w5.alloc (.cells #[.int .i64 x] 3)) = .ok (.slice A9 (want.length + 1) c9) w9 ∧ LawSt w db mb time es A c cls ov ord (.slice A9 (want.length + 1) c9) (x :: want) w9 := by
  obtain ⟨i1, z1, hi1, hz4, hz5, hz6, hz7⟩ := int_info
  have hb6 : Below w5.heap.size w5 (w5.alloc (.cells #[.int .i64 x] 3)) := below_alloc (Below.refl _ _) _
  have h6 := h.later hb6
  have hsz : (w5.alloc (.cells #[.int .i64 x] 3)).heap.size = w5.heap.size + 1 := by simp
  have hone : Row (w5.alloc (.cells #[.int .i64 x] 3)) w.heap.size 3 1 encI (.slice (some ⟨w5.heap.size, 0, none⟩) 1 1) [x] := Row.one encI_len w5 x h.below.size
  have hold : ∀ g, g < w5.heap.size → ov.ownBlock = some g ∨ True → g ≠ w5.heap.size := fun g hg _ => by omega
  rcases h6.wt.own.2 with ⟨hn, h0⟩ | ⟨g, cap, cur, hv, hg, hgg, hcap, hmax, hcs, htk⟩
  · obtain rfl : want = [] := List.eq_nil_of_length_eq_zero h0
    subst hn
    refine ⟨_, _, _, run_append_owned_none (P := Try.prog) _ w.heap.size 27 27 3 i1 1 Try.underlying27 hi1 _ 1 _ hone.own, ?_⟩
    refine h.want' (fun g hgl _ => Below.heap_alloc _ _ _ hgl) hone (fun g e1 e2 => ?_) (below_call h.below hb6)
    have e1' : w5.heap.size = g := by simpa [Value.ownBlock] using e1
    have := (h.od.lt g e2).2
    omega
  · subst hv
    have hcells : ∀ j u, (want.flatMap encI)[j]? = some u → (w5.alloc (.cells #[.int .i64 x] 3)).cell? ((⟨g, 0, none⟩ : Addr).add j) = some u := fun j u hu => by
      have e1 : (⟨g, 0, none⟩ : Addr).add j = ⟨g, 0 + j, none⟩ := by unfold Addr.add; split <;> simp_all
      rw [e1, Nat.zero_add, cell_of_row _ g j cur _ (0, 0) hgg]
      rw [← htk] at hu
      have hjl : j < want.length * 1 := by
        have h3 := (List.getElem?_eq_some_iff.1 hu).1
        rw [List.length_take] at h3
        omega
      rw [List.getElem?_take, if_pos hjl] at hu
      simpa using hu
    obtain ⟨v', w', hr, hR, hgr, -, ho⟩ := run_append_own_at (P := Try.prog) _ w.heap.size 27 27 3 i1 z1 1 8 Try.underlying27 hi1 hz4 hz5 hz6 hz7 (by decide) _ 1 _ hone.own ⟨g, 0, none⟩ want.length cap (want.flatMap encI) (by rw [length_flatMap_enc encI_len]) hcells (fun u hu => by
      rw [List.mem_flatMap] at hu
      obtain ⟨y, -, hy⟩ := hu
      exact encI_one y u hy) (by unfold maxLen; omega) (by omega) h6.below.size
    have hR' : Row w' w.heap.size 3 1 encI v' (x :: want) := ⟨by rw [List.flatMap_cons, List.length_cons, Nat.add_comm]; exact hR⟩
    obtain ⟨A9, c9, rfl⟩ := hR'.shape
    simp only [List.length_cons] at hr ho hR'
    refine ⟨A9, c9, w', hr, h.want' (fun k hkl hne => ?_) hR' (fun k e1 e2 => ?_) ?_⟩
    · rw [hgr.block k (by rw [hsz]; omega) (fun e => by have : k = w5.heap.size := by simpa [Value.ownBlock] using e
                                                        omega)]
      exact Below.heap_alloc _ _ _ hkl
    · have hk := (h.od.lt k e2).2
      rcases ho with h7 | h7
      · rw [e1] at h7
        have : k = w5.heap.size := by simpa [Value.ownBlock] using h7
        omega
      · rw [e1, hsz] at h7
        have := Option.some.inj h7
        omega
    · exact ((Fr.of_below (fun k => w.heap.size ≤ k) h6.below).grown hgr (fun k e => by left; have : w5.heap.size = k := by simpa [Value.ownBlock] using e
                                                                                        have := h.below.size
                                                                                        omega)).below (Nat.le_refl _) (fun k hk => by omega)

/-- The clauses that are alive. -/
def liveL (cls : List ClV) (ord : List Int) : List Int := ord.filter (fun x => (cls[x.toNat]?).any (fun c => decide (c.death < 0)))
/-- What the law knows of its clauses: how many there are, in which order. -/
structure OrdIs (n : Nat) (time : Int) (cls : List ClV) (ord : List Int) : Prop where
  len : cls.length = n
  olen : ord.length = n
  nodup : ord.Nodup
  mem : ∀ x, x ∈ ord ↔ 0 ≤ x ∧ x < (n : Int)
  times : ∀ (i : Nat) cc, cls[i]? = some cc → cc.birth ≤ time ∧ cc.death ≤ time
theorem OrdIs.alive {n : Nat} {time : Int} {cls : List ClV} {ord : List Int} (h : OrdIs n time cls ord) : aliveL cls time ord = liveL cls ord := by
  unfold aliveL liveL
  apply List.filter_congr
  intro x hx
  have hm := (h.mem x).1 hx
  have hxl : x.toNat < cls.length := by rw [h.len]; omega
  rw [List.getElem?_eq_getElem hxl]
  obtain ⟨h1, h2⟩ := h.times x.toNat _ (List.getElem?_eq_getElem hxl)
  simp only [Option.any_some, liveC]
  rw [decide_eq_true h1, Bool.true_and, decide_eq_false (show ¬ time < _ by omega), Bool.or_false]
theorem liveL_all {n : Nat} {time : Int} {cls : List ClV} {ord : List Int} (h : OrdIs n time cls ord) (hd : ∀ (i : Nat) cc, cls[i]? = some cc → cc.death = -1) : liveL cls ord = ord := by
  unfold liveL
  rw [List.filter_eq_self]
  intro x hx
  have hm := (h.mem x).1 hx
  have hxl : x.toNat < cls.length := by rw [h.len]; omega
  rw [List.getElem?_eq_getElem hxl]
  have := hd x.toNat _ (List.getElem?_eq_getElem hxl)
  simp [this]
theorem OrdIs.snoc {n : Nat} {time : Int} {cls : List ClV} {ord : List Int} (h : OrdIs n time cls ord) (cc : ClV) (h1 : cc.birth = time + 1) (h2 : cc.death = -1) (ht : 0 ≤ time) (f : Bool) :
    OrdIs (n + 1) (time + 1) (cls ++ [cc]) (if f = true then (n : Int) :: ord else ord ++ [(n : Int)]) := by
  have hn : (n : Int) ∉ ord := fun hm => by have := (h.mem _).1 hm; omega
  refine ⟨by rw [List.length_append, h.len]; rfl, ?_, ?_, fun x => ?_, fun i c hi => ?_⟩
  · cases f
    · simp [h.olen]
    · simp [h.olen]
  · cases f
    · simp only [Bool.false_eq_true, if_false]
      rw [List.nodup_append]
      exact ⟨h.nodup, by simp, fun a ha b hb => by have : b = (n : Int) := by simpa using hb
                                                   rintro rfl
                                                   exact hn (by rw [← this]; exact ha)⟩
    · simp only [if_true]
      exact List.nodup_cons.2 ⟨hn, h.nodup⟩
  · have hm := h.mem x
    cases f
    · simp only [Bool.false_eq_true, if_false, List.mem_append, hm, List.mem_singleton]
      omega
    · simp only [if_true, List.mem_cons, hm]
      omega
  · by_cases hlt : i < cls.length
    · rw [List.getElem?_append_left hlt] at hi
      have := h.times i c hi
      omega
    · rw [List.getElem?_append_right (by omega)] at hi
      have hc : c = cc := by
        have := List.mem_of_getElem? hi
        simpa using this
      subst hc
      omega
theorem OrdIs.kill {n : Nat} {time : Int} {cls : List ClV} {ord : List Int} (h : OrdIs n time cls ord) {m : Nat} {cc : ClV} (hm : cls[m]? = some cc) : OrdIs n (time + 1) (cls.set m { cc with death := time + 1 }) ord := by
  refine ⟨by rw [List.length_set, h.len], h.olen, h.nodup, h.mem, fun i c hi => ?_⟩
  by_cases he : m = i
  · subst he
    rw [List.getElem?_set_self (List.getElem?_eq_some_iff.1 hm).1] at hi
    have hc : c = { cc with death := time + 1 } := by simpa using hi.symm
    subst hc
    have := h.times m cc hm
    simp only
    omega
  · rw [List.getElem?_set_ne he] at hi
    have := h.times i c hi
    omega
theorem liveL_kill {n : Nat} {time : Int} {cls : List ClV} {ord : List Int} (h : OrdIs n time cls ord) {m : Nat} {cc : ClV} (hm : cls[m]? = some cc) (ht : 0 ≤ time) : liveL (cls.set m { cc with death := time + 1 }) ord = (liveL cls ord).filter (fun x => decide (x ≠ (m : Int))) := by
  unfold liveL
  rw [List.filter_filter]
  apply List.filter_congr
  intro x hx
  have hmx := (h.mem x).1 hx
  by_cases he : x = (m : Int)
  · subst he
    rw [Int.toNat_natCast, List.getElem?_set_self (List.getElem?_eq_some_iff.1 hm).1]
    simp
    omega
  · have : m ≠ x.toNat := by omega
    rw [List.getElem?_set_ne this]
    simp [he]
theorem liveL_dead {cls : List ClV} {ord : List Int} {m : Nat} {cc : ClV} (hm : cls[m]? = some cc) (hd : 0 ≤ cc.death) : (liveL cls ord).filter (fun x => decide (x ≠ (m : Int))) = liveL cls ord := by
  rw [List.filter_eq_self]
  intro x hx
  have h2 := (List.mem_filter.1 hx).2
  have : x ≠ (m : Int) := fun e => by
    subst e
    rw [Int.toNat_natCast, hm] at h2
    simp at h2
    omega
  simpa using this
theorem liveL_less {n : Nat} {time : Int} {cls : List ClV} {ord : List Int} (h : OrdIs n time cls ord) {m : Nat} {cc : ClV} (hm : cls[m]? = some cc) (hd : cc.death < 0) : ((liveL cls ord).filter (fun x => decide (x ≠ (m : Int)))).length < (liveL cls ord).length := by
  have hmem : (m : Int) ∈ liveL cls ord := by
    refine List.mem_filter.2 ⟨(h.mem _).2 ⟨by omega, ?_⟩, ?_⟩
    · have := (List.getElem?_eq_some_iff.1 hm).1
      rw [h.len] at this
      omega
    · rw [Int.toNat_natCast, hm]
      simpa using hd
  rcases Nat.lt_or_ge ((liveL cls ord).filter (fun x => decide (x ≠ (m : Int)))).length (liveL cls ord).length with h1 | h1
  · exact h1
  · have h2 := List.length_filter_le (fun x => decide (x ≠ (m : Int))) (liveL cls ord)
    have h3 := List.length_filter_eq_length_iff.1 (Nat.le_antisymm h2 h1) _ hmem
    simp at h3
end Go.Proofs.Ytiaajpfebcccfaa
