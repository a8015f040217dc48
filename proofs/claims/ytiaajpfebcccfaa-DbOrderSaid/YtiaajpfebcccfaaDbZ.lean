/-
  What db.Add and db.Kill do as law14's DbOrder goes; List and Alive of a database without procedures. Conditions: the sizes that are named.
-/
import Derived.Test.YtiaajpfebcccfaaDbY
namespace Go.Proofs.Ytiaajpfebcccfaa
open Go.RowKit Go.Maps
set_option maxRecDepth 100000

def LawAdd (w : World) (db mb : Nat) (time : Int) (cls : List ClV) (ord : List Int) (wv : Value) (want : List Int) (f : Bool) (e : Ending) (u' : World) : Prop :=
  e = .returned (.tuple #[.int .i64 (cls.length : Int), .int .i64 0]) ∧ ∃ es' A' c' cc ov', cc.birth = time + 1 ∧ cc.death = -1 ∧
    LawSt w db mb (time + 1) es' A' c' (cls ++ [cc]) ov' (if f = true then (cls.length : Int) :: ord else ord ++ [(cls.length : Int)]) wv want u'
theorem arg_src (u : World) (ba k : Nat) (hu : u.heap[ba]? = some (.cells #[.int .i64 2, .int .i64 (k : Int), .string ⟨#[]⟩, .slice none 0 0] 33 (0, 0))) : SrcAt u ⟨4, 0, [112], some ⟨ba, 0, none⟩, 1, 1⟩ (some (2, (k : Int), [])) := by
  refine ⟨(by decide : (4 : Int) ≠ 1), (by decide : ([112] : List UInt8).length ≤ maxLen), rfl, (by decide : (2 : Int) ≠ 1), (by decide : ([] : List UInt8).length ≤ maxLen), ba, 0, none, 0, rfl, (Array.getElem?_eq_some_iff.1 hu).1, fun j v hv => ?_⟩
  rw [Nat.zero_add, cell_of_row u ba j _ _ (0, 0) hu]
  rw [← hv]
  exact (Array.getElem?_toList ..).symm

set_option maxHeartbeats 4000000 in
theorem law_add (w W4 : World) (db mb : Nat) (time : Int) (es : List (PK × Nat)) (A : Option Addr) (c : Nat) (cls : List ClV) (ov : Value) (ord : List Int) (wv : Value) (want : List Int) (h : LawSt w db mb time es A c cls ov ord wv want W4) (ba : Nat)
    (hba : W4.heap[ba]? = some (.cells #[.int .i64 2, .int .i64 (cls.length : Int), .string ⟨#[]⟩, .slice none 0 0] 33 (0, 0))) (hl : cls.length ≤ 200) (ho : ord.length ≤ 200) (ht : 0 ≤ time ∧ time ≤ 1000) (f : Bool) :
    Calls Try.prog 6 #[.pointer (some ⟨db, 0, none⟩), .agg #[.int .i64 4, .int .i64 0, .string ⟨#[112]⟩, .slice (some ⟨ba, 0, none⟩) 1 1], .agg #[.int .i64 3, .int .i64 0, .string ⟨#[116, 114, 117, 101]⟩, .slice none 0 0], .bool f, .bool true] W4
      (LawAdd w db mb time cls ord wv want f) := by
  have hbS : ¬ setS db mb (.slice A cls.length c) ov es ba := fun e => by
    rcases e with e | e | e | e | e
    · exact ne_types hba h.db'.blk (by decide) e
    · exact ne_map' hba h.db'.map e
    · obtain ⟨_, cur, hc⟩ := h.cl.block e
      exact ne_types hba hc (by decide) rfl
    · obtain ⟨_, cur, hc⟩ := h.od.block e
      exact ne_types hba hc (by decide) rfl
    · rcases h.pr with ⟨h5, _⟩ | ⟨pb', ver, h5, h6, _⟩
      · rw [h5] at e
        cases e
      · rw [h5] at e
        have e' : pb' = ba := by simpa using e
        exact ne_types hba (show W4.heap[pb']? = some (.cells _ 49 (0, 0)) from h6) (by decide) e'.symm
  have hSx : ∀ u, Fr (setS db mb (.slice A cls.length c) ov es) W4 u → SrcAt u ⟨4, 0, [112], some ⟨ba, 0, none⟩, 1, 1⟩ (some (2, (cls.length : Int), [])) := fun u hu => arg_src u ba _ ((hu.block ba (Array.getElem?_eq_some_iff.1 hba).1 hbS).trans hba)
  have hck : checkT (tmOf ⟨4, 0, [112], some ⟨ba, 0, none⟩, 1, 1⟩ (some (2, (cls.length : Int), []))) = 0 := by
    simp [checkT, tmOf, Tm.may, Tm.mays, mayP, Tm.deep, Tm.deeps, Tm.size, Tm.sizes]
  have hB4 := h.below.size
  rcases h.pr with ⟨h5, h6, h7, h8⟩ | ⟨pb0, ver, h5, h6, h7⟩
  · refine (add_any W4 (setS db mb (.slice A cls.length c) ov es) w.heap.size db mb time es A cls.length c cls 0 0 ov ord h.db' h.cl h.od hB4 ⟨4, 0, [112], some ⟨ba, 0, none⟩, 1, 1⟩ (leafTV 3 0 [116, 114, 117, 101]) (some (2, (cls.length : Int), [])) none
      (hSx W4 (Fr.refl _ _)) (src_leaf _ _ _ _ (by decide) (by decide)) hck (by decide +kernel) (.inr rfl) hSx (fun u _ => src_leaf _ _ _ _ (by decide) (by decide)) (by omega) (by omega) (by omega) f true (.inl rfl) (.inr (.inl rfl)) (fun g hg => .inr (.inr (.inl hg))) (fun g hg => .inr (.inr (.inr (.inl hg))))
      (fun pb => W4.heap.size ≤ pb) (fun pb => [(keyP, pb)]) (fun pb h => .inr h) (fun u hu => (get_new u db mb time es _ (h.db'.later hu) [112] 1 ⟨by decide, by decide⟩ (by rw [h5]; rfl)).mono fun e u' ⟨pb, g1, g2, g3, g4, g5⟩ => ⟨pb, g1, Nat.le_trans hu.size g2, by rw [h5] at g3; exact g3, by rw [h6]; exact g4, g5⟩)).mono ?_
    rintro e w5 ⟨pb, bx, bz, x', y', cv', ov', rfl, hpb, hS, hcx, hcy⟩
    obtain ⟨A', c', hL⟩ := h.added (kind := 0) rfl (Nat.le_trans hB4 hpb) ⟨rfl, rfl, rfl⟩ rfl hS hcx hcy
    exact ⟨rfl, _, A', c', _, ov', rfl, rfl, hL⟩
  · refine (add_any W4 (setS db mb (.slice A cls.length c) ov es) w.heap.size db mb time es A cls.length c cls 2 ver ov ord h.db' h.cl h.od hB4 ⟨4, 0, [112], some ⟨ba, 0, none⟩, 1, 1⟩ (leafTV 3 0 [116, 114, 117, 101]) (some (2, (cls.length : Int), [])) none
      (hSx W4 (Fr.refl _ _)) (src_leaf _ _ _ _ (by decide) (by decide)) hck (by decide +kernel) (.inr rfl) hSx (fun u _ => src_leaf _ _ _ _ (by decide) (by decide)) (by omega) (by omega) (by omega) f true (.inl rfl) (.inr (.inl rfl)) (fun g hg => .inr (.inr (.inl hg))) (fun g hg => .inr (.inr (.inr (.inl hg))))
      (fun pb => pb = pb0) (fun pb => [(keyP, pb)]) (fun pb h => .inl (by rw [h]; exact .inr (.inr (.inr (.inr h5))))) (fun u hu => (get_old u db mb pb0 time es _ (h.db'.later hu) [112] 1 ⟨by decide, by decide⟩ (by rw [h5]; rfl)).mono fun e u' ⟨g1, g2⟩ => ⟨pb0, g1, rfl, by rw [← h5]; exact (h.db'.later hu).later g2, (h6.later hu).later g2, Fr.of_below _ g2⟩)).mono ?_
    rintro e w5 ⟨pb, bx, bz, x', y', cv', ov', rfl, hpb, hS, hcx, hcy⟩
    obtain ⟨A', c', hL⟩ := h.added (kind := 2) rfl (by rw [hpb]; exact h7) ⟨rfl, rfl, rfl⟩ rfl hS hcx hcy
    exact ⟨rfl, _, A', c', _, ov', rfl, rfl, hL⟩

/-- What Kill comes to. -/
def LawKill (w : World) (db mb : Nat) (time : Int) (es : List (PK × Nat)) (A : Option Addr) (c : Nat) (cls : List ClV) (ov : Value) (ord : List Int) (wv : Value) (want : List Int) (u : World) (n : Nat) (cc : ClV) (e : Ending) (u' : World) : Prop :=
  (0 ≤ cc.death ∧ e = .returned (.int .i64 8) ∧ u' = u) ∨ (cc.death < 0 ∧ e = .returned (.int .i64 0) ∧ LawSt w db mb (time + 1) es A c (cls.set n { cc with death := time + 1 }) ov ord wv want u')
theorem law_kill (w u : World) (db mb : Nat) (time : Int) (es : List (PK × Nat)) (A : Option Addr) (c : Nat) (cls : List ClV) (ov : Value) (ord : List Int) (wv : Value) (want : List Int) (h : LawSt w db mb time es A c cls ov ord wv want u) (n : Nat) (cc : ClV) (hn : cls[n]? = some cc) (ht : 0 ≤ time ∧ time ≤ 1000) :
    Calls Try.prog 7 #[.pointer (some ⟨db, 0, none⟩), .int .i64 n] u (LawKill w db mb time es A c cls ov ord wv want u n cc) := by
  rcases Int.lt_or_le cc.death 0 with hd | hd
  · rcases h.pr with ⟨h5, h6, h7, h8⟩ | ⟨pb, ver, h5, h6, h7⟩
    · rw [h7] at hn
      cases hn
    · obtain ⟨hb, g, e1, e2, e3⟩ := h.facts n cc hn
      refine (kill_yes u w.heap.size db mb pb time es A cls.length c cls h.db' h.cl n cc hn hd 2 ver ov h6 (by rw [e1]; exact (⟨by decide, by decide⟩ : okPK ([112], 1))) (by rw [e1, h5]; rfl) (by omega)).mono ?_
      rintro e u' ⟨rfl, hD, hC, hP, hF⟩
      have hlen : (cls.set n { cc with death := time + 1 }).length = cls.length := List.length_set ..
      have hgc : ∀ g, (Value.slice A cls.length c).ownBlock = some g → ∃ cur, u.heap[g]? = some (.cells cur 53 (0, 0)) := fun g hg => (h.cl.block hg).2
      have h6' : u.heap[pb]? = some (.cells _ 49 (0, 0)) := h6
      have hr : ∀ {v : Value} {l : List Int}, Row u w.heap.size 3 1 encI v l → Row u' w.heap.size 3 1 encI v l := fun {v l} hr => hr.by_fr hF fun g hg => by
        obtain ⟨_, cur, hc⟩ := hr.block hg
        rintro (q | q | q)
        · rw [q, h.db'.blk] at hc
          cases hc
        · rw [q, h6'] at hc
          cases hc
        · obtain ⟨cur2, hc2⟩ := hgc _ q
          rw [hc] at hc2
          cases hc2
      refine .inr ⟨hd, rfl, ⟨by rw [hlen]; exact hD, by rw [hlen]; exact hC, hr h.od, hr h.wt, h.sep, .inr ⟨pb, time + 1, h5, hP, h7⟩, fun i c2 hi => ?_, h.sdb, h.smb, ?_⟩⟩
      · have hk : ∀ (g : Nat) cs, u.heap[g]? = some (Obj.cells cs 33 (0, 0)) → u'.heap[g]? = u.heap[g]? := fun g cs hg => hF.block g (Array.getElem?_eq_some_iff.1 hg).1 (by
          rintro (e | e | e)
          · subst e
            rw [h.db'.blk] at hg
            cases hg
          · subst e
            rw [h6'] at hg
            cases hg
          · obtain ⟨cur2, hc2⟩ := hgc _ e
            rw [hg] at hc2
            cases hc2)
        by_cases hin : n = i
        · subst hin
          have hnl := (List.getElem?_eq_some_iff.1 hn).1
          rw [List.getElem?_set_self hnl] at hi
          have hc2 : c2 = { cc with death := time + 1 } := by simpa using hi.symm
          subst hc2
          have := (h.facts n cc hn).keep hk
          exact this
        · rw [List.getElem?_set_ne hin] at hi
          exact (h.facts i c2 hi).keep hk
      · refine ((Fr.of_below (fun k => w.heap.size ≤ k) h.below).trans (hF.mono fun k _ hk => ?_)).below (Nat.le_refl _) (fun k hk => by omega)
        have hsd := h.sdb
        rcases hk with e | e | e
        · omega
        · omega
        · exact (h.cl.lt k e).1
  · refine (kill_no u w.heap.size db mb time es A cls.length c cls h.db' h.cl n cc hn hd).mono ?_
    rintro e u' ⟨rfl, rfl⟩
    exact .inl ⟨hd, rfl, rfl⟩

set_option maxHeartbeats 4000000 in
theorem alive_none (w : World) (db mb : Nat) (time : Int) (cv : Value) (h : DbAt w db mb time [] cv) (n : List UInt8) (a : Int) (hk : okPK (n, a)) (t : Int) :
    Calls Try.prog 10 #[.pointer (some ⟨db, 0, none⟩), .string ⟨n.toArray⟩, .int .i64 a, .int .i64 t] w fun e w' => e = .returned (.slice none 0 0) ∧ w = w' := by
  obtain ⟨c0, c1, c2, cf⟩ := h.cells
  have hl := db_lookup h.map h.ok n a hk
  simp only [show mget ([] : List (PK × Nat)) (n, a) = none from rfl, Option.map_none, Option.getD_none] at hl
  clear h hk
  go_enter Try.func10, Try.ntmps10
  go_wp2_with fail
  go_ret
  exact ⟨rfl, rfl⟩
set_option maxHeartbeats 4000000 in
theorem list_none (w : World) (db mb : Nat) (time : Int) (cv : Value) (h : DbAt w db mb time [] cv) :
    Calls Try.prog 8 #[.pointer (some ⟨db, 0, none⟩)] w fun e w' => e = .returned (.slice none 0 0) ∧ Below w.heap.size w w' := by
  obtain ⟨c0, c1, c2, cf⟩ := h.cells
  obtain ⟨w1, hrg, hit, hb1⟩ := h.map.range (P := Try.prog) Try.underlying41
  have hov := hit.over (P := Try.prog) (ty := 0)
  have HB := Lib.hid hb1
  clear h hit hb1
  go_enter Try.func8, Try.ntmps8
  go_wp2_with fail
  go_loopw [3] (fun v wr => v = .slice none 0 0 ∧ wr = w1) (fun _ _ => 0)
  case atStart => exact ⟨rfl, rfl⟩
  case round =>
    obtain ⟨rfl, rfl⟩ := hrel
    go_wp2_with fail
    refine (sort_small wr none 0 0 (by omega) _).mono ?_
    rintro e u ⟨rfl, rfl⟩
    go_wp2_with fail
    go_loopw [5, 31] (fun v i wi => v = .slice none 0 0 ∧ i = .int .i64 0 ∧ wi = wr) (fun _ _ _ => 0)
    case atStart => exact ⟨rfl, rfl, rfl⟩
    case round =>
      obtain ⟨rfl, rfl, rfl⟩ := hrel
      go_wp2_with fail
      go_ret
      exact ⟨rfl, HB.out⟩
end Go.Proofs.Ytiaajpfebcccfaa
