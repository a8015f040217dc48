/-
  The document's example of layer 14, walked: law14's alive answers true. No condition.
-/
import Derived.Test.YtiaajpfebcccfaaDbW
namespace Go.Proofs.Ytiaajpfebcccfaa
open Go.RowKit Go.Maps
set_option maxRecDepth 100000

theorem src_leaf (w : World) (k n : Int) (s : List UInt8) (hk : k ≠ 1) (hs : s.length ≤ maxLen) : SrcAt w (leafTV k n s) none := ⟨hk, hs, rfl⟩
theorem PrAt.by_fr {S : Nat → Prop} {w w' : World} {pb : Nat} {kind ver : Int} {ov : Value} {now : Int} (h : PrAt w pb kind ver ov now) (hF : Fr S w w') (hS : ¬ S pb) : PrAt w' pb kind ver ov now := (hF.block pb h.lt hS).trans h
theorem Row.by_fr {α : Type} {S : Nat → Prop} {w w' : World} {B sz : Nat} {e : TypeId} {enc : α → List Value} {v : Value} {l : List α} (h : Row w B e sz enc v l) (hF : Fr S w w') (hS : ∀ g, v.ownBlock = some g → ¬ S g) : Row w' B e sz enc v l :=
  h.keep fun k hk => hF.block k (h.lt k hk).2 (hS k hk)

theorem Row.ints {w : World} {B : Nat} {v : Value} {l : List Int} (h : Row w B 3 1 encI v l) : ∃ A c, v = .slice A l.length c ∧ IntsAt w w.heap.size A l.length l := by
  by_cases hne : l = []
  · subst hne
    obtain ⟨A, c, rfl⟩ := h.shape
    exact ⟨A, c, rfl, rfl, fun i x hx => by simp at hx⟩
  · obtain ⟨g, cap, rfl, _, hg, _, hc⟩ := h.cells encI_len hne
    exact ⟨_, cap, rfl, rfl, fun i x hx => ⟨g, 0, rfl, hg, by
      have := (hc i x hx 0 _ rfl).1
      simpa using this⟩⟩

set_option maxHeartbeats 16000000 in
theorem alive14_any (w : World) : Calls Try.prog 4 #[] w fun e w' => e = .returned (.bool true) ∧ Below w.heap.size w w' := by
  go_enter Try.func4, Try.ntmps4
  go_wp2_with fail
  refine (new_any w).mono ?_
  rintro e w1 ⟨rfl, hD1, hb1⟩
  obtain ⟨db, hdb⟩ : ∃ db, db = w.heap.size + 1 := ⟨_, rfl⟩
  obtain ⟨mb, hmb⟩ : ∃ mb, mb = w.heap.size := ⟨_, rfl⟩
  rw [← hdb, ← hmb] at hD1
  rw [← hdb]
  have hdB : w.heap.size ≤ db := by omega
  have hmB : w.heap.size ≤ mb := by omega
  clear hdb hmb
  obtain ⟨W2, hW2⟩ : ∃ W2, W2 = (w1.alloc (.cells #[.int .i64 3, .int .i64 0, .string ⟨#[97]⟩, .slice none 0 0] 33)).alloc (.cells #[.int .i64 3, .int .i64 0, .string ⟨#[116, 114, 117, 101]⟩, .slice none 0 0] 33) := ⟨_, rfl⟩
  obtain ⟨bt, hbt⟩ : ∃ bt, bt = w1.heap.size := ⟨_, rfl⟩
  have hA : W2.heap[bt]? = some (.cells #[.int .i64 3, .int .i64 0, .string ⟨#[97]⟩, .slice none 0 0] 33 (0, 0)) := by rw [hW2]; exact blk_old (blk_new hbt)
  have hY : W2.heap[bt + 1]? = some (.cells #[.int .i64 3, .int .i64 0, .string ⟨#[116, 114, 117, 101]⟩, .slice none 0 0] 33 (0, 0)) := by rw [hW2]; exact blk_new (by rw [hbt]; simp)
  have hb2 : Below w1.heap.size w1 W2 := by rw [hW2]; exact below_alloc (below_alloc (Below.refl _ _) _) _
  have hD2 := hD1.later hb2
  have hB2 : Below w.heap.size w W2 := below_call hb1 hb2
  obtain ⟨a0, a1, a2, a3, af⟩ := four_cells hA
  obtain ⟨y0, y1, y2, y3, yf⟩ := four_cells hY
  have HA := Lib.hid (And.intro hA hY)
  have HB2 := Lib.hid hB2
  have HD2 := Lib.hid hD2
  have HW2 := Lib.hid hW2
  have HBT := Lib.hid hbt
  have hs2 := hB2.size
  have HADD := Lib.hid (add_any W2 (fun k => k = db ∨ k = mb) w.heap.size db mb 0 [] none 0 0 [] 0 0 (.slice none 0 0) [] hD2 (Row.nil _ _ _ _ _) (Row.nil _ _ _ _ _) hs2 (leafTV 3 0 [97]) (leafTV 3 0 [116, 114, 117, 101]) none none
    (src_leaf _ _ _ _ (by decide) (by decide)) (src_leaf _ _ _ _ (by decide) (by decide)) (by decide +kernel) (by decide +kernel) (.inl rfl) (fun u _ => src_leaf _ _ _ _ (by decide) (by decide)) (fun u _ => src_leaf _ _ _ _ (by decide) (by decide)) (by decide) (by decide) (by decide) false false (.inl rfl) (.inr rfl) (fun g h => by cases h) (fun g h => by cases h)
    (fun pb => W2.heap.size ≤ pb) (fun pb => [(([97], 0), pb)]) (fun pb h => .inr h) (fun u hu => (get_new u db mb 0 [] _ (hD2.later hu) [97] 0 ⟨by decide, by decide⟩ rfl).mono fun e u' ⟨pb, h1, h2, h3, h4, h5⟩ => ⟨pb, h1, Nat.le_trans hu.size h2, h3, h4, h5⟩))
  clear hA hY hb2 hD2 hB2 hD1 hb1 hW2 hbt
  go_wp2_with fail
  rw [← HW2.out, ← HBT.out]
  refine HADD.out.mono ?_
  rintro e w3 ⟨pa, bx, bz, x', y', cv3, ov3, rfl, hpa, hS3, hcx, hcy⟩
  obtain rfl : x' = leafTV 3 0 [97] := hcx
  obtain rfl : y' = leafTV 3 0 [116, 114, 117, 101] := hcy
  obtain ⟨A3, c3, rfl⟩ := hS3.cl.shape
  have hS : AddSt W2 (fun k => k = db ∨ k = mb) w.heap.size db mb pa bx bz 1 [(([97], 0), pa)] (.slice A3 1 c3) [⟨leafTV 3 0 [97], leafTV 3 0 [116, 114, 117, 101], 1, -1⟩] 1 1 ov3 [0] (leafTV 3 0 [97]) (leafTV 3 0 [116, 114, 117, 101]) w3 := hS3
  have hndb : bt ≠ db ∧ bt + 1 ≠ db := ⟨ne_types HA.out.1 HD2.out.blk (by decide), ne_types HA.out.2 HD2.out.blk (by decide)⟩
  have hnmb : bt ≠ mb ∧ bt + 1 ≠ mb := ⟨ne_map HA.out.1 HD2.out.map, ne_map HA.out.2 HD2.out.map⟩
  have hA3 := (hS.fr.block bt (Array.getElem?_eq_some_iff.1 HA.out.1).1 (by simp; omega)).trans HA.out.1
  have hY3 := (hS.fr.block (bt + 1) (Array.getElem?_eq_some_iff.1 HA.out.2).1 (by simp; omega)).trans HA.out.2
  have hbt3 : bt + 1 < w3.heap.size := (Array.getElem?_eq_some_iff.1 hY3).1
  obtain ⟨W4, hW4⟩ : ∃ W4, W4 = w3.alloc (.cells #[.int .i64 3, .int .i64 0, .string ⟨#[97]⟩, .slice none 0 0] 33) := ⟨_, rfl⟩
  obtain ⟨ba, hba⟩ : ∃ ba, ba = w3.heap.size := ⟨_, rfl⟩
  have hG : W4.heap[ba]? = some (.cells #[.int .i64 3, .int .i64 0, .string ⟨#[97]⟩, .slice none 0 0] 33 (0, 0)) := by rw [hW4]; exact blk_new hba
  have hb4 : Below w3.heap.size w3 W4 := by rw [hW4]; exact below_alloc (Below.refl _ _) _
  have hST4 := hS.later hb4
  have hB4 : Below w.heap.size w W4 := (hS.fr.step hb4).weak (S' := fun k => w.heap.size ≤ k) (fun k hk => by rcases hk with h | h <;> omega) |> fun h => (Fr.of_below _ HB2.out).trans h |>.below (Nat.le_refl _) (fun k hk => by omega)
  have hbl : ba < W4.heap.size := (Array.getElem?_eq_some_iff.1 hG).1
  have hSrc : ∀ u : World, u.heap[ba]? = W4.heap[ba]? → SrcAt u ⟨4, 0, [98], some ⟨ba, 0, none⟩, 1, 1⟩ (some (3, 0, [97])) := fun u hu => by
    refine ⟨(by decide : (4 : Int) ≠ 1), (by decide : ([98] : List UInt8).length ≤ maxLen), rfl, by decide, by decide, ba, 0, none, 0, rfl, ?_, fun j v hv => ?_⟩
    · exact (Array.getElem?_eq_some_iff.1 (hu.trans hG)).1
    · rw [Nat.zero_add, cell_of_row u ba j _ _ (0, 0) (hu.trans hG)]
      rw [← hv]
      exact (Array.getElem?_toList ..).symm
  have hgne : ba ≠ db ∧ ba ≠ mb ∧ (Value.slice A3 1 c3).ownBlock ≠ some ba := by
    refine ⟨ne_types hG hST4.db'.blk (by decide), ne_map hG hST4.db'.map, fun e => ?_⟩
    obtain ⟨_, cur, hc⟩ := hST4.cl.block e
    exact ne_types hG hc (by decide) rfl
  have HADD2 := Lib.hid (add_any W4 (fun k => k = db ∨ k = mb ∨ (Value.slice A3 1 c3).ownBlock = some k) w.heap.size db mb 1 [(([97], 0), pa)] A3 1 c3 [⟨leafTV 3 0 [97], leafTV 3 0 [116, 114, 117, 101], 1, -1⟩] 0 0 (.slice none 0 0) [] hST4.db' hST4.cl (Row.nil _ _ _ _ _) hB4.size ⟨4, 0, [98], some ⟨ba, 0, none⟩, 1, 1⟩ (leafTV 3 0 [116, 114, 117, 101]) (some (3, 0, [97])) none
    (hSrc _ rfl) (src_leaf _ _ _ _ (by decide) (by decide)) (show checkT (.mk 4 0 [98] [.mk 3 0 [97] []]) = 0 by decide +kernel) (by decide +kernel) (.inr rfl) (fun u hu => hSrc u (hu.block ba hbl (by simp; exact ⟨hgne.1, hgne.2.1, hgne.2.2⟩))) (fun u _ => src_leaf _ _ _ _ (by decide) (by decide)) (by decide) (by decide) (by decide) true true (.inl rfl) (.inr (.inl rfl)) (fun g h => .inr (.inr h)) (fun g h => by cases h)
    (fun pb => W4.heap.size ≤ pb) (fun pb => [(([97], 0), pa), (([98], 1), pb)]) (fun pb h => .inr h) (fun u hu => (get_new u db mb 1 [(([97], 0), pa)] _ (hST4.db'.later hu) [98] 1 ⟨by decide, by decide⟩ (by simp [mget])).mono fun e u' ⟨pb, h1, h2, h3, h4, h5⟩ => ⟨pb, h1, Nat.le_trans hu.size h2, h3, h4, h5⟩))
  obtain ⟨a0, a1, a2, a3, af⟩ := four_cells hA3
  obtain ⟨y0, y1, y2, y3, yf⟩ := four_cells hY3
  have HW4 := Lib.hid hW4
  have HBA := Lib.hid hba
  have HST4 := Lib.hid hST4
  have HB4 := Lib.hid hB4
  clear hS3 hS hndb hnmb hA3 hY3 hW4 hba hG hb4 hST4 hB4 hSrc hgne HADD HW2
  go_wp2_with fail
  rw [← HW4.out, ← HBA.out]
  refine HADD2.out.mono ?_
  rintro e w5 ⟨pb, bx5, bz5, x5, y5, cv5, ov5, rfl, hpb, hS5, hcx5, hcy5⟩
  obtain ⟨A5, c5, rfl⟩ := hS5.cl.shape
  have hS : AddSt W4 (fun k => k = db ∨ k = mb ∨ (Value.slice A3 1 c3).ownBlock = some k) w.heap.size db mb pb bx5 bz5 2 [(([97], 0), pa), (([98], 1), pb)] (.slice A5 2 c5) [⟨leafTV 3 0 [97], leafTV 3 0 [116, 114, 117, 101], 1, -1⟩, ⟨x5, y5, 2, -1⟩] 2 2 ov5 [1] x5 y5 w5 := hS5
  have hpa4 : PrAt W4 pa 1 1 ov3 0 := HST4.out.pr
  have hpal : pa < W4.heap.size := hpa4.lt
  have hpaS : ¬ (pa = db ∨ pa = mb ∨ (Value.slice A3 1 c3).ownBlock = some pa) := by
    rintro (h | h | h)
    · exact HST4.out.dp h.symm
    · exact ne_map hpa4 HST4.out.db'.map h
    · obtain ⟨_, cur, hc⟩ := HST4.out.cl.block h
      exact ne_types hpa4 hc (by decide) rfl
  have hpa5 := hpa4.by_fr hS.fr hpaS
  have hod5 : Row w5 w.heap.size 3 1 encI ov3 [0] := HST4.out.od.by_fr hS.fr fun g hg => by
    obtain ⟨_, cur, hc⟩ := HST4.out.od.block hg
    rintro (h | h | h)
    · exact ne_types hc HST4.out.db'.blk (by decide) h
    · exact ne_map hc HST4.out.db'.map h
    · obtain ⟨_, cur2, hc2⟩ := HST4.out.cl.block h
      exact ne_types hc hc2 (by decide) rfl
  have hB5 : Below w.heap.size w w5 := below_call HB4.out (Below.refl _ _) |> fun h => (((Fr.of_below (fun k => w.heap.size ≤ k) h).trans (hS.fr.mono (fun k _ hk => by
    rcases hk with h | h | h
    · omega
    · omega
    · exact (HST4.out.cl.lt k h).1))).below (Nat.le_refl _) (fun k hk => by omega))
  have HKILL := Lib.hid (kill_yes w5 w.heap.size db mb pa 2 [(([97], 0), pa), (([98], 1), pb)] A5 2 c5 _ hS.db' hS.cl 0 ⟨leafTV 3 0 [97], leafTV 3 0 [116, 114, 117, 101], 1, -1⟩ rfl (by decide) 1 1 ov3 hpa5 ⟨by decide, by decide⟩ (by simp [mget, leafTV]) (by decide))
  have HS5 := Lib.hid hS
  have HP5 := Lib.hid (And.intro hpa5 hod5)
  have HB5 := Lib.hid hB5
  have HPB := Lib.hid (And.intro hpb hpal)
  clear hS5 hS hpa4 hpaS hpa5 hod5 hB5 HADD2 HW4 hcx5 hcy5 a0 a1 a2 a3 af y0 y1 y2 y3 yf hbt3 hbl hpb hpal
  go_wp2_with fail
  refine HKILL.out.mono ?_
  rintro e w6 ⟨rfl, hD6, hC6, hP6, hF6⟩
  have hgc : ∀ g, (Value.slice A5 2 c5).ownBlock = some g → ∃ cur, w5.heap[g]? = some (.cells cur 53 (0, 0)) := fun g hg => (HS5.out.cl.block hg).2
  have hpb6 : PrAt w6 pb 2 2 ov5 0 := HS5.out.pr.by_fr hF6 (by
    have h5 : PrAt w5 pb 2 2 ov5 0 := HS5.out.pr
    rintro (h | h | h)
    · exact HS5.out.dp h.symm
    · have := HPB.out.1
      have := HPB.out.2
      omega
    · obtain ⟨cur, hc⟩ := hgc _ h
      exact ne_types h5 hc (by decide) rfl)
  have hod6 : Row w6 w.heap.size 3 1 encI ov3 [0] := HP5.out.2.by_fr hF6 fun g hg => by
    obtain ⟨_, cur, hc⟩ := HP5.out.2.block hg
    rintro (h | h | h)
    · exact ne_types hc HS5.out.db'.blk (by decide) h
    · exact ne_types hc (show w5.heap[pa]? = some (.cells _ 49 (0, 0)) from HP5.out.1) (by decide) h
    · obtain ⟨cur2, hc2⟩ := hgc _ h
      exact ne_types hc hc2 (by decide) rfl
  have hB6 : Below w.heap.size w w6 := (((Fr.of_below (fun k => w.heap.size ≤ k) HB5.out).trans (hF6.mono (fun k _ hk => by
    rcases hk with h | h | h
    · omega
    · have h1 := HST4.out.spb
      have := HB4.out.size
      have := HB2.out.size
      rcases h1 with (h1 | h1) | h1 <;> omega
    · exact (HS5.out.cl.lt k h).1))).below (Nat.le_refl _) (fun k hk => by omega))
  have hin : ∀ x ∈ ([0] : List Int), 0 ≤ x ∧ x < (([⟨leafTV 3 0 [97], leafTV 3 0 [116, 114, 117, 101], 1, 3⟩, ⟨x5, y5, 2, -1⟩] : List ClV).length : Int) := fun x hx => by
    have : x = 0 := by simpa using hx
    subst this
    simp
  have hC6' : Row w6 w.heap.size 53 10 encCl (.slice A5 2 c5) [⟨leafTV 3 0 [97], leafTV 3 0 [116, 114, 117, 101], 1, 3⟩, ⟨x5, y5, 2, -1⟩] := hC6
  have hD6' : DbAt w6 db mb 3 [(([97], 0), pa), (([98], 1), pb)] (.slice A5 2 c5) := hD6
  have HAL : Hid (∀ (u : World) (t : Int), Below w6.heap.size w6 u → Calls Try.prog 10 #[.pointer (some ⟨db, 0, none⟩), .string ⟨#[97]⟩, .int .i64 0, .int .i64 t] u fun e w' => ∃ A c, e = .returned (.slice A (aliveL [⟨leafTV 3 0 [97], leafTV 3 0 [116, 114, 117, 101], 1, 3⟩, ⟨x5, y5, 2, -1⟩] t [0]).length c) ∧ IntsAt w' w'.heap.size A (aliveL [⟨leafTV 3 0 [97], leafTV 3 0 [116, 114, 117, 101], 1, 3⟩, ⟨x5, y5, 2, -1⟩] t [0]).length (aliveL [⟨leafTV 3 0 [97], leafTV 3 0 [116, 114, 117, 101], 1, 3⟩, ⟨x5, y5, 2, -1⟩] t [0]) ∧ Below u.heap.size u w') :=
    Lib.hid fun u t hb => (alive_any u w.heap.size db mb pa 3 _ A5 2 c5 _ (hD6'.later hb) [97] 0 ⟨by decide, by decide⟩ (by simp [mget]) 1 3 ov3 [0] (hP6.later hb) (hC6'.later hb) (hod6.later hb) hin (by decide) t).mono fun e u' ⟨v, h1, h2, h3⟩ => by
      obtain ⟨A, c, rfl, hI⟩ := h2.ints
      exact ⟨A, c, h1, hI, h3⟩
  have HKB : Hid (∀ u : World, Below w6.heap.size w6 u → Calls Try.prog 12 #[.pointer (some ⟨db, 0, none⟩), .string ⟨#[98]⟩, .int .i64 1] u fun e w' => e = .returned (.int .i64 2) ∧ u = w') :=
    Lib.hid fun u hb => kind_any u db mb pb 3 _ _ (hD6'.later hb) [98] 1 ⟨by decide, by decide⟩ (by simp [mget]) 2 2 ov5 0 (hpb6.later hb)
  have HKA : Hid (∀ u : World, Below w6.heap.size w6 u → Calls Try.prog 12 #[.pointer (some ⟨db, 0, none⟩), .string ⟨#[97]⟩, .int .i64 0] u fun e w' => e = .returned (.int .i64 1) ∧ u = w') :=
    Lib.hid fun u hb => kind_any u db mb pa 3 _ _ (hD6'.later hb) [97] 0 ⟨by decide, by decide⟩ (by simp [mget]) 1 3 ov3 0 (hP6.later hb)
  have HTM : Hid (∀ u : World, Below w6.heap.size w6 u → Calls Try.prog 11 #[.pointer (some ⟨db, 0, none⟩)] u fun e w' => e = .returned (.int .i64 3) ∧ u = w') :=
    Lib.hid fun u hb => time_any u db mb 3 _ _ (hD6'.later hb)
  have hL2 : aliveL [⟨leafTV 3 0 [97], leafTV 3 0 [116, 114, 117, 101], 1, 3⟩, ⟨x5, y5, 2, -1⟩] 2 [0] = [0] := by simp [aliveL, liveC]
  have hL3 : aliveL [⟨leafTV 3 0 [97], leafTV 3 0 [116, 114, 117, 101], 1, 3⟩, ⟨x5, y5, 2, -1⟩] 3 [0] = [] := by simp [aliveL, liveC]
  have HAL2 := Lib.hid fun (u : World) (hb : Below w6.heap.size w6 u) => HAL.out u 2 hb
  have HAL3 := Lib.hid fun (u : World) (hb : Below w6.heap.size w6 u) => HAL.out u 3 hb
  simp only [hL2] at HAL2
  simp only [hL3] at HAL3
  have HB6 := Lib.hid hB6
  clear hC6' hD6' hin hL2 hL3 HAL hod6 hpb6 hP6 hC6 hD6 hF6 hgc hB6
  go_wp2_with fail
  refine (HAL2.out _ (Below.refl _ _)).mono ?_
  rintro e w7 ⟨A7, c7, rfl, hI7, hb7⟩
  obtain ⟨W8, hW8⟩ : ∃ W8, W8 = w7.alloc (.cells #[.int .i64 0] 3) := ⟨_, rfl⟩
  have hb8 : Below w7.heap.size w7 W8 := by rw [hW8]; exact below_alloc (Below.refl _ _) _
  have HINT := Lib.hid (ints_any W8 A7 (some ⟨w7.heap.size, 0, none⟩) 1 c7 1 1 [0] [0] ((hI7.below hb8).up hb8.size) ⟨rfl, fun i x hx => ⟨w7.heap.size, 0, rfl, by rw [hW8]; simp, by
    have hi0 : i = 0 := by
      have := (List.getElem?_eq_some_iff.1 hx).1
      simpa using this
    subst hi0
    have hx0 : x = 0 := by simpa using hx.symm
    subst hx0
    rw [hW8]
    exact cell_made w7 _ _ 0 _ rfl⟩⟩ (by decide) (by decide))
  have HB8 : Hid (Below w6.heap.size w6 W8) := Lib.hid (below_call hb7 hb8)
  have HW8 := Lib.hid hW8
  clear hI7 hb7 hb8 hW8
  go_wp2_with fail
  rw [← HW8.out]
  refine HINT.out.mono ?_
  rintro e w9 ⟨rfl, hb9⟩
  have HB9 : Hid (Below w6.heap.size w6 w9) := Lib.hid (below_call HB8.out hb9)
  clear hb9
  go_wp2_with fail
  refine (HAL3.out _ HB9.out).mono ?_
  rintro e w10 ⟨A10, c10, rfl, -, hb10⟩
  have HB10 : Hid (Below w6.heap.size w6 w10) := Lib.hid (below_call HB9.out hb10)
  clear hb10
  go_wp2_with fail
  refine (HKB.out _ HB10.out).mono ?_
  rintro e u1 ⟨rfl, rfl⟩
  go_wp2_with fail
  refine (HKA.out _ HB10.out).mono ?_
  rintro e u1 ⟨rfl, rfl⟩
  go_wp2_with fail
  refine (HTM.out _ HB10.out).mono ?_
  rintro e u1 ⟨rfl, rfl⟩
  go_wp2_with fail
  refine (kill_nil _ _).mono ?_
  rintro e u1 ⟨rfl, rfl⟩
  go_wp2_with fail
  go_ret
  exact ⟨rfl, below_call HB6.out HB10.out⟩
end Go.Proofs.Ytiaajpfebcccfaa
