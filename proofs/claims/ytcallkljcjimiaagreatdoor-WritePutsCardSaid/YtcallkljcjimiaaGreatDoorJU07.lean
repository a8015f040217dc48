import Derived.Test.YtcallkljcjimiaaGreatDoorJU06
namespace Go.Proofs.YtcallkljcjimiaaGreatDoor
set_option maxRecDepth 100000
open Go.ChangeShapes Go.WideShapes Go.ChangeAt Go.RowKit Go.Deep
theorem partCells : Tryz.prog.cellsOf 93 = 4 := by kernel_rfl
theorem partFields : ∃ f g k h : Field, Tryz.prog.underlying 93 = some (.struct #[f, g, k, h]) ∧ f.type = 3 ∧ g.type = 2 ∧ k.type = 9 ∧ h.type = 5 ∧ f.offset = 0 ∧ g.offset = 1 ∧ k.offset = 2 ∧ h.offset = 3 := ⟨_, _, _, _, Tryz.underlying93, rfl, rfl, rfl, rfl, rfl, rfl, rfl, rfl⟩
theorem i64Cells : Tryz.prog.cellsOf 2 = 1 := by kernel_rfl
theorem u8Cells7 : Tryz.prog.cellsOf 5 = 1 := by kernel_rfl
theorem parts_of_trod {H : Type} {enc : TypeId × Value → H} {W : World} {base : Nat} {sp : Nat → Bool} {held : Bool} {n : Nat} {v : Value} {y : DataW H × List MemPlace} (h : DataW.trod enc Tryz.prog W base sp held n 22 [v] = some y) :
    ∃ (A : Option Addr) (k c : Nat), v = .slice A k c ∧ PartsIn W A k c := by
 rcases open_slice Tryz.underlying22 h with ⟨h0, _⟩ | ⟨a, len, cap, m, n', D, Pl, hcs, _, hlc, hcm, hm, _, hel⟩
 ·obtain rfl : v = .slice none 0 0 := by simpa using h0
  exact ⟨none, 0, 0, rfl, fun _ => ⟨[], rfl, Nat.le_refl _, ⟨fun i x h => (by simp at h), fun p hp => (by cases hp), Nat.zero_le _⟩, fun p hp => (by cases hp)⟩⟩
 ·obtain rfl : v = .slice (some a) len cap := by simpa using hcs
  have hlm : len ≤ m := by rw [hm]; split <;> omega
  rw [partCells] at hel
  obtain ⟨f, g, q, r, hu, f1, g1, q1, r1, f2, g2, q2, r2⟩ := partFields
  have key : ∀ i, i < len → ∃ x : PartT, (∃ b off, (some a : Option Addr) = some ⟨b, off, none⟩ ∧ b < W.heap.size ∧ ∀ (j : Nat) u, (encPart x)[j]? = some u → W.cell? ⟨b, off + i * 4 + j, none⟩ = some u) ∧ (x.s.length ≤ maxLen ∧ x.a < 256) ∧ (-9223372036854775808 ≤ x.n ∧ x.n ≤ 9223372036854775807) := by
   intro i hi
   obtain ⟨ha, hb⟩ := rows_at (w := W) (base := base) (a := a) (k := 4) (len := len) (by omega) (fun j hj => by obtain ⟨cs, h1, _⟩ := hel j (by omega); exact ⟨cs, h1⟩) (by omega)
   obtain ⟨cs, h1, h2⟩ := hel i (by omega)
   obtain ⟨_, hl3, hc⟩ := World.cells?_some h1
   obtain ⟨xs, _, _, _, _, hxl, hf⟩ := DataW.trod_struct hu h2
   match cs, hl3 with
   | [c0, c1, c2, c3], _ =>
    have e0 := hf 0 f rfl
    have e1 := hf 1 g rfl
    have e2 := hf 2 q rfl
    have e3 := hf 3 r rfl
    rw [f1, f2] at e0
    rw [g1, g2] at e1
    rw [q1, q2] at e2
    rw [r1, r2] at e3
    rw [show Tryz.prog.cellsOf 3 = 1 from intCells] at e0
    rw [i64Cells] at e1
    rw [show Tryz.prog.cellsOf 9 = 1 from stringCells] at e2
    rw [u8Cells7] at e3
    simp only [List.drop_zero, List.take_succ_cons, List.take_zero, List.drop_succ_cons] at e0 e1 e2 e3
    have hlen : xs.length = 4 := hxl
    obtain ⟨y0, hy0⟩ : ∃ y0, xs[0]? = some y0 := ⟨_, List.getElem?_eq_getElem (by omega)⟩
    obtain ⟨y1, hy1⟩ : ∃ y1, xs[1]? = some y1 := ⟨_, List.getElem?_eq_getElem (by omega)⟩
    obtain ⟨y2, hy2⟩ : ∃ y2, xs[2]? = some y2 := ⟨_, List.getElem?_eq_getElem (by omega)⟩
    obtain ⟨y3, hy3⟩ : ∃ y3, xs[3]? = some y3 := ⟨_, List.getElem?_eq_getElem (by omega)⟩
    rw [hy0] at e0
    rw [hy1] at e1
    rw [hy2] at e2
    rw [hy3] at e3
    obtain ⟨p, hp, _, _⟩ := DataW.trod_int Tryz.underlying3 e0
    obtain ⟨t, ht, _, wt⟩ := DataW.trod_int Tryz.underlying2 e1
    obtain ⟨s, hs, _, hsz⟩ := DataW.trod_string Tryz.underlying9 e2
    obtain ⟨o, ho, _, wo⟩ := DataW.trod_int Tryz.underlying5 e3
    simp only [List.cons.injEq, and_true] at hp ht hs ho
    subst hp ht hs ho
    have bo := bounds_u8 wo
    have bt := bounds_i64 wt
    have a0 := hc 0 (by omega)
    have a1 := hc 1 (by omega)
    have a2 := hc 2 (by omega)
    have a3 := hc 3 (by omega)
    rw [ha, add_lit', add_lit'] at a0 a1 a2 a3
    refine ⟨⟨p, t, s.data.toList, o.toNat⟩, ⟨a.block, a.off, by rw [← ha], hb, ?_⟩, ⟨?_, by show o.toNat < 256; omega⟩, bt⟩
    ·intro j u hu
     have ho : ((o.toNat : Nat) : Int) = o := by omega
     unfold encPart at hu
     rw [ho] at hu
     match j, hu with
     | 0, hu =>
      have hu : Value.int .i64 p = u := by simpa using hu
      rw [← hu]; simpa using a0
     | 1, hu =>
      have hu : Value.int .i64 t = u := by simpa using hu
      rw [← hu]; simpa using a1
     | 2, hu =>
      have hu : Value.string s = u := by simpa using hu
      rw [← hu]; simpa using a2
     | 3, hu =>
      have hu : Value.int .u8 o = u := by simpa using hu
      rw [← hu]; simpa using a3
     | j + 4, hu => simp at hu
    ·show s.data.toList.length ≤ maxLen
     rw [Array.length_toList]
     exact hsz
  obtain ⟨l, hl, hq⟩ := exists_list len key
  refine ⟨some a, len, cap, rfl, fun hn => ⟨l, hl, hlc, ⟨fun i p hp => (hq i p hp).1, fun p hp => ?_, by omega⟩, fun p hp => ?_⟩⟩
  ·obtain ⟨i, hi, rfl⟩ := List.getElem_of_mem hp
   exact (hq i _ (List.getElem?_eq_getElem hi)).2.1
  ·obtain ⟨i, hi, rfl⟩ := List.getElem_of_mem hp
   exact (hq i _ (List.getElem?_eq_getElem hi)).2.2
theorem gPow : Tryz.prog.globalNamed "internal/strconv.uint64pow10" = some 4 := by kernel_rfl
theorem gPowType : (Tryz.prog.globals[4]?).map (·.type) = some 228 := by kernel_rfl
theorem powCells : Tryz.prog.cellsOf 202 = 1 := by kernel_rfl
theorem powsCells : Tryz.prog.cellsOf 228 = 20 := by kernel_rfl
theorem pow_of_laid {W : World} {rest : List (String × DataW Unit)} (h : laidMet Tryz.prog (("internal/strconv.uint64pow10", Rows.laid_internal_strconv_uint64pow10) :: rest) W) : PowAt W :=
 Lib.tabIs_of_head (rest := rest) gPow gPowType Tryz.underlying228 Tryz.underlying202 powCells powsCells h
theorem env_of_laid {W : World} {m : Int} (hm : W.cell? ⟨3, 0, none⟩ = some (.int .i64 m))
    (hL : laidMet Tryz.prog [("math/bits.deBruijn32tab", Rows.laid_math_bits_deBruijn32tab), ("math/bits.deBruijn64tab", Rows.laid_math_bits_deBruijn64tab), ("internal/strconv.uint64pow10", Rows.laid_internal_strconv_uint64pow10), ("unicode.White_Space", Rows.laid_unicode_White_Space), ("strings.asciiSpace", Rows.laid_strings_asciiSpace), ("prolix/ops.kinds", Rows.laid_prolix_ops_kinds)] W) : WrEnv W := by
 have h1 := hL.tail
 have h2 := h1.tail
 have h4 := h2.tail.tail
 exact ⟨⟨⟨m, hm⟩, kinds_of_laid h4.tail, space_of_laid h4⟩, ⟨kinds_of_laid h4.tail, pow_of_laid h2, tab_of_laid h1⟩⟩
theorem defCells : Tryz.prog.cellsOf 95 = 3 := by kernel_rfl
theorem defFields : ∃ f g k : Field, Tryz.prog.underlying 95 = some (.struct #[f, g, k]) ∧ f.type = 3 ∧ g.type = 3 ∧ k.type = 9 ∧ f.offset = 0 ∧ g.offset = 1 ∧ k.offset = 2 := ⟨_, _, _, Tryz.underlying95, rfl, rfl, rfl, rfl, rfl, rfl⟩
theorem defs_of_trod {H : Type} {enc : TypeId × Value → H} {W : World} {base : Nat} {sp : Nat → Bool} {held : Bool} {n : Nat} {v : Value} {y : DataW H × List MemPlace} (h : DataW.trod enc Tryz.prog W base sp held n 36 [v] = some y) :
    ∃ (A : Option Addr) (k c : Nat) (l : List DefT), v = .slice A k c ∧ DefsAt W W.heap.size A k l ∧ k ≤ maxLen := by
 rcases open_slice Tryz.underlying36 h with ⟨h0, _⟩ | ⟨a, len, cap, m, n', D, Pl, hcs, _, hlc, hcm, hm, _, hel⟩
 ·obtain rfl : v = .slice none 0 0 := by simpa using h0
  exact ⟨none, 0, 0, [], rfl, ⟨rfl, fun i x h => by simp at h⟩, by simp [maxLen]⟩
 ·obtain rfl : v = .slice (some a) len cap := by simpa using hcs
  have hlm : len ≤ m := by rw [hm]; split <;> omega
  rw [defCells] at hel
  obtain ⟨f, g, q, hu, f1, g1, q1, f2, g2, q2⟩ := defFields
  have key : ∀ i, i < len → ∃ x : DefT, ∃ b off, (some a : Option Addr) = some ⟨b, off, none⟩ ∧ b < W.heap.size ∧ W.cell? ⟨b, off + i * 3, none⟩ = some (.int .i64 x.1) ∧ W.cell? ⟨b, off + i * 3 + 1, none⟩ = some (.int .i64 x.2.1) ∧
      W.cell? ⟨b, off + i * 3 + 2, none⟩ = some (.string ⟨x.2.2.toArray⟩) ∧ x.2.2.length ≤ maxLen := by
   intro i hi
   obtain ⟨ha, hb⟩ := rows_at (w := W) (base := base) (a := a) (k := 3) (len := len) (by omega) (fun j hj => by obtain ⟨cs, h1, _⟩ := hel j (by omega); exact ⟨cs, h1⟩) (by omega)
   obtain ⟨cs, h1, h2⟩ := hel i (by omega)
   obtain ⟨_, hl3, hc⟩ := World.cells?_some h1
   obtain ⟨xs, _, _, _, _, hxl, hf⟩ := DataW.trod_struct hu h2
   match cs, hl3 with
   | [c0, c1, c2], _ =>
    have e0 := hf 0 f rfl
    have e1 := hf 1 g rfl
    have e2 := hf 2 q rfl
    rw [f1, f2] at e0
    rw [g1, g2] at e1
    rw [q1, q2] at e2
    rw [show Tryz.prog.cellsOf 3 = 1 from intCells] at e0 e1
    rw [show Tryz.prog.cellsOf 9 = 1 from stringCells] at e2
    simp only [List.drop_zero, List.take_succ_cons, List.take_zero, List.drop_succ_cons] at e0 e1 e2
    have hlen : xs.length = 3 := hxl
    obtain ⟨y0, hy0⟩ : ∃ y0, xs[0]? = some y0 := ⟨_, List.getElem?_eq_getElem (by omega)⟩
    obtain ⟨y1, hy1⟩ : ∃ y1, xs[1]? = some y1 := ⟨_, List.getElem?_eq_getElem (by omega)⟩
    obtain ⟨y2, hy2⟩ : ∃ y2, xs[2]? = some y2 := ⟨_, List.getElem?_eq_getElem (by omega)⟩
    rw [hy0] at e0
    rw [hy1] at e1
    rw [hy2] at e2
    obtain ⟨p, hp, _, _⟩ := DataW.trod_int Tryz.underlying3 e0
    obtain ⟨t, ht, _, _⟩ := DataW.trod_int Tryz.underlying3 e1
    obtain ⟨s, hs, _, hsz⟩ := DataW.trod_string Tryz.underlying9 e2
    simp only [List.cons.injEq, and_true] at hp ht hs
    subst hp ht hs
    have a0 := hc 0 (by omega)
    have a1 := hc 1 (by omega)
    have a2 := hc 2 (by omega)
    rw [ha, add_lit', add_lit'] at a0 a1 a2
    refine ⟨(p, t, s.data.toList), a.block, a.off, by rw [← ha], hb, by simpa using a0, by simpa using a1, by simpa using a2, ?_⟩
    show s.data.toList.length ≤ maxLen
    rw [Array.length_toList]
    exact hsz
  obtain ⟨l, hl, hq⟩ := exists_list len key
  exact ⟨some a, len, cap, l, rfl, ⟨hl, hq⟩, by omega⟩
end Go.Proofs.YtcallkljcjimiaaGreatDoor
