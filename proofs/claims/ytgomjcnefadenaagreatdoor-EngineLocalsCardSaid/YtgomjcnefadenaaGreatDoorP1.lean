/- Pop: the uppermost frame is taken off, if it is of the kind. Conditions: each contract's own premises. -/
import Derived.Test.YtgomjcnefadenaaGreatDoorI1
import Derived.Outline
namespace Go.Proofs.YtgomjcnefadenaaGreatDoor
open Go Go.RowKit

theorem Chg.ofB {w w' : World} (h : Below w.heap.size w w') : Chg none_ w w' := Chg.of_below h (Nat.le_refl _)

set_option maxHeartbeats 1000000 in
theorem fpop_ok (w : World) (fr : Nat) (ad : Option Addr) (c : Nat) (fs : List Frm) (f : Frm) (h : Frs w fr ad c (fs ++ [f])) :
    Calls Tryz.prog 60 #[.pointer (some ⟨fr, 0, none⟩), .int .i64 f.k] w fun e w' => ∃ la lc, e = .returned (.tuple #[({ f with la := la, lc := lc } : Frm).val, .int .i64 0]) ∧ Frs w' fr ad c fs ∧ Row w' 33 1 la f.l.length lc (ints f.l) ∧
      Chg (fun k => k = fr) w w' ∧ ∀ k, inB la k → w.heap.size ≤ k := by
  obtain ⟨g, rfl, hcg, _, hg, hgf⟩ := h.at (i := fs.length) (f := f) (by simp)
  have m1 : fr < w.heap.size := h.blk.lt
  obtain ⟨k, a, b, x, y, la, lc, l⟩ := f
  simp only [Frm.val] at *
  obtain ⟨W, hW⟩ : ∃ W, w.alloc (.cells #[.int .i64 0, .int .i64 0, .int .i64 0, .int .i64 0, .int .i64 0, .slice none 0 0] 45) = W := ⟨_, rfl⟩
  have hch : Chg none_ w W := by rw [← hW]; exact Chg.new _ _ _
  have hB : Blk W w.heap.size 45 #[.int .i64 0, .int .i64 0, .int .i64 0, .int .i64 0, .int .i64 0, .slice none 0 0] := by rw [← hW]; exact Blk.new _ _ _
  have hF := h.chg hch (fun _ _ h => h)
  have hU := upper_some W fr c fs ⟨k, a, b, x, y, la, lc, l⟩ g hF k
  simp only [if_true] at hU
  have HU := Lib.hid hU
  have HF := Lib.hid hF
  have HB := Lib.hid hB
  have HC := Lib.hid hch
  have HW := Lib.hid hW
  have HG := Lib.hid hcg
  clear h hF hU hB hch hW hcg
  go_enter Tryz.func60, Tryz.ntmps60
  go_wp2_with fail
  rw [HW.out]
  refine (HU.out).mono ?_
  rintro e w1 ⟨rfl, hb1⟩
  have hc1 := Chg.ofB hb1
  have hF1 := (HF.out).chg hc1 (fun _ _ h => h)
  have hloc := hF1.loc ⟨k, a, b, x, y, la, lc, l⟩ (by simp)
  have hO := own_ok ⟨k, a, b, x, y, la, lc, l⟩ w1 hloc.1.rd hloc.2
  simp only [Frm.val] at hO
  obtain ⟨g', hge, hcg', _, hg1, _⟩ := hF1.at (i := fs.length) (f := ⟨k, a, b, x, y, la, lc, l⟩) (by simp)
  injection hge with hge; injection hge with hge _ _; subst hge
  have g0 := hcg' 0 (by omega)
  have g1 := hcg' 1 (by omega)
  have g2 := hcg' 2 (by omega)
  have g3 := hcg' 3 (by omega)
  have g4 := hcg' 4 (by omega)
  have g5 := hcg' 5 (by omega)
  simp only [Frm.cells, List.getElem?_cons_zero, List.getElem?_cons_succ, Nat.add_zero] at g0 g1 g2 g3 g4 g5
  have HO := Lib.hid hO
  have HF1 := Lib.hid hF1
  have HC1 := Lib.hid hc1
  have HB1 := Lib.hid ((HB.out).chg hc1 (fun h => h))
  clear hO hF1 hc1 hloc hcg' hb1
  go_wp2_with fail
  refine (HO.out).mono ?_
  rintro e w2 ⟨la2, lc2, rfl, hr2, hc2, ha2⟩
  have HF2 := Lib.hid ((HF1.out).chg hc2 (fun _ _ h => h))
  have HB2 := Lib.hid ((HB1.out).chg hc2 (fun h => h))
  have HR2 := Lib.hid hr2
  have HC2 := Lib.hid hc2
  have HA2 := Lib.hid ha2
  have k0 : w2.cell? ⟨fr, 0, none⟩ = some (.slice (some ⟨g, 0, none⟩) (fs.length + 1) c) := by have := (HF2.out).blk.cell 0; simpa using this
  have k1 : fr < w2.heap.size := (HF2.out).blk.lt
  have k2 : w.heap.size < w2.heap.size := (HB2.out).lt
  have i0 : fs.length + 1 ≤ 128 := by have := (HF2.out).le; simpa using this
  clear hr2 hc2 ha2 g0 g1 g2 g3 g4 g5
  go_wp2_with fail
  have hF3 := (HF2.out).chg (Chg.new none_ w2 (.cells #[.int .i64 k, .int .i64 a, .int .i64 b, .int .i64 x, .int .i64 y, .slice la2 l.length lc2] 45)) (fun _ _ h => h)
  have HB3 := Lib.hid ((HB2.out).alloc (.cells #[.int .i64 k, .int .i64 a, .int .i64 b, .int .i64 x, .int .i64 y, .slice la2 l.length lc2] 45))
  have HY3 := Lib.hid (Blk.new w2 45 #[.int .i64 k, .int .i64 a, .int .i64 b, .int .i64 x, .int .i64 y, .slice la2 l.length lc2])
  refine (fcut_ok _ fr _ c fs [_] hF3 (by simp)).mono ?_
  rintro e w4 ⟨rfl, hF4, hc4⟩
  have hB4 := (HB3.out).chg hc4 (by omega)
  have hY4 := (HY3.out).chg hc4 (by omega)
  have HF4 := Lib.hid hF4
  have HC4 := Lib.hid hc4
  have HB4 := Lib.hid hB4
  have y0 := hY4.cell 0
  have y1 := hY4.cell 1
  have y2 := hY4.cell 2
  have y3 := hY4.cell 3
  have y4 := hY4.cell 4
  have y5 := hY4.cell 5
  have z0 := hB4.cell 0
  have z1 := hB4.cell 1
  have z2 := hB4.cell 2
  have z3 := hB4.cell 3
  have z4 := hB4.cell 4
  have z5 := hB4.cell 5
  have zf := hB4.frozen
  simp only [List.getElem?_toArray, List.getElem?_cons_zero, List.getElem?_cons_succ] at y0 y1 y2 y3 y4 y5 z0 z1 z2 z3 z4 z5
  clear hF3 hF4 hc4 hB4 hY4 k0
  go_wp2
  refine bodyPost_ret (v := .tuple #[.agg #[.int .i64 k, .int .i64 a, .int .i64 b, .int .i64 x, .int .i64 y, .slice la2 l.length lc2], .int .i64 0]) (by simp [results, Tryz.results60, go_sem, z0, z1, z2, z3, z4, z5]) rfl ⟨la2, lc2, rfl, ?_, ?_, ?_, ?_⟩
  · have hz : ∀ q, q = fr ∨ inB (some ⟨g, 0, none⟩) q ∨ (∃ f ∈ fs, inB f.la q) → q ≠ w.heap.size := fun q hq => by
      have := (HF.out).chg (Chg.refl none_ W) (fun _ _ h => h)
      rintro rfl
      rcases hq with hq | hq | ⟨f, hf, hq⟩
      · omega
      · obtain ⟨a, he, hq⟩ := hq
        injection he with he
        subst he
        simp only at hq
        omega
      · exact row_blk ((HF4.out).loc f hf).1 HB4.out (by decide) hq
    refine (HF4.out).chg (S := fun q => q = w.heap.size) ?_ (fun q hq he => hz q hq he)
    iterate 6 (refine Chg.setL ?_ _ (by exact rfl) _)
    exact Chg.refl _ _
  · have s1 := (HC1.out).size
    have s2 := (HC.out).size
    have hn : ∀ q, inB la2 q → ¬ q = fr := fun q hq he => by
      have := HA2.out q hq
      omega
    have hr4 : Row w4 33 1 la2 l.length lc2 (ints l) := Row.chg (S := fun q => q = fr) ((HR2.out).alloc _) HC4.out hn
    iterate 6 (refine Row.set_far ?_ _ (row_blk hr4 HB4.out (by decide)) _)
    exact hr4
  · have h0 : Chg none_ w w2 := ((HC.out).trans HC1.out).trans HC2.out
    have h1 : Chg (fun q => q = fr) w w4 := ((h0.alloc _).weak _).trans HC4.out
    iterate 6 (refine Chg.setR ?_ _ (Nat.le_refl _) _)
    exact h1
  · intro q hq
    have := HA2.out q hq
    have := (HC1.out).size
    have := (HC.out).size
    omega
end Go.Proofs.YtgomjcnefadenaaGreatDoor
