/- The frames: Depth, Top, Cut: what they return and what they change. Conditions: each contract's own premises. -/
import Derived.Test.YtgomjcnefadenaaGreatDoorF1
import Derived.Outline
namespace Go.Proofs.YtgomjcnefadenaaGreatDoor
open Go Go.RowKit

theorem flat_at (fs : List Frm) (i j : Nat) (f : Frm) (h : fs[i]? = some f) (hj : j < 6) : (fs.flatMap Frm.cells)[i * 6 + j]? = f.cells[j]? := by
  induction fs generalizing i with
  | nil => simp at h
  | cons g fs ih =>
    rw [List.flatMap_cons]
    cases i with
    | zero =>
      simp only [List.getElem?_cons_zero, Option.some.injEq] at h
      subst h
      rw [Nat.zero_mul, Nat.zero_add, List.getElem?_append_left (by rw [Frm.cells_len]; exact hj)]
    | succ i =>
      simp only [List.getElem?_cons_succ] at h
      rw [List.getElem?_append_right (by rw [Frm.cells_len]; omega), Frm.cells_len, show (i + 1) * 6 + j - 6 = i * 6 + j from by omega]
      exact ih i h

/-- Where a frame lies. -/
theorem Frs.at {w : World} {fr : Nat} {ad : Option Addr} {c : Nat} {fs : List Frm} (h : Frs w fr ad c fs) {i : Nat} {f : Frm} (hi : fs[i]? = some f) :
    ∃ g, ad = some ⟨g, 0, none⟩ ∧ (∀ j, j < 6 → w.cell? ⟨g, i * 6 + j, none⟩ = f.cells[j]?) ∧ (∀ j, w.frozen? ⟨g, j, none⟩ = false) ∧ g < w.heap.size ∧ g ≠ fr := by
  have hl : i < fs.length := by
    rcases Nat.lt_or_ge i fs.length with h | h
    · exact h
    · rw [List.getElem?_eq_none h] at hi; cases hi
  have h0 := h.row
  rcases h0.form with ⟨rfl, hn, _, _⟩ | ⟨g, cur, rfl, hg, hnc, hcm, hcs, ht⟩
  · omega
  refine ⟨g, rfl, fun j hj => ?_, hg.frozen, hg.lt, hg.ne h.blk (by decide)⟩
  obtain ⟨g', he, hc, _⟩ := h0.cell (j := i * 6 + j) (by rw [flat_len]; omega)
  injection he with he; injection he with he _ _; subst he
  rw [hc, ← flat_at fs i j f hi hj, List.getElem?_eq_getElem]

theorem fdepth_ok (w : World) (fr : Nat) (ad : Option Addr) (c : Nat) (fs : List Frm) (h : Frs w fr ad c fs) :
    Calls Tryz.prog 18 #[.pointer (some ⟨fr, 0, none⟩)] w fun e w' => e = .returned (.int .i64 fs.length) ∧ w = w' := by
  have hc : w.cell? ⟨fr, 0, none⟩ = some (.slice ad fs.length c) := h.blk.cell 0
  clear h
  go_enter Tryz.func18, Tryz.ntmps18
  go_wp2
  go_ret
  exact ⟨rfl, rfl⟩

theorem Frs.chg {S : Nat → Prop} {w w' : World} {fr : Nat} {ad : Option Addr} {c : Nat} {fs : List Frm} (h : Frs w fr ad c fs) (hc : Chg S w w') (hn : ∀ k, frsF fr ad fs k → ¬ S k) : Frs w' fr ad c fs :=
  ⟨h.blk.chg hc (hn fr (.inl rfl)), h.row.chg hc (fun k hk => hn k (.inr (.inl hk))), h.le, fun f hf => ⟨(h.loc f hf).1.chg hc (fun k hk => hn k (.inr (.inr ⟨f, hf, hk⟩))), (h.loc f hf).2⟩, h.apart⟩
theorem Frs.lt {w : World} {fr : Nat} {ad : Option Addr} {c : Nat} {fs : List Frm} (h : Frs w fr ad c fs) : ∀ k, frsF fr ad fs k → k < w.heap.size := fun k hk => by
  rcases hk with rfl | hk | ⟨f, hf, hk⟩
  · exact h.blk.lt
  · exact h.row.lt hk
  · exact (h.loc f hf).1.lt hk

theorem ftop_none (w : World) (fr : Nat) (ad : Option Addr) (c : Nat) (h : Frs w fr ad c []) :
    Calls Tryz.prog 17 #[.pointer (some ⟨fr, 0, none⟩)] w fun e w' => e = .returned (.tuple #[(⟨0, 0, 0, 0, 0, none, 0, []⟩ : Frm).val, .bool false]) ∧ Chg none_ w w' := by
  have hlt := h.blk.lt
  have HD := fun o => Lib.hid (fdepth_ok (w.alloc o) fr ad c [] (h.chg (Chg.new none_ _ _) (fun _ _ h => h)))
  clear h
  go_enter Tryz.func17, Tryz.ntmps17
  go_wp2_with (go_at_call 18; refine ((HD _).out).mono ?_; rintro e w' ⟨rfl, rfl⟩)
  refine bodyPost_ret (v := .tuple #[(⟨0, 0, 0, 0, 0, none, 0, []⟩ : Frm).val, .bool false]) (by simp [results, Tryz.results17, go_sem, Frm.val]) rfl ⟨rfl, ?_⟩
  repeat (refine Chg.setR ?_ _ (by omega) _)
  exact Chg.new _ _ _

theorem ftop_some (w : World) (fr : Nat) (ad : Option Addr) (c : Nat) (fs : List Frm) (f : Frm) (h : Frs w fr ad c (fs ++ [f])) :
    Calls Tryz.prog 17 #[.pointer (some ⟨fr, 0, none⟩)] w fun e w' => ∃ la lc, e = .returned (.tuple #[({ f with la := la, lc := lc } : Frm).val, .bool true]) ∧ Row w' 33 1 la f.l.length lc (ints f.l) ∧ Chg none_ w w' ∧ ∀ k, inB la k → w.heap.size ≤ k := by
  obtain ⟨g, rfl, hcg, _, hg, hgf⟩ := h.at (i := fs.length) (f := f) (by simp)
  have m1 : fr ≠ w.heap.size := by have := h.blk.lt; omega
  obtain ⟨k, a, b, x, y, la, lc, l⟩ := f
  simp only [Frm.val] at *
  obtain ⟨W, hW⟩ : ∃ W, w.alloc (.cells #[.int .i64 0, .int .i64 0, .int .i64 0, .int .i64 0, .int .i64 0, .slice none 0 0] 45) = W := ⟨_, rfl⟩
  have hch : Chg none_ w W := by rw [← hW]; exact Chg.new _ _ _
  have hB : Blk W w.heap.size 45 #[.int .i64 0, .int .i64 0, .int .i64 0, .int .i64 0, .int .i64 0, .slice none 0 0] := by rw [← hW]; exact Blk.new _ _ _
  have hF := h.chg hch (fun _ _ h => h)
  have HD := Lib.hid (fdepth_ok W fr _ c _ hF)
  have hloc := (hF.loc ⟨k, a, b, x, y, la, lc, l⟩ (by simp))
  have hO := own_ok ⟨k, a, b, x, y, la, lc, l⟩ W.drew ((hloc.1).rd.chg (Chg.refl none_ W).drew (fun _ _ h => h)) hloc.2
  simp only [Frm.val] at hO
  have HO := Lib.hid hO
  have hl : fs.length + 1 ≤ 128 := by have := h.le; simpa using this
  have c0 : W.cell? ⟨fr, 0, none⟩ = some (.slice (some ⟨g, 0, none⟩) (fs.length + 1) c) := by have := hF.blk.cell 0; simpa using this
  have hcg' : ∀ j, j < 6 → W.cell? ⟨g, fs.length * 6 + j, none⟩ = (Frm.cells ⟨k, a, b, x, y, la, lc, l⟩)[j]? := fun j hj => by rw [hch.cell hg (fun h => h)]; exact hcg j hj
  have g0 := hcg' 0 (by omega)
  have g1 := hcg' 1 (by omega)
  have g2 := hcg' 2 (by omega)
  have g3 := hcg' 3 (by omega)
  have g4 := hcg' 4 (by omega)
  have g5 := hcg' 5 (by omega)
  simp only [Frm.cells, List.getElem?_cons_zero, List.getElem?_cons_succ, Nat.add_zero] at g0 g1 g2 g3 g4 g5
  have hd : ((fs.length : Int) + 1 == 0) = false := by simp; omega
  have HB := Lib.hid hB
  have HC := Lib.hid hch
  have HW := Lib.hid hW
  clear hO h hF hloc hcg hcg' hB hch hW
  go_enter Tryz.func17, Tryz.ntmps17
  go_wp2_with fail
  rw [HW.out]
  refine (HD.out).mono ?_
  rintro e w' ⟨rfl, rfl⟩
  go_wp2
  have i1 : (0 : Int) ≤ (fs.length : Int) := by omega
  have i2 : (fs.length : Int) < (fs.length : Int) + 1 := by omega
  have iw : IntKind.i64.wrap (fs.length : Int) = (fs.length : Int) := IntWalk.i64_in _ (by omega)
  have m2 : g ≠ w.heap.size := by omega
  go_region_held3 (fun w' => w'.cell? ⟨fr, 0, none⟩ = some (.slice (some ⟨g, 0, none⟩) (fs.length + 1) c) ∧ w'.cell? ⟨g, fs.length * 6, none⟩ = some (.int .i64 k) ∧ w'.cell? ⟨g, fs.length * 6 + 1, none⟩ = some (.int .i64 a) ∧ w'.cell? ⟨g, fs.length * 6 + 2, none⟩ = some (.int .i64 b) ∧ w'.cell? ⟨g, fs.length * 6 + 3, none⟩ = some (.int .i64 x) ∧ w'.cell? ⟨g, fs.length * 6 + 4, none⟩ = some (.int .i64 y) ∧ w'.cell? ⟨g, fs.length * 6 + 5, none⟩ = some (.slice la l.length lc)) ((refine ⟨?_, ?_, ?_, ?_, ?_, ?_, ?_⟩ <;> (repeat rw [World.cell?_setCell_other _ _ _ _ (fun e => by injection e with e; omega)]) <;> assumption))
    (first
      | (go_at_call 29; refine (HO.out).mono ?_; rintro e w1 ⟨la1, lc1, rfl, hrow1, hch1, hat1⟩
         have HB1 := Lib.hid (((HB.out).drew).chg hch1 (fun h => h))
         have y0 := hch1.cell_some (w := w1) (a := W.drew) (p := ⟨fr, 0, none⟩) c0 (fun h => h)
         have y1 := hch1.cell_some (w := w1) (a := W.drew) (p := ⟨g, fs.length * 6, none⟩) g0 (fun h => h)
         have y2 := hch1.cell_some (w := w1) (a := W.drew) (p := ⟨g, fs.length * 6 + 1, none⟩) g1 (fun h => h)
         have y3 := hch1.cell_some (w := w1) (a := W.drew) (p := ⟨g, fs.length * 6 + 2, none⟩) g2 (fun h => h)
         have y4 := hch1.cell_some (w := w1) (a := W.drew) (p := ⟨g, fs.length * 6 + 3, none⟩) g3 (fun h => h)
         have y5 := hch1.cell_some (w := w1) (a := W.drew) (p := ⟨g, fs.length * 6 + 4, none⟩) g4 (fun h => h)
         have y6 := hch1.cell_some (w := w1) (a := W.drew) (p := ⟨g, fs.length * 6 + 5, none⟩) g5 (fun h => h)
         have z0 := HB1.out.cell 0; have z1 := HB1.out.cell 1; have z2 := HB1.out.cell 2; have z3 := HB1.out.cell 3; have z4 := HB1.out.cell 4; have z5 := HB1.out.cell 5
         have zf := HB1.out.frozen
         simp only [List.getElem?_toArray, List.getElem?_cons_zero, List.getElem?_cons_succ] at z0 z1 z2 z3 z4 z5
         have HR1 := Lib.hid hrow1; have HC1 := Lib.hid hch1; have HA1 := Lib.hid hat1; clear hrow1 hch1 hat1))
  go_wp2
  refine bodyPost_ret (v := .tuple #[.agg #[.int .i64 k, .int .i64 a, .int .i64 b, .int .i64 x, .int .i64 y, .slice la1 l.length lc1], .bool true]) (by simp [results, Tryz.results17, go_sem, z0, z1, z2, z3, z4, z5]) rfl ⟨la1, lc1, rfl, ?_, ?_, ?_⟩
  · have hfar : ∀ q, q < W.heap.size → ¬ inB la1 q := fun q hq hk => by have := HA1.out q hk; simp at this; omega
    have hz := (HB.out).lt
    repeat (refine Row.set_far ?_ _ (hfar _ (by omega)) _)
    exact HR1.out
  · have h1 := ((HC.out).drew).trans HC1.out
    repeat (refine Chg.setR ?_ _ (by omega) _)
    exact h1
  · intro q hq
    have := HA1.out q hq
    have := (HC.out).size
    simp at *
    omega

theorem fcut_ok (w : World) (fr : Nat) (ad : Option Addr) (c : Nat) (fs gs : List Frm) (h : Frs w fr ad c (fs ++ gs)) (hg : 0 < gs.length) :
    Calls Tryz.prog 65 #[.pointer (some ⟨fr, 0, none⟩), .int .i64 fs.length] w fun e w' => e = .returned (.tuple #[]) ∧ Frs w' fr ad c fs ∧ Chg (fun k => k = fr) w w' := by
  have c0 : w.cell? ⟨fr, 0, none⟩ = some (.slice ad (fs.length + gs.length) c) := by have := h.blk.cell 0; simpa using this
  have f0 : w.frozen? ⟨fr, 0, none⟩ = false := h.blk.frozen 0
  have hl : fs.length + gs.length ≤ 128 := by have := h.le; simpa using this
  have hc : fs.length + gs.length ≤ c := by have := h.row.le; simpa using this
  have hd : decide ((fs.length : Int) < (fs.length : Int) + (gs.length : Int)) = true := by simp; omega
  have HD := Lib.hid (fdepth_ok w fr ad c _ h)
  have H := Lib.hid h
  clear h
  go_enter Tryz.func65, Tryz.ntmps65
  go_wp2_with (go_at_call 18; refine (HD.out).mono ?_; rintro e w' ⟨rfl, rfl⟩)
  go_end0
  have hF := H.out
  refine ⟨rfl, ⟨hF.blk.set_ 0 _, ?_, by omega, ?_, ?_⟩, Chg.set (fun k => k = fr) w fr 0 rfl _⟩
  · have hr := hF.row.front (k := fs.length) (by simp)
    rw [List.flatMap_append, ← flat_len, List.take_left] at hr
    exact hr.set_far 0 (row_blk hr hF.blk (by decide)) _
  · intro f hf
    have hr := (hF.loc f (List.mem_append_left _ hf))
    exact ⟨hr.1.set_far 0 (row_blk hr.1 hF.blk (by decide)) _, hr.2⟩
  · exact (List.pairwise_append.1 hF.apart).1

/-- Cut at a depth that there is not: nothing. -/
theorem fcut_no (w : World) (fr : Nat) (ad : Option Addr) (c : Nat) (fs : List Frm) (h : Frs w fr ad c fs) (n : Int) (hn : (fs.length : Int) ≤ n) :
    Calls Tryz.prog 65 #[.pointer (some ⟨fr, 0, none⟩), .int .i64 n] w fun e w' => e = .returned (.tuple #[]) ∧ w = w' := by
  have h0 : max n 0 = n := by omega
  have hd : decide (n < (fs.length : Int)) = false := by simp; omega
  have HD := Lib.hid (fdepth_ok w fr ad c _ h)
  clear h
  go_enter Tryz.func65, Tryz.ntmps65
  go_wp2_with (go_at_call 18; refine (HD.out).mono ?_; rintro e w' ⟨rfl, rfl⟩)
  go_end0
  exact ⟨rfl, rfl⟩
end Go.Proofs.YtgomjcnefadenaaGreatDoor
