/- The frames' own functions that hold no loop: what they return and what they change. Conditions: each contract's own premises. -/
import Derived.Test.YtgomjcnefadenaaGreatDoorS1
import Derived.RegionTactic
import Derived.BigRegion
import Derived.Deep.RegionHeld3
import Derived.Deep.RegionLaw
import Derived.Outline
namespace Go.Proofs.YtgomjcnefadenaaGreatDoor
open Go Go.RowKit

/-- A frame: its numbers, and its locals with the row that they lie in. -/
structure Frm where
  k : Int
  a : Int
  b : Int
  x : Int
  y : Int
  la : Option Addr
  lc : Nat
  l : List Int

def Frm.cells (f : Frm) : List Value := [.int .i64 f.k, .int .i64 f.a, .int .i64 f.b, .int .i64 f.x, .int .i64 f.y, .slice f.la f.l.length f.lc]
def Frm.val (f : Frm) : Value := .agg #[.int .i64 f.k, .int .i64 f.a, .int .i64 f.b, .int .i64 f.x, .int .i64 f.y, .slice f.la f.l.length f.lc]

theorem own_ok (f : Frm) (w : World) (hr : Rd w f.la (ints f.l)) (hl : f.l.length ≤ 128) :
    Calls Tryz.prog 29 #[f.val] w fun e w' => ∃ la lc, e = .returned ({ f with la := la, lc := lc } : Frm).val ∧ Row w' 33 1 la f.l.length lc (ints f.l) ∧ Chg none_ w w' ∧ ∀ k, inB la k → w.heap.size ≤ k := by
  obtain ⟨k, a, b, x, y, la, lc, l⟩ := f
  simp only [Frm.val] at *
  obtain ⟨W, hW⟩ : ∃ W, (w.alloc (.cells #[.int .i64 k, .int .i64 a, .int .i64 b, .int .i64 x, .int .i64 y, .slice la l.length lc] 45)).alloc (.cells #[.int .i64 0, .int .i64 0, .int .i64 0, .int .i64 0, .int .i64 0, .slice none 0 0] 45) = W := ⟨_, rfl⟩
  have hB0 : Blk W w.heap.size 45 #[.int .i64 k, .int .i64 a, .int .i64 b, .int .i64 x, .int .i64 y, .slice la l.length lc] := by rw [← hW]; exact (Blk.new w _ _).alloc _
  have hB1 : Blk W (w.heap.size + 1) 45 #[.int .i64 0, .int .i64 0, .int .i64 0, .int .i64 0, .int .i64 0, .slice none 0 0] := by rw [← hW]; have := Blk.new (w.alloc (.cells #[.int .i64 k, .int .i64 a, .int .i64 b, .int .i64 x, .int .i64 y, .slice la l.length lc] 45)) 45 #[.int .i64 0, .int .i64 0, .int .i64 0, .int .i64 0, .int .i64 0, .slice none 0 0]; simpa using this
  have hch0 : Chg none_ w W := by rw [← hW]; exact (Chg.new _ _ _).alloc _
  have HC := Lib.hid (clone_any la l.length lc (ints l) W (hr.chg hch0 (fun _ _ h => h)) (by rw [ints_len]) (ints_one _) (by omega))
  have HB0 := Lib.hid hB0
  have HB1 := Lib.hid hB1
  have HCH := Lib.hid hch0
  have HW := Lib.hid hW
  clear hr hB0 hB1 hch0 hW
  go_enter Tryz.func29, Tryz.ntmps29
  go_wp2_with fail
  rw [HW.out]
  refine (HC.out).mono ?_
  rintro e w1 ⟨ad, c, rfl, hrow, hch, hat⟩
  have b0 := (HB0.out).chg hch (fun h => h)
  have b1 := (HB1.out).chg hch (fun h => h)
  have HR := Lib.hid hrow
  have HCH1 := Lib.hid hch
  have HAT := Lib.hid hat
  have HB2 := Lib.hid b0
  have HB3 := Lib.hid b1
  have c00 := b0.cell 0
  have c01 := b0.cell 1
  have c02 := b0.cell 2
  have c03 := b0.cell 3
  have c04 := b0.cell 4
  have c05 := b0.cell 5
  have f05 := b0.frozen 5
  have c10 := b1.cell 0
  have c11 := b1.cell 1
  have c12 := b1.cell 2
  have c13 := b1.cell 3
  have c14 := b1.cell 4
  have c15 := b1.cell 5
  have f1 := b1.frozen
  clear hrow hch hat b0 b1
  simp only [List.getElem?_toArray, List.getElem?_cons_zero, List.getElem?_cons_succ] at c00 c01 c02 c03 c04 c05 c10 c11 c12 c13 c14 c15
  go_wp2
  refine bodyPost_ret (by simp [results, Tryz.results29, go_sem, c10, c11, c12, c13, c14, c15]; rfl) rfl ?_
  have hsz := (HB1.out).lt
  refine ⟨ad, c, rfl, ?_, ?_, fun k hk => by have := HAT.out k hk; omega⟩
  · have hfar : ∀ g, g < W.heap.size → ¬ inB ad g := fun g hg hk => by have := HAT.out g hk; omega
    repeat (refine Row.set_far ?_ _ (hfar _ (by omega)) _)
    exact HR.out
  · have h1 := (HCH.out).trans HCH1.out
    repeat (refine Chg.setR ?_ _ (by omega) _)
    exact h1

/-- The frames at block fr. -/
structure Frs (w : World) (fr : Nat) (ad : Option Addr) (c : Nat) (fs : List Frm) : Prop where
  blk : Blk w fr 86 #[.slice ad fs.length c]
  row : Row w 45 6 ad fs.length c (fs.flatMap Frm.cells)
  le : fs.length ≤ 128
  loc : ∀ f ∈ fs, Row w 33 1 f.la f.l.length f.lc (ints f.l) ∧ f.l.length ≤ 128
  apart : fs.Pairwise (fun f g => ∀ k, inB f.la k → ¬ inB g.la k)

def frsS (fr : Nat) (ad : Option Addr) : Nat → Prop := fun k => k = fr ∨ inB ad k
/-- All blocks of the frames. -/
def frsF (fr : Nat) (ad : Option Addr) (fs : List Frm) : Nat → Prop := fun k => k = fr ∨ inB ad k ∨ ∃ f ∈ fs, inB f.la k

theorem info45 : (Tryz.prog.info? 45).map (fun i => (i.zero, i.size, i.bytes)) = some (some (.agg #[.int .i64 0, .int .i64 0, .int .i64 0, .int .i64 0, .int .i64 0, .slice none 0 0]), 6, 64) := by kernel_rfl

theorem Frs.ne {w : World} {fr : Nat} {ad : Option Addr} {c : Nat} {fs : List Frm} (h : Frs w fr ad c fs) {k : Nat} (hk : inB ad k) : k ≠ fr := by
  rcases h.row.form with ⟨rfl, _⟩ | ⟨g, cur, rfl, hg, _⟩
  · obtain ⟨a, h, _⟩ := hk; cases h
  · obtain ⟨a, he, rfl⟩ := hk
    injection he with he; subst he
    exact hg.ne h.blk (by decide)

theorem Frm.cells_len (f : Frm) : f.cells.length = 6 := rfl
theorem flat_len (fs : List Frm) : (fs.flatMap Frm.cells).length = fs.length * 6 := by
  induction fs with
  | nil => rfl
  | cons f fs ih => simp only [List.flatMap_cons, List.length_append, ih, Frm.cells_len, List.length_cons]; omega
theorem Frm.cells_one (f : Frm) : ∀ u ∈ f.cells, u.oneCell' = true := by
  intro u hu
  simp only [Frm.cells, List.mem_cons, List.not_mem_nil, or_false] at hu
  rcases hu with rfl | rfl | rfl | rfl | rfl | rfl <;> rfl

theorem row_far {w : World} {e e' : TypeId} {sz sz' n n' c c' : Nat} {ad ad' : Option Addr} {xs xs' : List Value} (h : Row w e sz ad n c xs) (h' : Row w e' sz' ad' n' c' xs') (hne : e ≠ e') {k : Nat} (hk : inB ad k) : ¬ inB ad' k := by
  intro hk'
  rcases h.form with ⟨rfl, _⟩ | ⟨g, cur, rfl, hg, _⟩
  · obtain ⟨a, h, _⟩ := hk; cases h
  rcases h'.form with ⟨rfl, _⟩ | ⟨g', cur', rfl, hg', _⟩
  · obtain ⟨a, h, _⟩ := hk'; cases h
  obtain ⟨a, he, rfl⟩ := hk
  obtain ⟨a', he', heq⟩ := hk'
  injection he with he; subst he
  injection he' with he'; subst he'
  exact hg'.ne hg (Ne.symm hne) heq
theorem row_blk {w : World} {e t : TypeId} {sz n c g : Nat} {ad : Option Addr} {xs : List Value} {cs : Array Value} (h : Row w e sz ad n c xs) (h' : Blk w g t cs) (hne : e ≠ t) : ¬ inB ad g := by
  intro hk
  rcases h.form with ⟨rfl, _⟩ | ⟨g', cur, rfl, hg, _⟩
  · obtain ⟨a, h, _⟩ := hk; cases h
  obtain ⟨a, he, rfl⟩ := hk
  injection he with he; subst he
  exact hg.ne h' hne rfl

theorem Frs.pushed {w W1 w2 : World} {fr : Nat} {ad ad2 : Option Addr} {c c2 : Nat} {fs : List Frm} (h : Frs w fr ad c fs) (f : Frm) (hl : f.l.length ≤ 128) (hn : fs.length < 128)
    (hC1 : Chg none_ w W1) (hRl : Row W1 33 1 f.la f.l.length f.lc (ints f.l)) (hla : ∀ k, inB f.la k → w.heap.size ≤ k)
    (hC2 : Chg (inB ad) W1 w2) (hR2 : Row w2 45 6 ad2 (fs.length + 1) c2 (fs.flatMap Frm.cells ++ f.cells)) (hat2 : ∀ k, inB ad2 k → inB ad k ∨ k = W1.heap.size) :
    Frs (w2.setCell ⟨fr, 0, none⟩ (.slice ad2 (fs.length + 1) c2)) fr ad2 c2 (fs ++ [f]) ∧ Chg (frsS fr ad) w (w2.setCell ⟨fr, 0, none⟩ (.slice ad2 (fs.length + 1) c2)) ∧ ∀ k, inB ad2 k → inB ad k ∨ w.heap.size ≤ k := by
  have hfr := h.blk.lt
  have hsz := hC1.size
  have hb2 : Blk w2 fr 86 #[.slice ad fs.length c] := (h.blk.chg hC1 (fun h => h)).chg hC2 (fun hk => h.ne hk rfl)
  have hlen : (fs ++ [f]).length = fs.length + 1 := by simp
  have hrow1 := h.row.chg hC1 (fun _ _ h => h)
  refine ⟨⟨?_, ?_, by omega, ?_, ?_⟩, ?_, ?_⟩
  · rw [hlen]; exact hb2.set_ 0 _
  · rw [hlen, List.flatMap_append, List.flatMap_singleton]
    exact hR2.set_far 0 (row_blk hR2 hb2 (by decide)) _
  · intro g hg
    rcases List.mem_append.1 hg with hg | hg
    · have hw := (h.loc g hg).1
      have h1 := hw.chg hC1 (fun _ _ h => h)
      have h2 := h1.chg hC2 (fun k hk => row_far h1 hrow1 (by decide) hk)
      exact ⟨h2.set_far 0 (row_blk h2 hb2 (by decide)) _, (h.loc g hg).2⟩
    · rw [List.mem_singleton] at hg; subst hg
      have h2 := hRl.chg hC2 (fun k hk => row_far hRl hrow1 (by decide) hk)
      exact ⟨h2.set_far 0 (row_blk h2 hb2 (by decide)) _, hl⟩
  · rw [List.pairwise_append]
    refine ⟨h.apart, List.pairwise_singleton _ _, fun g hg g' hg' k hk hk' => ?_⟩
    rw [List.mem_singleton] at hg'; subst hg'
    have := (h.loc g hg).1.lt hk
    have := hla k hk'
    omega
  · exact ((hC1.weak _).trans (hC2.mono (fun _ h => .inr h))).setL 0 (.inl rfl) _
  · intro k hk
    rcases hat2 k hk with h | h
    · exact .inl h
    · exact .inr (by omega)

theorem fpush_ok (w : World) (fr : Nat) (ad : Option Addr) (c : Nat) (fs : List Frm) (h : Frs w fr ad c fs) (f : Frm) (hr : Rd w f.la (ints f.l)) (hl : f.l.length ≤ 128) (hn : fs.length < 128) :
    Calls Tryz.prog 14 #[.pointer (some ⟨fr, 0, none⟩), f.val] w fun e w' => ∃ ad' c' la lc, e = .returned (.int .i64 0) ∧ Frs w' fr ad' c' (fs ++ [{ f with la := la, lc := lc }]) ∧ Chg (frsS fr ad) w w' ∧
      (∀ k, inB ad' k → inB ad k ∨ w.heap.size ≤ k) ∧ (∀ k, inB la k → w.heap.size ≤ k) := by
  obtain ⟨i0, hi0, hz0, hz1, hz2⟩ := info_parts info45
  obtain ⟨k, a, b, x, y, la, lc, l⟩ := f
  simp only [Frm.val] at *
  have hfr := h.blk.lt
  have hne : ¬ fr = w.heap.size := by omega
  have hB : Blk (w.alloc (.cells #[.int .i64 k, .int .i64 a, .int .i64 b, .int .i64 x, .int .i64 y, .slice la l.length lc] 45)).drew fr 86 #[.slice ad fs.length c] := h.blk.alloc _
  have c0 : w.cell? ⟨fr, 0, none⟩ = some (.slice ad fs.length c) := h.blk.cell 0
  have hd : decide ((128 : Int) ≤ (fs.length : Int)) = false := by simp; omega
  have hO := own_ok ⟨k, a, b, x, y, la, lc, l⟩ (w.alloc (.cells #[.int .i64 k, .int .i64 a, .int .i64 b, .int .i64 x, .int .i64 y, .slice la l.length lc] 45)).drew (hr.chg (Chg.new none_ _ _).drew (fun _ _ h => h)) hl
  simp only [Frm.val] at hO
  have HO := Lib.hid hO
  have H := Lib.hid h
  clear h hr hB hO
  go_enter Tryz.func14, Tryz.ntmps14
  go_wp2_with fail
  obtain ⟨W, hW⟩ : ∃ W, w.alloc (.cells #[.int .i64 k, .int .i64 a, .int .i64 b, .int .i64 x, .int .i64 y, .slice la l.length lc] 45) = W := ⟨_, rfl⟩
  have hBx : Blk W w.heap.size 45 #[.int .i64 k, .int .i64 a, .int .i64 b, .int .i64 x, .int .i64 y, .slice la l.length lc] := by rw [← hW]; exact Blk.new w _ _
  have hBf : Blk W fr 86 #[.slice ad fs.length c] := by rw [← hW]; exact ((H.out).blk).alloc _
  have hRow : Row W 45 6 ad fs.length c (fs.flatMap Frm.cells) := by rw [← hW]; exact ((H.out).row).alloc _
  have hC : Chg none_ w W := by rw [← hW]; exact Chg.new _ _ _
  rw [hW] at HO ⊢
  clear hW
  have x0 := hBx.cell 0
  have x1 := hBx.cell 1
  have x2 := hBx.cell 2
  have x3 := hBx.cell 3
  have x4 := hBx.cell 4
  have x5 := hBx.cell 5
  simp only [List.getElem?_toArray, List.getElem?_cons_zero, List.getElem?_cons_succ] at x0 x1 x2 x3 x4 x5
  have cf : W.cell? ⟨fr, 0, none⟩ = some (.slice ad fs.length c) := hBf.cell 0
  have ff : W.frozen? ⟨fr, 0, none⟩ = false := hBf.frozen 0
  have HBx := Lib.hid hBx
  have HBf := Lib.hid hBf
  have HRow := Lib.hid hRow
  have HC := Lib.hid hC
  clear hBx hBf hRow hC c0
  have hSz := (HBx.out).lt
  go_region_law
    (first
      | (go_simp; go_at_call 29; refine (HO.out).mono ?_; rintro e w1 ⟨la1, lc1, rfl, hrow1, hch1, hat1⟩
         have HB1 := Lib.hid (((HBx.out).drew).chg hch1 (fun h => h)); have HF1 := Lib.hid (((HBf.out).drew).chg hch1 (fun h => h))
         have y0 := HF1.out.cell 0; have z0 := HB1.out.cell 0; have z1 := HB1.out.cell 1; have z2 := HB1.out.cell 2; have z3 := HB1.out.cell 3; have z4 := HB1.out.cell 4; have z5 := HB1.out.cell 5
         simp only [List.getElem?_toArray, List.getElem?_cons_zero, List.getElem?_cons_succ] at y0 z0 z1 z2 z3 z4 z5
         have n1 : fr < w1.heap.size := HF1.out.lt
         have n2 : w.heap.size < w1.heap.size := HB1.out.lt
         have HR1 := Lib.hid hrow1; have HC1 := Lib.hid hch1; have HA1 := Lib.hid hat1; clear hrow1 hch1 hat1)
      | (have _t := HC1; refine step_append_row (o := ⟨some 23, _, _, _, _, _⟩) _ (by rfl) _ _ 84 (by rfl) 45 i0 _ 6 64 Tryz.underlying84 hi0 hz0 hz1 hz2 (by rfl) (by decide) ad fs.length c (fs.flatMap Frm.cells) (by rfl) ((((HRow.out).drew).chg HC1.out (fun _ _ h => h)).alloc _) (some ⟨w1.heap.size, 0, none⟩) 1 1 (Frm.cells ⟨k, a, b, x, y, la1, lc1, l⟩) (by rfl) (Rd.of_blk (Blk.new w1 45 _)) (by rfl) (Frm.cells_one _) (by unfold maxLen; omega) (by omega) ?_
         intro ad2 c2 w2 hrow2 hch2 hat2
         have HF2 := Lib.hid (((HF1.out).alloc _).chg hch2 (fun hk => (H.out).ne hk rfl))
         have y0 := HF2.out.cell 0; have ff2 := HF2.out.frozen 0
         simp only [List.getElem?_toArray, List.getElem?_cons_zero] at y0
         have HR2 := Lib.hid hrow2; have HC2 := Lib.hid hch2; have HA2 := Lib.hid hat2; clear hrow2 hch2 hat2))
  all_goals go_wp2
  all_goals go_ret
  all_goals
    have hc1 : Chg none_ w (w1.alloc (.cells #[.int .i64 k, .int .i64 a, .int .i64 b, .int .i64 x, .int .i64 y, .slice la1 l.length lc1] 45)) := (((HC.out).drew).trans HC1.out).alloc _
    have fin := (H.out).pushed ⟨k, a, b, x, y, la1, lc1, l⟩ hl hn hc1 ((HR1.out).alloc _) (fun i hi => by have := HA1.out i hi; have := (HC.out).size; simp at *; omega) HC2.out HR2.out HA2.out
    exact ⟨ad2, c2, la1, lc1, rfl, fin.1, fin.2.1, fin.2.2, fun i hi => by have := HA1.out i hi; have := (HC.out).size; simp at *; omega⟩
end Go.Proofs.YtgomjcnefadenaaGreatDoor
