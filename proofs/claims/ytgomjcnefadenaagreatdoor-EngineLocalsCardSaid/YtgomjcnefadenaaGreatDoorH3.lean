/- (*Engine).Add. Conditions: each contract's own premises. -/
import Derived.Test.YtgomjcnefadenaaGreatDoorH2
import Derived.Test.YtgomjcnefadenaaGreatDoorG5
namespace Go.Proofs.YtgomjcnefadenaaGreatDoor
open Go Go.RowKit

theorem EngG.added {w w1 w2 : World} {B : Blks} {s : St} {h : Gh} {O : Nat → Prop} {ad2 : Option Addr} {c2 M : Nat} (HG : EngG w B s h) (HO : ∀ k, engF B h k → O k) (x : Wrd) (hM : s.ws.length = M) (hn : M < 600) (h1 : Chg none_ w w1) (h2 : Chg (inB h.wad) w1 w2)
    (hr : Row w2 35 3 ad2 (M + 1) c2 (s.ws.flatMap Wrd.cells ++ x.cells)) (hb : Blk w2 B.g 74 (engCells B s h)) (ha : ∀ i, inB ad2 i → inB h.wad i ∨ i = w1.heap.size) :
    Goes B w O (w2.setCell ⟨B.g, 2, none⟩ (.slice ad2 (M + 1) c2)) { s with ws := s.ws ++ [x] } := by
  have hs1 := h1.size
  have hg0 := HG.blk.lt
  obtain ⟨mv, hmv⟩ := HG.stb
  have hWg : ∀ k, inB h.wad k → k ≠ B.g := fun k hk => HG.words.neBlk HG.blk (by decide) hk
  have hC : Chg (fun k => k = B.g ∨ inB h.wad k) w (w2.setCell ⟨B.g, 2, none⟩ (.slice ad2 (M + 1) c2)) :=
    ((h1.weak _).trans' h2 (fun i hi => .inl (.inr hi))).setL 2 (.inl rfl) _
  refine ⟨⟨{ h with wad := ad2, wc := c2 }, ⟨?_, HG.code.chg hC ?_, HG.ends.chg hC ?_, ?_, ?_, HG.log, ⟨mv, hmv.chg hC ?_⟩, HG.stk.chg hC ?_, HG.cs, HG.lcs, HG.wds, ?_⟩, ?_⟩, hC.mono ?_⟩
  · have := hb.set_ 2 (.slice ad2 (M + 1) c2)
    unfold engCells at this ⊢
    simp only [List.length_append, hM, List.length_singleton]
    simpa using this
  · rintro k hk (e | e)
    · exact HG.code.neBlk HG.blk (by decide) hk e
    · exact row_far HG.code HG.words (by decide) hk e
  · rintro k hk (e | e)
    · exact HG.ends.neBlk HG.blk (by decide) hk e
    · exact row_far HG.ends HG.words (by decide) hk e
  · show Row _ 35 3 ad2 (s.ws ++ [x]).length c2 ((s.ws ++ [x]).flatMap Wrd.cells)
    have e : (s.ws ++ [x]).length = M + 1 := by simp [hM]
    have e2 : (s.ws ++ [x]).flatMap Wrd.cells = s.ws.flatMap Wrd.cells ++ x.cells := by simp
    rw [e, e2]
    refine hr.set_far 2 (fun hk => ?_) _
    rcases ha _ hk with h3 | h3
    · exact hWg _ h3 rfl
    · omega
  · refine HG.frs.chg hC ?_
    rintro k (rfl | hk | ⟨f, hf, hk⟩) (e | e)
    · exact HG.frs.blk.ne HG.blk (by decide) e
    · exact row_blk HG.words HG.frs.blk (by decide) e
    · exact HG.frs.row.neBlk HG.blk (by decide) hk e
    · exact row_far HG.frs.row HG.words (by decide) hk e
    · exact (HG.frs.loc f hf).1.neBlk HG.blk (by decide) hk e
    · exact row_far (HG.frs.loc f hf).1 HG.words (by decide) hk e
  · rintro (e | e)
    · exact hmv.ne HG.blk (by decide) e
    · exact row_blk HG.words hmv (by decide) e
  · rintro k (rfl | hk) (e | e)
    · exact HG.stk.blk.ne HG.blk (by decide) e
    · exact row_blk HG.words HG.stk.blk (by decide) e
    · exact HG.stk.row.neBlk HG.blk (by decide) hk e
    · exact row_far HG.stk.row HG.words (by decide) hk e
  · show (s.ws ++ [x]).length ≤ 600
    simp; omega
  · rintro k (rfl | hk | hk | hk | hk | hk)
    · exact .inl (HO _ (.inl rfl))
    · exact .inl (HO _ (.inr (.inl hk)))
    · exact .inl (HO _ (.inr (.inr (.inl hk))))
    · rcases ha k hk with h3 | h3
      · exact .inl (HO _ (.inr (.inr (.inr (.inl h3)))))
      · exact .inr (by omega)
    · exact .inl (HO _ (.inr (.inr (.inr (.inr (.inl hk))))))
    · exact .inl (HO _ (.inr (.inr (.inr (.inr (.inr hk))))))
  · rintro k (rfl | hk)
    · exact HO _ (.inl rfl)
    · exact HO _ (.inr (.inr (.inr (.inl hk))))

theorem wcells_one (x : Wrd) : ∀ u ∈ x.cells, u.oneCell' = true := by
  intro u hu
  simp only [Wrd.cells, List.mem_cons, List.not_mem_nil, or_false] at hu
  rcases hu with rfl | rfl | rfl <;> rfl

set_option maxRecDepth 100000 in
set_option maxHeartbeats 2000000 in
theorem add_ok (w : World) (B : Blks) (s : St) (O : Nat → Prop) (H : Eng w B s O) (x : Wrd) (hn : s.ws.length < 600)
    (hmay : ∀ W, Chg none_ w W → Calls Tryz.prog 28 #[ptr B.g, .agg #[.int .i64 x.k, .int .i64 x.n, .int .i64 x.w]] W fun e w' => e = .returned (.bool true) ∧ Chg none_ W w') :
    Calls Tryz.prog 9 #[ptr B.g, .agg #[.int .i64 x.k, .int .i64 x.n, .int .i64 x.w]] w fun e w' => e = .returned (.tuple #[.int .i64 ((s.ws.length : Int) + 1), .int .i64 0]) ∧ Goes B w O w' { s with ws := s.ws ++ [x] } := by
  obtain ⟨h, hg, ho⟩ := H
  have HM := Lib.hid (hmay (w.alloc (.cells #[.int .i64 x.k, .int .i64 x.n, .int .i64 x.w] 35)) (Chg.new none_ _ _))
  have c2 := hg.c2
  obtain ⟨M, hMl⟩ : ∃ M, s.ws.length = M := ⟨_, rfl⟩
  rw [hMl] at c2 hn ⊢
  have d1 : decide ((600 : Int) ≤ (M : Int)) = false := by simp; omega
  have hBx : Blk (w.alloc (.cells #[.int .i64 x.k, .int .i64 x.n, .int .i64 x.w] 35)) w.heap.size 35 #[.int .i64 x.k, .int .i64 x.n, .int .i64 x.w] := Blk.new w _ _
  have HBx := Lib.hid hBx
  have HG := Lib.hid hg
  have HO := Lib.hid ho
  have HMl := Lib.hid hMl
  have hlt := hg.blk.lt
  clear hg ho hmay hMl hBx
  unfold ptr at *
  go_enter Tryz.func9, Tryz.ntmps9
  go_wp2_with (go_at_call 28; refine (HM.out).mono ?_; rintro e W ⟨rfl, hc⟩
               have x0 : W.cell? ⟨w.heap.size, 0, none⟩ = some (.int .i64 x.k) := (HBx.out.chg hc (fun h => h)).cell 0
               have x1 : W.cell? ⟨w.heap.size, 1, none⟩ = some (.int .i64 x.n) := (HBx.out.chg hc (fun h => h)).cell 1
               have x2 : W.cell? ⟨w.heap.size, 2, none⟩ = some (.int .i64 x.w) := (HBx.out.chg hc (fun h => h)).cell 2
               have hcw : Chg none_ w W := (Chg.new none_ _ _).trans hc
               have e2 : W.cell? ⟨B.g, 2, none⟩ = some (.slice h.wad M h.wc) := hcw.cell_some c2 (fun h => h)
               have n1 : B.g < W.heap.size := World.block_lt_of_cell? _ _ e2
               have n2 : w.heap.size < W.heap.size := World.block_lt_of_cell? _ _ x0
               have HC := Lib.hid hcw
               clear hc hcw)
  have hRow : Row W 35 3 h.wad M h.wc (s.ws.flatMap Wrd.cells) := by
    have := (HG.out).words
    rw [HMl.out] at this
    exact this.chg HC.out (fun _ _ h => h)
  have HRow := Lib.hid hRow
  have HBg := Lib.hid (HG.out.blk.chg HC.out (fun h => h))
  have HNE := Lib.hid (show ¬ inB h.wad B.g from fun hk => (HG.out).words.neBlk (HG.out).blk (by decide) hk rfl)
  obtain ⟨i0, hi0, hz0, hz1, hz2⟩ := info_parts info35
  have H0i := Lib.hid (And.intro hi0 (And.intro hz0 (And.intro hz1 hz2)))
  clear hi0 hz0 hz1 hz2 hRow
  go_region_law
    (have _t := HRow; refine step_append_row (o := ⟨some 28, _, _, _, _, _⟩) _ (by rfl) _ _ 71 (by rfl) 35 i0 _ 3 24 Tryz.underlying71 (H0i.out).1 (H0i.out).2.1 (H0i.out).2.2.1 (H0i.out).2.2.2 (by rfl) (by decide) h.wad M h.wc (s.ws.flatMap Wrd.cells) (by rfl) (((HRow.out).alloc _).drew) (some ⟨W.heap.size, 0, none⟩) 1 1 x.cells (by rfl) (Rd.of_blk (Blk.new W.drew 35 _)) (by rfl) (wcells_one x) (by unfold maxLen; omega) (by omega) ?_
     intro ad2 c2 w2 hrow2 hch2 hat2
     have HF2 := Lib.hid ((((HBg.out).alloc _).drew).chg hch2 HNE.out)
     have y0 : w2.cell? ⟨B.g, 2, none⟩ = some (.slice h.wad M h.wc) := by have := HF2.out.cell 2; rw [← HMl.out]; exact this
     have ff2 : w2.frozen? ⟨B.g, 2, none⟩ = false := HF2.out.frozen 2
     have HR2 := Lib.hid hrow2; have HC2 := Lib.hid hch2; have HA2 := Lib.hid hat2; clear hrow2 hch2 hat2)
  all_goals go_wp2
  all_goals go_ret2
  all_goals exact ⟨rfl, HG.out.added HO.out x HMl.out hn (HC.out.alloc _).drew HC2.out HR2.out HF2.out HA2.out⟩
end Go.Proofs.YtgomjcnefadenaaGreatDoor
