/- returns, Step, run. Conditions: each contract's own premises. -/
import Derived.Test.YtgomjcnefadenaaGreatDoorE7
namespace Go.Proofs.YtgomjcnefadenaaGreatDoor
open Go Go.RowKit

/-- A step from a state to another one. -/
def StepOk (s s' : St) : Prop := ∀ (w : World) (B : Blks) (O : Nat → Prop), Eng w B s O → Calls Tryz.prog 24 #[ptr B.g] w fun e w' => e = .returned (stV 1 0 0) ∧ Goes B w O w' s'
/-- There is nothing to go on with. -/
def HaltOk (s : St) : Prop := ∀ (w : World) (B : Blks) (O : Nat → Prop), Eng w B s O → Calls Tryz.prog 24 #[ptr B.g] w fun e w' => e = .returned (stV 5 0 0) ∧ Goes B w O w' s
def RetOk (s s' : St) : Prop := ∀ (w : World) (B : Blks) (O : Nat → Prop), Eng w B s O → Calls Tryz.prog 37 #[ptr B.g] w fun e w' => e = .returned (stV 1 0 0) ∧ Goes B w O w' s'

/-- The block of a result that is laid first. -/
theorem box1 (w : World) (W : World) (hW : w.alloc (.cells #[.int .i64 0, .int .i64 0, .int .i64 0] 48) = W) :
    Blk W w.heap.size 48 #[.int .i64 0, .int .i64 0, .int .i64 0] ∧ Chg none_ w W ∧ W.heap.size = w.heap.size + 1 := by
  subst hW
  exact ⟨Blk.new w 48 _, Chg.new none_ w _, by simp⟩

set_option maxRecDepth 100000 in
theorem step_exec (s s' : St) (hx : s.nx ≠ 0) (h : ExecOk s.nx { s with nx := 0 } s') : StepOk s s' := by
  intro w B O H
  have hst := Lib.hid H.st_lt
  have HT := H.tight
  have HE := Lib.hid h
  have hn : (s.nx != 0) = true := by simp [hx]
  obtain ⟨h, hg, ho⟩ := HT
  have c6 := hg.c6
  have f6 := hg.fz 6
  have hlt := hg.blk.lt
  have HG := Lib.hid hg
  have HO := Lib.hid ho
  obtain ⟨X, hX⟩ : ∃ X, s.nx = X := ⟨_, rfl⟩
  rw [hX] at c6 hn HE
  clear H hg ho hx hX
  unfold ptr at *
  go_enter Tryz.func24, Tryz.ntmps24
  go_wp2_with fail
  obtain ⟨b2, hC, hsz⟩ := box1 w _ rfl
  have hgo := ((HG.out).keep hC).goes_set HO.out { s with nx := 0 } 6 (.int .i64 0) ⟨rfl, rfl, rfl, rfl⟩ rfl
  rw [← World.setCell_alloc_past (w := w) _ B.g 6 _ hlt]
  refine (HE.out _ B _ hgo.eng).mono ?_
  rintro e W1 ⟨rfl, hgo2⟩
  have hgo3 := hgo.trans hgo2
  have hb := hgo3.kept b2 (Nat.le_refl _)
  have r0 := hb.cell 0; have r1 := hb.cell 1; have r2 := hb.cell 2; have f0 := hb.frozen 0; have f1 := hb.frozen 1; have f2 := hb.frozen 2; have n1 := hb.lt
  simp only [List.getElem?_toArray, List.getElem?_cons_zero, List.getElem?_cons_succ] at r0 r1 r2
  have HG3 := Lib.hid hgo3
  have HC := Lib.hid hC
  clear hgo hgo2 hgo3 hC hsz hb b2
  unfold stV
  go_wp2
  exact bodyPost_ret (v := stV 1 0 0) (by simp [results, Tryz.results24, go_sem, r0, r1, r2, stV]) rfl ⟨rfl, Goes.ret3 hst.out HC.out HG3.out (Chg.refl _ _) ⟨by omega, by simp⟩ _ _ _⟩

set_option maxRecDepth 100000 in
set_option maxHeartbeats 2000000 in
theorem step_does (s s' : St) (fs : List LF) (f : LF) (hf : s.fs = fs ++ [f]) (h6 : f.k ≠ 6) (h7 : f.k ≠ 7) (hx : s.nx = 0) (p i : Nat) (d : List I3) (x : I3) (hd : s.ds[p]? = some d) (hi : d[i]? = some x) (hdf : s.df = (p : Int) + 1) (hon : s.on = (i : Int))
    (h : DoesOk x { s with on := (i : Int) + 1 } s') : StepOk s s' := by
  intro w B O H
  have hst := Lib.hid H.st_lt
  have HT := H.tight
  have HE := Lib.hid h
  have HTop := Lib.hid (fun W (hW : Chg none_ w W) => eftop_some W B s (Tt O w.heap.size) (HT.keep hW) fs f hf)
  have hi500 : i < 500 := by
    obtain ⟨h, hg, ho⟩ := H
    have h1 := (hg.wds.2 d (List.mem_of_getElem? hd)).1
    rcases Nat.lt_or_ge i d.length with h2 | h2
    · omega
    · rw [List.getElem?_eq_none h2] at hi; cases hi
  have hAT := fun W (hW : Chg none_ w W) => at_some W B s (Tt O w.heap.size) (HT.keep hW) p i d x hd hi s.df hdf
  obtain ⟨k, a, b, fx, fy, l⟩ := f
  simp only at h6 h7
  have t6 : (k == 6) = false := by simp [h6]
  have t7 : (k == 7) = false := by simp [h7]
  have td : (s.df == 0) = false := by simp; omega
  obtain ⟨h, hg, ho⟩ := HT
  have c3 := hg.c3
  have c4 := hg.c4
  have c5 := hg.c5
  have c6 := hg.c6
  rw [hx] at c6
  rw [hon] at c5
  obtain ⟨DF, hDF⟩ : ∃ DF, s.df = DF := ⟨_, rfl⟩
  rw [hDF] at td c4 hAT
  have HAT := Lib.hid hAT
  have f5 := hg.fz 5
  have hlt := hg.blk.lt
  have HG := Lib.hid hg
  have HO := Lib.hid ho
  obtain ⟨op, xa, xw⟩ := x
  simp only [Frm.val, LF.at_] at HTop
  have iw : IntKind.i64.wrap ((i : Int) + 1) = (i : Int) + 1 := IntWalk.i64_in _ (by omega)
  clear H hg ho hx hf h6 h7 hd hi hdf hon hDF hAT
  unfold insV ptr at *
  go_enter Tryz.func24, Tryz.ntmps24
  go_wp2_with fail
  obtain ⟨W, hW⟩ : ∃ W, w.alloc (.cells #[.int .i64 0, .int .i64 0, .int .i64 0] 48) = W := ⟨_, rfl⟩
  obtain ⟨b2, hC, hsz⟩ := box1 w W hW
  rw [hW]
  refine (HTop.out W hC).mono ?_
  rintro e W1 ⟨la, lc, rfl, hc1⟩
  have HC1 := Lib.hid (hC.trans hc1)
  have HB2 := Lib.hid (b2.chg hc1 (fun h => h))
  have c31 := HC1.out.cell_some c3 (fun h => h)
  have c41 := HC1.out.cell_some c4 (fun h => h)
  have c51 := HC1.out.cell_some c5 (fun h => h)
  have n2 : B.g < W1.heap.size := block_lt_of_cell c31
  have HS := Lib.hid (And.intro hsz hc1.size)
  clear b2 hC hc1 hsz hW c3 c4 c5
  go_wp2_with fail
  go_region_law
    (go_simp; go_at_call 38; refine (HAT.out _ (HC1.out.trans (by (repeat (first | exact Chg.refl _ _ | apply Chg.drewN | apply Chg.alloc | apply Chg.drew))))).mono ?_; rintro e W2 ⟨rfl, hc⟩
     have HC2 := Lib.hid ((show Chg none_ W1 _ from (by (repeat (first | exact Chg.refl _ _ | apply Chg.drewN | apply Chg.alloc | apply Chg.drew)))).trans hc)
     have c52 := HC2.out.cell_some c51 (fun h => h)
     have n3 : B.g < W2.heap.size := block_lt_of_cell c52
     have f52 := (HC2.out.frozen (p := ⟨B.g, 5, none⟩) n2 (fun h => h)).trans ((HC1.out.frozen (p := ⟨B.g, 5, none⟩) hlt (fun h => h)).trans f5)
     first
       | (have hb56 : Blk W2 (W1.heap.size + 1) 56 #[.int .u8 0, .int .i64 0, .int .i64 0] := Blk.chg (by have h56 := Blk.new (W1.alloc (.cells #[.int .i64 k, .int .i64 a, .int .i64 b, .int .i64 fx, .int .i64 fy, .slice la l.length lc] 45)) 56 #[.int .u8 0, .int .i64 0, .int .i64 0]; rw [World.size_alloc] at h56; exact h56) hc (fun h => h)
          have z0 := hb56.cell 0; have z1 := hb56.cell 1; have z2 := hb56.cell 2; have y0 := hb56.frozen 0; have y1 := hb56.frozen 1; have y2 := hb56.frozen 2; have y3 := hb56.lt
          simp only [List.getElem?_toArray, List.getElem?_cons_zero, List.getElem?_cons_succ] at z0 z1 z2
          clear hb56)
       | skip
     clear hc)
  all_goals go_wp2_with fail
  all_goals
    first
      | (rw [← World.setCell_alloc_past (w := W2) _ B.g 5 _ n3]
         have HC3 := Lib.hid (HC2.out.alloc (.cells #[.int .u8 op, .int .i64 xa, .int .i64 xw] 56)))
      | (have HC3 := Lib.hid (((HC2.out.setR 0 (show W1.heap.size ≤ W1.heap.size + 1 by omega) (.int .u8 op)).setR 1 (show W1.heap.size ≤ W1.heap.size + 1 by omega) (.int .i64 xa)).setR 2 (show W1.heap.size ≤ W1.heap.size + 1 by omega) (.int .i64 xw)))
    have hgo := ((HG.out).keep (HC1.out.trans HC3.out)).goes_set HO.out { s with on := (i : Int) + 1 } 5 (.int .i64 ((i : Int) + 1)) ⟨rfl, rfl, rfl, rfl⟩ rfl
    refine (HE.out _ B _ hgo.eng).mono ?_
    rintro e W4 ⟨rfl, hgo2⟩
    have hgo3 := Goes.pre HC3.out (hgo.trans hgo2)
    have hb := hgo3.kept HB2.out (Nat.le_refl _)
    have r0 := hb.cell 0; have r1 := hb.cell 1; have r2 := hb.cell 2; have f0 := hb.frozen 0; have f1 := hb.frozen 1; have f2 := hb.frozen 2; have n1 := hb.lt
    simp only [List.getElem?_toArray, List.getElem?_cons_zero, List.getElem?_cons_succ] at r0 r1 r2
    have HG3 := Lib.hid hgo3
    clear hgo hgo2 hgo3 hb
    unfold stV
    go_wp2
    exact bodyPost_ret (v := stV 1 0 0) (by simp [results, Tryz.results24, go_sem, r0, r1, r2, stV]) rfl ⟨rfl, Goes.ret3 hst.out HC1.out HG3.out (Chg.refl _ _) ⟨by omega, by have := HS.out; omega⟩ _ _ _⟩

set_option maxRecDepth 100000 in
theorem returns_call (s : St) (fs : List LF) (f : LF) (hf : s.fs = fs ++ [f]) (hk : f.k = 1) : RetOk s { s with fs := fs, df := f.a, on := f.b } := by
  intro w B O H
  have hst := Lib.hid H.st_lt
  have HT := H.tight
  have HTop := Lib.hid (fun W (hW : Chg none_ w W) => eftop_some W B s (Tt O w.heap.size) (HT.keep hW) fs f hf)
  have HPop := Lib.hid (fun W (hW : Chg none_ w W) => efpop_ok W B s (Tt O w.heap.size) (HT.keep hW) fs f hf)
  obtain ⟨h, hg, ho⟩ := H
  have c3 := hg.c3
  have hlt := hg.blk.lt
  obtain ⟨k, a, b, x, y, l⟩ := f
  simp only at hk
  subst hk
  simp only [Frm.val, LF.at_] at HTop HPop
  clear HT hf hg ho
  unfold ptr at *
  go_enter Tryz.func37, Tryz.ntmps37
  go_wp2_with fail
  obtain ⟨W, hW⟩ : ∃ W, w.alloc (.cells #[.int .i64 0, .int .i64 0, .int .i64 0] 48) = W := ⟨_, rfl⟩
  obtain ⟨b2, hC, hsz⟩ := box1 w W hW
  rw [hW]
  refine (HTop.out W hC).mono ?_
  rintro e W1 ⟨la, lc, rfl, hc1⟩
  have HC1 := Lib.hid (hC.trans hc1)
  have HB2 := Lib.hid (b2.chg hc1 (fun h => h))
  have c31 := HC1.out.cell_some c3 (fun h => h)
  have n2 : B.g < W1.heap.size := World.block_lt_of_cell? _ _ c31
  have HS := Lib.hid (And.intro hsz hc1.size)
  clear b2 hC hc1 hsz hW c3
  go_wp2_with fail
  refine (HPop.out _ (HC1.out.alloc _)).mono ?_
  rintro e W2 ⟨la2, lc2, rfl, _, _, hgo⟩
  have HG := Lib.hid (Goes.pre (Chg.new none_ W1 (.cells #[.int .i64 1, .int .i64 a, .int .i64 b, .int .i64 x, .int .i64 y, .slice la l.length lc] 45)) hgo)
  have hbf : Blk W2 W1.heap.size 45 #[.int .i64 1, .int .i64 a, .int .i64 b, .int .i64 x, .int .i64 y, .slice la l.length lc] := (Blk.new W1 45 _).chg hgo.chg (fun hk => by have := hk.2; have := (HC1.out).size; omega)
  have z1 := hbf.cell 1
  have z2 := hbf.cell 2
  simp only [List.getElem?_toArray, List.getElem?_cons_zero, List.getElem?_cons_succ] at z1 z2
  clear hgo hbf
  go_wp2_with (first
    | (go_at_call 61; refine (place_ok _ B _ _ HG.out.eng a b).mono ?_; rintro e W3 ⟨rfl, hgo⟩; have HG2 := Lib.hid ((HG.out).trans hgo); clear hgo)
    | (go_at_call 51; refine (done_ok _ _).mono ?_; rintro e W4 ⟨rfl, hc⟩; have HC3 := Lib.hid hc; have hb := ((HG2.out).kept HB2.out (Nat.le_refl _)).chg hc (fun h => h); have r0 := hb.cell 0; have r1 := hb.cell 1; have r2 := hb.cell 2; have f0 := hb.frozen 0; have f1 := hb.frozen 1; have f2 := hb.frozen 2; have n1 := hb.lt; simp only [List.getElem?_toArray, List.getElem?_cons_zero, List.getElem?_cons_succ] at r0 r1 r2; clear hc hb))
  exact bodyPost_ret (v := stV 1 0 0) (by simp [results, Tryz.results37, go_sem, r0, r1, r2, stV]) rfl ⟨rfl, Goes.ret3 hst.out HC1.out HG2.out HC3.out ⟨by omega, by have := HS.out; omega⟩ _ _ _⟩

/-- returns, where there is nothing to return to. -/
def RetHalt (s : St) : Prop := ∀ (w : World) (B : Blks) (O : Nat → Prop), Eng w B s O → Calls Tryz.prog 37 #[ptr B.g] w fun e w' => e = .returned (stV 5 0 0) ∧ Goes B w O w' s

set_option maxRecDepth 100000 in
theorem returns_halt (s : St) (hf : s.fs = []) : RetHalt s := by
  intro w B O H
  have HTop := Lib.hid (fun W (hW : Chg none_ w W) => eftop_none W B s O (H.keep hW) hf)
  have HK := Lib.hid (fun W (hW : Chg none_ w W) => Goes.same H hW)
  obtain ⟨h, hg, ho⟩ := H
  have c3 := hg.c3
  have hlt := hg.blk.lt
  simp only [Frm.val] at HTop
  clear hf hg ho
  unfold ptr at *
  go_enter Tryz.func37, Tryz.ntmps37
  go_wp2_with fail
  obtain ⟨W, hW⟩ : ∃ W, w.alloc (.cells #[.int .i64 0, .int .i64 0, .int .i64 0] 48) = W := ⟨_, rfl⟩
  obtain ⟨b2, hC, hsz⟩ := box1 w W hW
  rw [hW]
  refine (HTop.out W hC).mono ?_
  rintro e W1 ⟨rfl, hc1⟩
  have HC1 := Lib.hid (hC.trans hc1)
  have hb := b2.chg hc1 (fun h => h)
  have r0 := hb.cell 0; have r1 := hb.cell 1; have r2 := hb.cell 2; have f0 := hb.frozen 0; have f1 := hb.frozen 1; have f2 := hb.frozen 2; have n1 := hb.lt; simp only [List.getElem?_toArray, List.getElem?_cons_zero, List.getElem?_cons_succ] at r0 r1 r2
  have n2 : w.heap.size ≠ W1.heap.size := by omega
  clear b2 hC hc1 hsz hW hb
  go_wp2
  exact bodyPost_ret (v := stV 5 0 0) (by simp [results, Tryz.results37, go_sem, r0, r1, r2, stV, n1]) rfl ⟨rfl, HK.out _ ((((HC1.out.setR 0 (Nat.le_refl _) _).setR 1 (Nat.le_refl _) _).setR 2 (Nat.le_refl _) _).alloc _)⟩
end Go.Proofs.YtgomjcnefadenaaGreatDoor
