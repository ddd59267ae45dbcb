/- Step without a place; run. Conditions: each contract's own premises. -/
import Derived.Test.YtgomjcnefadenaaGreatDoorE8
import Derived.Deep.LoopGhost
namespace Go.Proofs.YtgomjcnefadenaaGreatDoor
open Go Go.RowKit

set_option maxRecDepth 100000 in
theorem step_returns (s s' : St) (fs : List LF) (f : LF) (hf : s.fs = fs ++ [f]) (h6 : f.k ≠ 6) (h7 : f.k ≠ 7) (hx : s.nx = 0) (hdf : s.df = 0) (hr : RetOk s s') : StepOk s s' := by
  intro w B O H
  have hst := Lib.hid H.st_lt
  have HT := H.tight
  have HTop := Lib.hid (fun W (hW : Chg none_ w W) => eftop_some W B s (Tt O w.heap.size) (HT.keep hW) fs f hf)
  have HR := Lib.hid (fun W (hW : Chg none_ w W) => hr W B (Tt O w.heap.size) (HT.keep hW))
  obtain ⟨h, hg, ho⟩ := H
  have c3 := hg.c3
  have c4 := hg.c4
  have c6 := hg.c6
  rw [hx] at c6
  rw [hdf] at c4
  have hlt := hg.blk.lt
  obtain ⟨k, a, b, x, y, l⟩ := f
  simp only at h6 h7
  have t6 : (k == 6) = false := by simp [h6]
  have t7 : (k == 7) = false := by simp [h7]
  simp only [Frm.val, LF.at_] at HTop
  clear HT hf hg ho h6 h7 hx hdf hr
  unfold ptr at *
  go_enter Tryz.func24, Tryz.ntmps24
  go_wp2_with fail
  obtain ⟨W, hW⟩ : ∃ W, w.alloc (.cells #[.int .i64 0, .int .i64 0, .int .i64 0] 48) = W := ⟨_, rfl⟩
  obtain ⟨b2, hC, hsz⟩ := box1 w W hW
  rw [hW]
  refine (HTop.out W hC).mono ?_
  rintro e W1 ⟨la, lc, rfl, hc1⟩
  have HC1 := Lib.hid (hC.trans hc1)
  have HB2 := Lib.hid (b2.chg hc1 (fun h => h))
  have c31 := HC1.out.cell_some c3 (fun h => h)
  have c41 := HC1.out.cell_some c4 (fun h => h)
  have n2 : B.g < W1.heap.size := World.block_lt_of_cell? _ _ c31
  have HS := Lib.hid (And.intro hsz hc1.size)
  clear b2 hC hc1 hsz hW c3 c4
  go_wp2_with fail
  refine (HR.out _ (HC1.out.alloc _)).mono ?_
  rintro e W2 ⟨rfl, hgo⟩
  have HG := Lib.hid (Goes.pre (Chg.new none_ W1 (.cells #[.int .i64 k, .int .i64 a, .int .i64 b, .int .i64 x, .int .i64 y, .slice la l.length lc] 45)) hgo)
  have hb := (HG.out).kept HB2.out (Nat.le_refl _)
  have r0 := hb.cell 0; have r1 := hb.cell 1; have r2 := hb.cell 2; have f0 := hb.frozen 0; have f1 := hb.frozen 1; have f2 := hb.frozen 2; have n1 := hb.lt
  simp only [List.getElem?_toArray, List.getElem?_cons_zero, List.getElem?_cons_succ] at r0 r1 r2
  clear hgo hb
  unfold stV
  go_wp2
  exact bodyPost_ret (v := stV 1 0 0) (by simp [results, Tryz.results24, go_sem, r0, r1, r2, stV]) rfl ⟨rfl, Goes.ret3 hst.out HC1.out HG.out (Chg.refl _ _) ⟨by omega, by have := HS.out; omega⟩ _ _ _⟩

set_option maxRecDepth 100000 in
theorem step_halt (s : St) (hf : s.fs = []) (hx : s.nx = 0) (hdf : s.df = 0) : HaltOk s := by
  intro w B O H
  have hst := Lib.hid H.st_lt
  have HT := H.tight
  have HTop := Lib.hid (fun W (hW : Chg none_ w W) => eftop_none W B s (Tt O w.heap.size) (HT.keep hW) hf)
  have HR := Lib.hid (fun W (hW : Chg none_ w W) => returns_halt s hf W B (Tt O w.heap.size) (HT.keep hW))
  obtain ⟨h, hg, ho⟩ := H
  have c3 := hg.c3
  have c4 := hg.c4
  have c6 := hg.c6
  rw [hx] at c6
  rw [hdf] at c4
  have hlt := hg.blk.lt
  simp only [Frm.val] at HTop
  clear HT hf hg ho hx hdf
  unfold ptr at *
  go_enter Tryz.func24, Tryz.ntmps24
  go_wp2_with fail
  obtain ⟨W, hW⟩ : ∃ W, w.alloc (.cells #[.int .i64 0, .int .i64 0, .int .i64 0] 48) = W := ⟨_, rfl⟩
  obtain ⟨b2, hC, hsz⟩ := box1 w W hW
  rw [hW]
  refine (HTop.out W hC).mono ?_
  rintro e W1 ⟨rfl, hc1⟩
  have HC1 := Lib.hid (hC.trans hc1)
  have HB2 := Lib.hid (b2.chg hc1 (fun h => h))
  have c31 := HC1.out.cell_some c3 (fun h => h)
  have c41 := HC1.out.cell_some c4 (fun h => h)
  have n2 : B.g < W1.heap.size := World.block_lt_of_cell? _ _ c31
  have HS := Lib.hid (And.intro hsz hc1.size)
  clear b2 hC hc1 hsz hW c3 c4
  go_wp2_with fail
  refine (HR.out _ (HC1.out.alloc _)).mono ?_
  rintro e W2 ⟨rfl, hgo⟩
  have HG := Lib.hid (Goes.pre (Chg.new none_ W1 (.cells #[.int .i64 0, .int .i64 0, .int .i64 0, .int .i64 0, .int .i64 0, .slice none 0 0] 45)) hgo)
  have hb := (HG.out).kept HB2.out (Nat.le_refl _)
  have r0 := hb.cell 0; have r1 := hb.cell 1; have r2 := hb.cell 2; have f0 := hb.frozen 0; have f1 := hb.frozen 1; have f2 := hb.frozen 2; have n1 := hb.lt
  simp only [List.getElem?_toArray, List.getElem?_cons_zero, List.getElem?_cons_succ] at r0 r1 r2
  clear hgo hb
  unfold stV
  go_wp2
  exact bodyPost_ret (v := stV 5 0 0) (by simp [results, Tryz.results24, go_sem, r0, r1, r2, stV]) rfl ⟨rfl, Goes.ret3 hst.out HC1.out HG.out (Chg.refl _ _) ⟨by omega, by have := HS.out; omega⟩ _ _ _⟩

/-- So many steps. -/
def Runs : Nat → St → St → Prop
  | 0, s, s' => s = s'
  | m + 1, s, s' => ∃ t, StepOk s t ∧ Runs m t s'
theorem Runs.trans {a b : Nat} {s t u : St} (h : Runs a s t) (k : Runs b t u) : Runs (a + b) s u := by
  induction a generalizing s with
  | zero => cases h; rw [Nat.zero_add]; exact k
  | succ a ih =>
    obtain ⟨v, h1, h2⟩ := h
    rw [Nat.succ_add]
    exact ⟨v, h1, ih h2⟩
theorem Runs.one {s t : St} (h : StepOk s t) : Runs 1 s t := ⟨t, h, rfl⟩

set_option maxRecDepth 100000 in
theorem run_ok (m : Nat) (s s' : St) (hr : Runs m s s') (hh : HaltOk s') (most : Nat) (hm : m < most) (hmo : most ≤ 10000) (w : World) (B : Blks) (O : Nat → Prop) (H : Eng w B s O) :
    Calls Tryz.prog 16 #[ptr B.g, .int .i64 most] w fun e w' => e = .returned (stV 5 0 0) ∧ Goes B w O w' s' := by
  have hst := Lib.hid H.st_lt
  have HT := Lib.hid H.tight
  have HR := Lib.hid hr
  have HH := Lib.hid hh
  clear H hr hh
  unfold ptr at *
  go_enter Tryz.func16, Tryz.ntmps16
  go_wp2_with fail
  obtain ⟨W, hW⟩ : ∃ W, w.alloc (.cells #[.int .i64 0, .int .i64 0, .int .i64 0] 48) = W := ⟨_, rfl⟩
  obtain ⟨b2, hC, hsz⟩ := box1 w W hW
  rw [hW]
  have HG0 := Lib.hid (Goes.same (HT.out.keep hC) (Chg.refl none_ W))
  have HC := Lib.hid hC
  have HB2 := Lib.hid b2
  have HS := Lib.hid hsz
  clear hW b2 hC hsz
  go_loopg [7] m (fun gm i wr => ∃ k : Nat, k + gm = m ∧ i = .int .i64 k ∧ ∃ t, Hid (Runs gm t s') ∧ Hid (Goes B W (Tt O w.heap.size) wr t))
  case atStart => exact ⟨0, by omega, rfl, s, HR, HG0⟩
  case round =>
    obtain ⟨k, hk, rfl, t, HRt, HG⟩ := hrel
    have hkm : k < most := by omega
    have iwk : IntKind.i64.wrap ((k : Int) + 1) = (k : Int) + 1 := IntWalk.i64_in _ (by omega)
    rcases gk with _ | m'
    · obtain rfl : t = s' := HRt.out
      have HK := Lib.hid hk
      clear hk
      go_wp2_with fail
      refine (HH.out _ B _ HG.out.eng).mono ?_
      rintro e W1 ⟨rfl, hgo⟩
      have HG1 := Lib.hid ((HG.out).trans hgo)
      have hb := (HG1.out).kept HB2.out (Nat.le_refl _)
      have r0 := hb.cell 0; have r1 := hb.cell 1; have r2 := hb.cell 2; have f0 := hb.frozen 0; have f1 := hb.frozen 1; have f2 := hb.frozen 2; have n1 := hb.lt
      simp only [List.getElem?_toArray, List.getElem?_cons_zero, List.getElem?_cons_succ] at r0 r1 r2
      clear hgo hb
      unfold stV
      go_wp2
      exact bodyPost_ret (v := stV 5 0 0) (by simp [results, Tryz.results16, go_sem, r0, r1, r2, stV, n1]) rfl ⟨rfl, (Goes.ret3 hst.out HC.out HG1.out (Chg.refl _ _) ⟨Nat.le_refl _, by have := HS.out; omega⟩ _ _ _).post (Chg.new none_ _ _)⟩
    · obtain ⟨u, h1, h2⟩ := HRt.out
      have H1 := Lib.hid h1
      have H2 := Lib.hid h2
      have HK := Lib.hid hk
      clear hk h1 h2
      go_wp2_with fail
      refine (H1.out _ B _ HG.out.eng).mono ?_
      rintro e W1 ⟨rfl, hgo⟩
      have HG1 := Lib.hid ((HG.out).trans hgo)
      clear hgo
      unfold stV
      go_wp2
      go_roundg m'
      all_goals first | (have := HK.out; omega) | skip
      all_goals exact ⟨k + 1, by have := HK.out; omega, by simp, u, H2, Lib.hid (HG1.out.post (Chg.new none_ _ _))⟩
end Go.Proofs.YtgomjcnefadenaaGreatDoor
