/- holds at the end of a definition; does. Conditions: each contract's own premises. -/
import Derived.Test.YtgomjcnefadenaaGreatDoorE5
namespace Go.Proofs.YtgomjcnefadenaaGreatDoor
open Go Go.RowKit

set_option maxRecDepth 100000 in
theorem holds_exit_pop (s : St) (fs : List LF) (f : LF) (hf : s.fs = fs ++ [f]) (hk : f.k = 4) (i v : Int) : HoldsOk ⟨15, i, v⟩ s { s with fs := fs, df := 0, on := 0 } := by
  intro w B O H
  have hst := Lib.hid H.st_lt
  have HT := H.tight
  have HTop := Lib.hid (fun W (hW : Chg none_ w W) => eftop_some W B s (Tt O w.heap.size) (HT.keep hW) fs f hf)
  have HPop := Lib.hid (fun W (hW : Chg none_ w W) => efpop_ok W B s (Tt O w.heap.size) (HT.keep hW) fs f hf)
  obtain ⟨h, hg, ho⟩ := H
  have c3 := hg.c3
  have hlt := hg.blk.lt
  have hlt1 : B.g < w.heap.size + 1 := by omega
  have hlt2 : B.g < w.heap.size + 1 + 1 := by omega
  obtain ⟨k, a, b, x, y, l⟩ := f
  simp only at hk
  subst hk
  simp only [Frm.val, LF.at_] at HTop HPop
  clear HT hf hg ho
  unfold insV ptr at *
  go_enter Tryz.func77, Tryz.ntmps77
  go_wp2_with fail
  obtain ⟨W, hW⟩ : ∃ W, ((w.alloc (.cells #[.pointer (some ⟨B.g, 0, none⟩)] 27)).alloc (.cells #[.int .u8 15, .int .i64 i, .int .i64 v] 56)).alloc (.cells #[.int .i64 0, .int .i64 0, .int .i64 0] 48) = W := ⟨_, rfl⟩
  obtain ⟨b0, b1, b2, hC, hsz⟩ := boxes w B ⟨15, i, v⟩ W hW
  rw [hW]
  refine (HTop.out W hC).mono ?_
  rintro e W1 ⟨la, lc, rfl, hc1⟩
  have HC1 := Lib.hid (hC.trans hc1)
  have HB0 := Lib.hid (Blk.chg b0 hc1 (fun h => h))
  have HB2 := Lib.hid (b2.chg hc1 (fun h => h))
  have c01 : W1.cell? ⟨w.heap.size, 0, none⟩ = some (.pointer (some ⟨B.g, 0, none⟩)) := Blk.cell HB0.out 0
  have c31 := HC1.out.cell_some c3 (fun h => h)
  have n1 : w.heap.size < W1.heap.size := Blk.lt HB0.out
  have n2 : B.g < W1.heap.size := World.block_lt_of_cell? _ _ c31
  have HS := Lib.hid (And.intro hsz hc1.size)
  clear b0 b1 b2 hC hc1 hsz hW c3
  go_wp2_with fail
  refine (HPop.out _ (HC1.out.alloc _)).mono ?_
  rintro e W2 ⟨la2, lc2, rfl, _, _, hgo⟩
  have HG := Lib.hid (Goes.pre (Chg.new none_ W1 (.cells #[.int .i64 4, .int .i64 a, .int .i64 b, .int .i64 x, .int .i64 y, .slice la l.length lc] 45)) hgo)
  have c02 : W2.cell? ⟨w.heap.size, 0, none⟩ = some (.pointer (some ⟨B.g, 0, none⟩)) := Blk.cell (Goes.kept HG.out HB0.out (Nat.le_refl _)) 0
  clear hgo
  go_wp2_with (first
    | (go_at_call 61; refine (place_ok _ B _ _ HG.out.eng 0 0).mono ?_; rintro e W3 ⟨rfl, hgo⟩; have HG2 := Lib.hid ((HG.out).trans hgo)
       have c03 : W3.cell? ⟨w.heap.size, 0, none⟩ = some (.pointer (some ⟨B.g, 0, none⟩)) := Blk.cell (Goes.kept HG2.out HB0.out (Nat.le_refl _)) 0; clear hgo)
    | (go_at_call 51; refine (done_ok _ _).mono ?_; rintro e W4 ⟨rfl, hc⟩; have HC3 := Lib.hid hc; have hb := ((HG2.out).kept HB2.out (by omega)).chg hc (fun h => h); have r0 := hb.cell 0; have r1 := hb.cell 1; have r2 := hb.cell 2; have f0 := hb.frozen 0; have f1 := hb.frozen 1; have f2 := hb.frozen 2; have n1 := hb.lt; simp only [List.getElem?_toArray, List.getElem?_cons_zero, List.getElem?_cons_succ] at r0 r1 r2; clear hc hb))
  exact bodyPost_ret (v := stV 1 0 0) (by simp [results, Tryz.results77, go_sem, r0, r1, r2, stV]) rfl ⟨rfl, Goes.ret3 hst.out HC1.out HG2.out HC3.out ⟨by omega, by have := HS.out; omega⟩ _ _ _⟩

set_option maxRecDepth 100000 in
theorem holds_exit_no (s : St) (fs : List LF) (f : LF) (hf : s.fs = fs ++ [f]) (hk : f.k ≠ 4) (i v : Int) : HoldsOk ⟨15, i, v⟩ s { s with df := 0, on := 0 } := by
  intro w B O H
  have hst := Lib.hid H.st_lt
  have HT := H.tight
  have HTop := Lib.hid (fun W (hW : Chg none_ w W) => eftop_some W B s (Tt O w.heap.size) (HT.keep hW) fs f hf)
  have HSame := Lib.hid (fun W (hW : Chg none_ w W) => Goes.same (HT.keep hW) (Chg.refl none_ W))
  obtain ⟨h, hg, ho⟩ := H
  have c3 := hg.c3
  have hlt := hg.blk.lt
  have hlt1 : B.g < w.heap.size + 1 := by omega
  have hlt2 : B.g < w.heap.size + 1 + 1 := by omega
  obtain ⟨k, a, b, x, y, l⟩ := f
  simp only at hk
  have hk4 : (k == 4) = false := by simp; omega
  simp only [Frm.val, LF.at_] at HTop
  clear hk
  clear HT hf hg ho
  unfold insV ptr at *
  go_enter Tryz.func77, Tryz.ntmps77
  go_wp2_with fail
  obtain ⟨W, hW⟩ : ∃ W, ((w.alloc (.cells #[.pointer (some ⟨B.g, 0, none⟩)] 27)).alloc (.cells #[.int .u8 15, .int .i64 i, .int .i64 v] 56)).alloc (.cells #[.int .i64 0, .int .i64 0, .int .i64 0] 48) = W := ⟨_, rfl⟩
  obtain ⟨b0, b1, b2, hC, hsz⟩ := boxes w B ⟨15, i, v⟩ W hW
  rw [hW]
  refine (HTop.out W hC).mono ?_
  rintro e W1 ⟨la, lc, rfl, hc1⟩
  have HC1 := Lib.hid (hC.trans hc1)
  have HB0 := Lib.hid (Blk.chg b0 hc1 (fun h => h))
  have HB2 := Lib.hid (b2.chg hc1 (fun h => h))
  have c01 : W1.cell? ⟨w.heap.size, 0, none⟩ = some (.pointer (some ⟨B.g, 0, none⟩)) := Blk.cell HB0.out 0
  have c31 := HC1.out.cell_some c3 (fun h => h)
  have n1 : w.heap.size < W1.heap.size := Blk.lt HB0.out
  have n2 : B.g < W1.heap.size := World.block_lt_of_cell? _ _ c31
  have HS := Lib.hid (And.intro hsz hc1.size)
  clear b0 b1 b2 hC hc1 hsz hW c3
  go_wp2_with fail
  have HG := Lib.hid (Goes.pre (Chg.new none_ W1 (.cells #[.int .i64 k, .int .i64 a, .int .i64 b, .int .i64 x, .int .i64 y, .slice la l.length lc] 45)) (HSame.out _ (HC1.out.alloc _)))
  go_wp2_with (first
    | (go_at_call 61; refine (place_ok _ B _ _ HG.out.eng 0 0).mono ?_; rintro e W3 ⟨rfl, hgo⟩; have HG2 := Lib.hid ((HG.out).trans hgo)
       have c03 : W3.cell? ⟨w.heap.size, 0, none⟩ = some (.pointer (some ⟨B.g, 0, none⟩)) := Blk.cell (Goes.kept HG2.out HB0.out (Nat.le_refl _)) 0; clear hgo)
    | (go_at_call 51; refine (done_ok _ _).mono ?_; rintro e W4 ⟨rfl, hc⟩; have HC3 := Lib.hid hc; have hb := ((HG2.out).kept HB2.out (by omega)).chg hc (fun h => h); have r0 := hb.cell 0; have r1 := hb.cell 1; have r2 := hb.cell 2; have f0 := hb.frozen 0; have f1 := hb.frozen 1; have f2 := hb.frozen 2; have n1 := hb.lt; simp only [List.getElem?_toArray, List.getElem?_cons_zero, List.getElem?_cons_succ] at r0 r1 r2; clear hc hb))
  exact bodyPost_ret (v := stV 1 0 0) (by simp [results, Tryz.results77, go_sem, r0, r1, r2, stV]) rfl ⟨rfl, Goes.ret3 hst.out HC1.out HG2.out HC3.out ⟨by omega, by have := HS.out; omega⟩ _ _ _⟩

end Go.Proofs.YtgomjcnefadenaaGreatDoor
