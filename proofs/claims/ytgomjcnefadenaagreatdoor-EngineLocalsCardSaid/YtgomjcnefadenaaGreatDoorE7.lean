/- execute at a definition; does. Conditions: each contract's own premises. -/
import Derived.Test.YtgomjcnefadenaaGreatDoorE6
namespace Go.Proofs.YtgomjcnefadenaaGreatDoor
open Go Go.RowKit

set_option maxRecDepth 100000 in
theorem does_lit (s : St) (a v : Int) (hm : s.xs.length < 128) : DoesOk ⟨1, a, v⟩ s { s with xs := s.xs ++ [v] } := by
  intro w B O H
  have hst := Lib.hid H.st_lt
  have HT := H.tight
  have HP := Lib.hid (fun W (hW : Chg none_ w W) => epush_ok W B s (Tt O w.heap.size) (HT.keep hW) v hm)
  clear HT hm H
  unfold insV ptr at *
  go_enter Tryz.func40, Tryz.ntmps40
  go_wp2_with fail
  obtain ⟨W, hW⟩ : ∃ W, ((w.alloc (.cells #[.pointer (some ⟨B.g, 0, none⟩)] 27)).alloc (.cells #[.int .u8 1, .int .i64 a, .int .i64 v] 56)).alloc (.cells #[.int .i64 0, .int .i64 0, .int .i64 0] 48) = W := ⟨_, rfl⟩
  obtain ⟨b0, b1, b2, hC, hsz⟩ := boxes w B ⟨1, a, v⟩ W hW
  rw [hW]
  have c0 : W.cell? ⟨w.heap.size, 0, none⟩ = some (.pointer (some ⟨B.g, 0, none⟩)) := Blk.cell b0 0
  have x1 : W.cell? ⟨w.heap.size + 1, 2, none⟩ = some (.int .i64 v) := Blk.cell b1 2
  have HB0 := Lib.hid b0
  have HB1 := Lib.hid b1
  have HB2 := Lib.hid b2
  have HC := Lib.hid hC
  have HS := Lib.hid hsz
  clear b0 b1 b2 hC hsz hW
  go_region_law
    (first
      | (go_simp; go_at_call 54; refine (HP.out _ (HC.out.trans (by (repeat (first | exact Chg.refl _ _ | apply Chg.drewN | apply Chg.alloc | apply Chg.drew))))).mono ?_; rintro e W2 ⟨rfl, hgo⟩
         have HG := Lib.hid (Goes.pre (show Chg none_ W _ from (by (repeat (first | exact Chg.refl _ _ | apply Chg.drewN | apply Chg.alloc | apply Chg.drew)))) hgo)
         have c02 : W2.cell? ⟨w.heap.size, 0, none⟩ = some (.pointer (some ⟨B.g, 0, none⟩)) := Blk.cell (HG.out.kept HB0.out (Nat.le_refl _)) 0; clear hgo)
      | (go_simp; go_at_call 51; refine (done_ok _ _).mono ?_; rintro e W3 ⟨rfl, hc⟩; have HC3 := Lib.hid hc; have hb := ((HG.out).kept HB2.out (by omega)).chg hc (fun h => h); have r0 := hb.cell 0; have r1 := hb.cell 1; have r2 := hb.cell 2; have f0 := hb.frozen 0; have f1 := hb.frozen 1; have f2 := hb.frozen 2; have n1 := hb.lt; simp only [List.getElem?_toArray, List.getElem?_cons_zero, List.getElem?_cons_succ] at r0 r1 r2; clear hc hb))
  all_goals go_wp2
  all_goals exact bodyPost_ret (v := stV 1 0 0) (by simp [results, Tryz.results40, go_sem, r0, r1, r2, stV]) rfl ⟨rfl, Goes.ret3 hst.out HC.out HG.out HC3.out ⟨by omega, by have := HS.out; omega⟩ _ _ _⟩

set_option maxRecDepth 100000 in
theorem does_of_holds (x : I3) (s s' : St) (h : HoldsOk x s s') (ho : x.op = 9 ∨ 11 ≤ x.op) : DoesOk x s s' := by
  intro w B O H
  have hst := Lib.hid H.st_lt
  have HT := H.tight
  have HP := Lib.hid (fun W (hW : Chg none_ w W) => h W B (Tt O w.heap.size) (HT.keep hW))
  obtain ⟨op, a, v⟩ := x
  simp only at ho
  have t1 : (op == 1) = false := by simp; omega
  have t2 : (op == 2) = false := by simp; omega
  have t3 : (op == 3) = false := by simp; omega
  have t4 : (op == 4) = false := by simp; omega
  have t5 : (op == 5) = false := by simp; omega
  have t6 : (op == 6) = false := by simp; omega
  have t7 : (op == 7) = false := by simp; omega
  have t8 : (op == 8) = false := by simp; omega
  have t10 : (op == 10) = false := by simp; omega
  clear HT h H ho
  unfold insV ptr at *
  go_enter Tryz.func40, Tryz.ntmps40
  go_wp2_with fail
  obtain ⟨W, hW⟩ : ∃ W, ((w.alloc (.cells #[.pointer (some ⟨B.g, 0, none⟩)] 27)).alloc (.cells #[.int .u8 op, .int .i64 a, .int .i64 v] 56)).alloc (.cells #[.int .i64 0, .int .i64 0, .int .i64 0] 48) = W := ⟨_, rfl⟩
  obtain ⟨b0, b1, b2, hC, hsz⟩ := boxes w B ⟨op, a, v⟩ W hW
  rw [hW]
  refine (HP.out W hC).mono ?_
  rintro e W1 ⟨rfl, hgo⟩
  have hb := hgo.kept b2 (by omega)
  have r0 := hb.cell 0; have r1 := hb.cell 1; have r2 := hb.cell 2; have f0 := hb.frozen 0; have f1 := hb.frozen 1; have f2 := hb.frozen 2; have n1 := hb.lt
  simp only [List.getElem?_toArray, List.getElem?_cons_zero, List.getElem?_cons_succ] at r0 r1 r2
  have HG := Lib.hid hgo
  have HC := Lib.hid hC
  have HS := Lib.hid hsz
  clear hgo hC hsz hb b0 b1 b2 hW
  unfold stV
  go_wp2
  exact bodyPost_ret (v := stV 1 0 0) (by simp [results, Tryz.results40, go_sem, r0, r1, r2, stV]) rfl ⟨rfl, Goes.ret3 hst.out HC.out HG.out (Chg.refl _ _) ⟨by omega, by have := HS.out; omega⟩ _ _ _⟩

/-- The word xt is executed. -/
def ExecOk (xt : Int) (s s' : St) : Prop := ∀ (w : World) (B : Blks) (O : Nat → Prop), Eng w B s O → Calls Tryz.prog 36 #[ptr B.g, .int .i64 xt] w fun e w' => e = .returned (stV 1 0 0) ∧ Goes B w O w' s'

set_option maxRecDepth 100000 in
theorem does_call (a v : Int) (s s' : St) (h : ExecOk a s s') : DoesOk ⟨2, a, v⟩ s s' := by
  intro w B O H
  have hst := Lib.hid H.st_lt
  have HT := H.tight
  have HP := Lib.hid (fun W (hW : Chg none_ w W) => h W B (Tt O w.heap.size) (HT.keep hW))
  clear HT h H
  unfold insV ptr at *
  go_enter Tryz.func40, Tryz.ntmps40
  go_wp2_with fail
  obtain ⟨W, hW⟩ : ∃ W, ((w.alloc (.cells #[.pointer (some ⟨B.g, 0, none⟩)] 27)).alloc (.cells #[.int .u8 2, .int .i64 a, .int .i64 v] 56)).alloc (.cells #[.int .i64 0, .int .i64 0, .int .i64 0] 48) = W := ⟨_, rfl⟩
  obtain ⟨b0, b1, b2, hC, hsz⟩ := boxes w B ⟨2, a, v⟩ W hW
  rw [hW]
  refine (HP.out W hC).mono ?_
  rintro e W1 ⟨rfl, hgo⟩
  have hb := hgo.kept b2 (by omega)
  have r0 := hb.cell 0; have r1 := hb.cell 1; have r2 := hb.cell 2; have f0 := hb.frozen 0; have f1 := hb.frozen 1; have f2 := hb.frozen 2; have n1 := hb.lt
  simp only [List.getElem?_toArray, List.getElem?_cons_zero, List.getElem?_cons_succ] at r0 r1 r2
  have HG := Lib.hid hgo
  have HC := Lib.hid hC
  have HS := Lib.hid hsz
  clear hgo hC hsz hb b0 b1 b2 hW
  unfold stV
  go_wp2
  exact bodyPost_ret (v := stV 1 0 0) (by simp [results, Tryz.results40, go_sem, r0, r1, r2, stV]) rfl ⟨rfl, Goes.ret3 hst.out HC.out HG.out (Chg.refl _ _) ⟨by omega, by have := HS.out; omega⟩ _ _ _⟩

/-- The blocks that execute lays first. -/
theorem boxes2 (w : World) (B : Blks) (W : World) (hW : (w.alloc (.cells #[.pointer (some ⟨B.g, 0, none⟩)] 27)).alloc (.cells #[.int .i64 0, .int .i64 0, .int .i64 0] 48) = W) :
    gBox W B w.heap.size ∧ Blk W (w.heap.size + 1) 48 #[.int .i64 0, .int .i64 0, .int .i64 0] ∧ Chg none_ w W ∧ W.heap.size = w.heap.size + 2 := by
  subst hW
  refine ⟨(Blk.new w 27 _).alloc _, ?_, (Chg.new none_ w _).alloc _, by simp⟩
  have := Blk.new (w.alloc (.cells #[.pointer (some ⟨B.g, 0, none⟩)] 27)) 48 #[.int .i64 0, .int .i64 0, .int .i64 0]
  simp only [World.size_alloc] at this
  exact this

set_option maxRecDepth 100000 in
theorem exec_colon (s : St) (i p : Nat) (v : Int) (hi : s.ws[i]? = some ⟨5, (p : Int) + 1, v⟩) (hp : p < s.ds.length) (hfs : s.fs.length < 128) (xt : Int) (hxt : xt = (i : Int) + 1) :
    ExecOk xt s { s with fs := s.fs ++ [⟨1, s.df, s.on, 0, 0, []⟩], df := (p : Int) + 1, on := 0 } := by
  intro w B O H
  subst hxt
  have hst := Lib.hid H.st_lt
  have HT := H.tight
  have HF := Lib.hid (fun W (hW : Chg none_ w W) => find_some W B s (Tt O w.heap.size) (HT.keep hW) i _ hi)
  obtain ⟨n, hn⟩ : ∃ n : Int, (p : Int) + 1 = n := ⟨_, rfl⟩
  rw [hn] at HF ⊢
  have HP := Lib.hid (fun W (hW : Chg none_ w W) => call_ok W B s (Tt O w.heap.size) (HT.keep hW) p hp n hn.symm hfs)
  obtain ⟨N, hN⟩ : ∃ N : Int, (i : Int) + 1 = N := ⟨_, rfl⟩
  rw [hN] at HF ⊢
  clear HT H hi hp hfs hn hN
  unfold ptr at *
  go_enter Tryz.func36, Tryz.ntmps36
  go_wp2_with fail
  obtain ⟨W, hW⟩ : ∃ W, (w.alloc (.cells #[.pointer (some ⟨B.g, 0, none⟩)] 27)).alloc (.cells #[.int .i64 0, .int .i64 0, .int .i64 0] 48) = W := ⟨_, rfl⟩
  obtain ⟨b0, b2, hC, hsz⟩ := boxes2 w B W hW
  rw [hW]
  obtain ⟨gw, hcells, hF⟩ := HF.out W hC
  refine (hF).mono ?_
  rintro e W' ⟨rfl, rfl⟩
  have k0 := hcells 0 (by omega)
  have k1 := hcells 1 (by omega)
  have k2 := hcells 2 (by omega)
  simp only [Wrd.cells, List.getElem?_cons_zero, List.getElem?_cons_succ, Nat.add_zero] at k0 k1 k2
  have n1 : w.heap.size < W.heap.size := by omega
  have n2 : w.heap.size + 1 < W.heap.size := by omega
  have c0 : W.cell? ⟨w.heap.size, 0, none⟩ = some (.pointer (some ⟨B.g, 0, none⟩)) := Blk.cell b0 0
  have HB0 := Lib.hid b0
  have HB2 := Lib.hid b2
  have HC := Lib.hid hC
  have HS := Lib.hid hsz
  clear b0 b2 hC hsz hW hcells hF
  go_wp2
  go_region_law
    (first
      | (go_simp; go_at_call 53; refine (HP.out _ (HC.out.trans (by (repeat (first | exact Chg.refl _ _ | apply Chg.drewN | apply Chg.alloc | apply Chg.drew))))).mono ?_; rintro e W2 ⟨rfl, hgo⟩
         have HG := Lib.hid (Goes.pre (show Chg none_ W _ from (by (repeat (first | exact Chg.refl _ _ | apply Chg.drewN | apply Chg.alloc | apply Chg.drew)))) hgo)
         have c02 : W2.cell? ⟨w.heap.size, 0, none⟩ = some (.pointer (some ⟨B.g, 0, none⟩)) := Blk.cell (HG.out.kept HB0.out (Nat.le_refl _)) 0; clear hgo)
      | (go_simp; go_at_call 51; refine (done_ok _ _).mono ?_; rintro e W3 ⟨rfl, hc⟩; have HC3 := Lib.hid hc; have hb := ((HG.out).kept HB2.out (by omega)).chg hc (fun h => h); have r0 := hb.cell 0; have r1 := hb.cell 1; have r2 := hb.cell 2; have f0 := hb.frozen 0; have f1 := hb.frozen 1; have f2 := hb.frozen 2; have n1 := hb.lt; simp only [List.getElem?_toArray, List.getElem?_cons_zero, List.getElem?_cons_succ] at r0 r1 r2; clear hc hb))
  all_goals go_wp2
  all_goals exact bodyPost_ret (v := stV 1 0 0) (by simp [results, Tryz.results36, go_sem, r0, r1, r2, stV]) rfl ⟨rfl, Goes.ret3 hst.out HC.out HG.out HC3.out ⟨by omega, by have := HS.out; omega⟩ _ _ _⟩
end Go.Proofs.YtgomjcnefadenaaGreatDoor
