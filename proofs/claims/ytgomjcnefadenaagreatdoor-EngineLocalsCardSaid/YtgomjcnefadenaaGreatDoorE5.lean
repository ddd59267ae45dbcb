/- holds: what an instruction does with what is held. Conditions: each contract's own premises. -/
import Derived.Test.YtgomjcnefadenaaGreatDoorE4
namespace Go.Proofs.YtgomjcnefadenaaGreatDoor
open Go Go.RowKit

def insV (x : I3) : Value := .agg #[.int .u8 x.op, .int .i64 x.a, .int .i64 x.w]
def HoldsOk (x : I3) (s s' : St) : Prop := ∀ (w : World) (B : Blks) (O : Nat → Prop), Eng w B s O → Calls Tryz.prog 77 #[ptr B.g, insV x] w fun e w' => e = .returned (stV 1 0 0) ∧ Goes B w O w' s'
def DoesOk (x : I3) (s s' : St) : Prop := ∀ (w : World) (B : Blks) (O : Nat → Prop), Eng w B s O → Calls Tryz.prog 40 #[ptr B.g, insV x] w fun e w' => e = .returned (stV 1 0 0) ∧ Goes B w O w' s'

/-- The blocks that a body of an instruction lays first. -/
theorem boxes (w : World) (B : Blks) (x : I3) (W : World) (hW : ((w.alloc (.cells #[.pointer (some ⟨B.g, 0, none⟩)] 27)).alloc (.cells #[.int .u8 x.op, .int .i64 x.a, .int .i64 x.w] 56)).alloc (.cells #[.int .i64 0, .int .i64 0, .int .i64 0] 48) = W) :
    gBox W B w.heap.size ∧ xBox W x (w.heap.size + 1) ∧ Blk W (w.heap.size + 1 + 1) 48 #[.int .i64 0, .int .i64 0, .int .i64 0] ∧ Chg none_ w W ∧ W.heap.size = w.heap.size + 3 := by
  subst hW
  refine ⟨((Blk.new w 27 _).alloc _).alloc _, ?_, ?_, ((Chg.new none_ w _).alloc _).alloc _, by simp⟩
  · have := (Blk.new (w.alloc (.cells #[.pointer (some ⟨B.g, 0, none⟩)] 27)) 56 #[.int .u8 x.op, .int .i64 x.a, .int .i64 x.w]).alloc (.cells #[.int .i64 0, .int .i64 0, .int .i64 0] 48)
    rw [World.size_alloc] at this
    exact this
  · have := Blk.new ((w.alloc (.cells #[.pointer (some ⟨B.g, 0, none⟩)] 27)).alloc (.cells #[.int .u8 x.op, .int .i64 x.a, .int .i64 x.w] 56)) 48 #[.int .i64 0, .int .i64 0, .int .i64 0]
    simp only [World.size_alloc] at this
    exact this

set_option maxRecDepth 100000 in
theorem holds_locals (s : St) (a l : List Int) (v : Int) (hx : s.xs = a ++ l) (hfs : s.fs.length < 128) (hl : l.length ≤ 128) :
    HoldsOk ⟨12, l.length, v⟩ s { s with xs := a, fs := s.fs ++ [⟨4, 0, 0, 0, 0, l⟩] } := by
  intro w B O H
  have hst := Lib.hid H.st_lt
  have hlt : B.g < w.heap.size := by obtain ⟨h, hg, _⟩ := H; exact hg.blk.lt
  have HT := H.tight
  have HW := Lib.hid (fun W (hW : Chg none_ w W) (hb : gBox W B w.heap.size) => with_ok W B s { s with xs := a, fs := s.fs ++ [⟨4, 0, 0, 0, 0, l⟩] } (Tt O w.heap.size) (HT.keep hW) a l hx 102 (enters_of Tryz.func102 (by kernel_rfl) rfl) #[] #[.pointer (some ⟨w.heap.size, 0, none⟩)]
    (fun W0 h0 => do102 W0 B _ _ l w.heap.size (Blk.chg hb h0 (fun h => h)) (fun hk => by have := hk.1.2; omega) hfs hl))
  obtain ⟨n, hn⟩ : ∃ n : Int, (l.length : Int) = n := ⟨_, rfl⟩
  rw [hn] at HW ⊢
  have hn1 : 0 ≤ n := by omega
  have hn2 : n ≤ 128 := by omega
  clear H HT hx hfs hl hn
  unfold insV ptr at *
  go_enter Tryz.func77, Tryz.ntmps77
  go_wp2_with fail
  obtain ⟨W, hW⟩ : ∃ W, ((w.alloc (.cells #[.pointer (some ⟨B.g, 0, none⟩)] 27)).alloc (.cells #[.int .u8 12, .int .i64 n, .int .i64 v] 56)).alloc (.cells #[.int .i64 0, .int .i64 0, .int .i64 0] 48) = W := ⟨_, rfl⟩
  obtain ⟨b0, b1, b2, hC, hsz⟩ := boxes w B ⟨12, n, v⟩ W hW
  rw [hW]
  refine ((HW.out W hC b0)).mono ?_
  rintro e W1 ⟨rfl, hgo⟩
  have hb := hgo.kept b2 (by omega)
  have r0 := hb.cell 0; have r1 := hb.cell 1; have r2 := hb.cell 2; have f0 := hb.frozen 0; have f1 := hb.frozen 1; have f2 := hb.frozen 2; have n1 := hb.lt
  simp only [List.getElem?_toArray, List.getElem?_cons_zero, List.getElem?_cons_succ] at r0 r1 r2
  have HG := Lib.hid hgo
  have HC := Lib.hid hC
  have HS := Lib.hid hsz
  clear hgo hC hsz hb b0 b1 b2 hW
  unfold stV
  go_wp2
  exact bodyPost_ret (v := stV 1 0 0) (by simp [results, Tryz.results77, go_sem, r0, r1, r2, stV]) rfl ⟨rfl, Goes.ret3 hst.out HC.out HG.out (Chg.refl _ _) ⟨by omega, by have := HS.out; omega⟩ _ _ _⟩

set_option maxRecDepth 100000 in
theorem holds_to (s : St) (a : List Int) (u i v : Int) (hx : s.xs = a ++ [u]) (m : Nat) (f : LF) (hl : locF s.fs i s.fs.length = some m) (hf : s.fs[m]? = some f) :
    HoldsOk ⟨14, i, v⟩ s { s with xs := a, fs := s.fs.set m { f with l := f.l.set i.toNat u } } := by
  intro w B O H
  have hst := Lib.hid H.st_lt
  have hlt : B.g < w.heap.size := by obtain ⟨h, hg, _⟩ := H; exact hg.blk.lt
  have HT := H.tight
  have HW := Lib.hid (fun W (hW : Chg none_ w W) (hb : gBox W B w.heap.size) (hb2 : xBox W ⟨14, i, v⟩ (w.heap.size + 1)) => with1_ok W B s { s with xs := a, fs := s.fs.set m { f with l := f.l.set i.toNat u } } (Tt O w.heap.size) (HT.keep hW) a u hx 104 (enters_of Tryz.func104 (by kernel_rfl) rfl) #[] #[.pointer (some ⟨w.heap.size, 0, none⟩), .pointer (some ⟨w.heap.size + 1, 0, none⟩)]
    (fun W0 h0 => do104 W0 B _ { s with xs := a } u w.heap.size (w.heap.size + 1) ⟨14, i, v⟩ (Blk.chg hb h0 (fun h => h)) (Blk.chg hb2 h0 (fun h => h)) (fun hk => by have := hk.1.2; omega) (fun hk => by have := hk.1.2; omega) m f hl hf))
  clear H HT hx hl hf
  unfold insV ptr at *
  go_enter Tryz.func77, Tryz.ntmps77
  go_wp2_with fail
  obtain ⟨W, hW⟩ : ∃ W, ((w.alloc (.cells #[.pointer (some ⟨B.g, 0, none⟩)] 27)).alloc (.cells #[.int .u8 14, .int .i64 i, .int .i64 v] 56)).alloc (.cells #[.int .i64 0, .int .i64 0, .int .i64 0] 48) = W := ⟨_, rfl⟩
  obtain ⟨b0, b1, b2, hC, hsz⟩ := boxes w B ⟨14, i, v⟩ W hW
  rw [hW]
  refine ((HW.out W hC b0 b1)).mono ?_
  rintro e W1 ⟨rfl, hgo⟩
  have hb := hgo.kept b2 (by omega)
  have r0 := hb.cell 0; have r1 := hb.cell 1; have r2 := hb.cell 2; have f0 := hb.frozen 0; have f1 := hb.frozen 1; have f2 := hb.frozen 2; have n1 := hb.lt
  simp only [List.getElem?_toArray, List.getElem?_cons_zero, List.getElem?_cons_succ] at r0 r1 r2
  have HG := Lib.hid hgo
  have HC := Lib.hid hC
  have HS := Lib.hid hsz
  clear hgo hC hsz hb b0 b1 b2 hW
  unfold stV
  go_wp2
  exact bodyPost_ret (v := stV 1 0 0) (by simp [results, Tryz.results77, go_sem, r0, r1, r2, stV]) rfl ⟨rfl, Goes.ret3 hst.out HC.out HG.out (Chg.refl _ _) ⟨by omega, by have := HS.out; omega⟩ _ _ _⟩

set_option maxRecDepth 100000 in
theorem holds_local (s : St) (i v : Int) (m : Nat) (f : LF) (hl : locF s.fs i s.fs.length = some m) (hf : s.fs[m]? = some f) (hm : s.xs.length < 128) :
    HoldsOk ⟨13, i, v⟩ s { s with xs := s.xs ++ [f.l[i.toNat]?.getD 0] } := by
  intro w B O H
  have hst := Lib.hid H.st_lt
  have HT := H.tight
  have HL := Lib.hid (fun W (hW : Chg none_ w W) => eflocal_ok W B s (Tt O w.heap.size) (HT.keep hW) i m f hl hf)
  obtain ⟨u, hu⟩ : ∃ u, f.l[i.toNat]?.getD 0 = u := ⟨_, rfl⟩
  rw [hu] at HL ⊢
  have HP := Lib.hid (fun W (hW : Chg none_ w W) => epush_ok W B s (Tt O w.heap.size) (HT.keep hW) u hm)
  obtain ⟨h, hg, ho⟩ := H
  have c3 := hg.c3
  have hlt := hg.blk.lt
  clear HT hl hf hu hm hg ho
  unfold insV ptr at *
  go_enter Tryz.func77, Tryz.ntmps77
  go_wp2_with fail
  obtain ⟨W, hW⟩ : ∃ W, ((w.alloc (.cells #[.pointer (some ⟨B.g, 0, none⟩)] 27)).alloc (.cells #[.int .u8 13, .int .i64 i, .int .i64 v] 56)).alloc (.cells #[.int .i64 0, .int .i64 0, .int .i64 0] 48) = W := ⟨_, rfl⟩
  obtain ⟨b0, b1, b2, hC, hsz⟩ := boxes w B ⟨13, i, v⟩ W hW
  rw [hW]
  have c0 : W.cell? ⟨w.heap.size, 0, none⟩ = some (.pointer (some ⟨B.g, 0, none⟩)) := Blk.cell b0 0
  have x1 : W.cell? ⟨w.heap.size + 1, 1, none⟩ = some (.int .i64 i) := Blk.cell b1 1
  have c3' := hC.cell_some c3 (fun h => h)
  have HB0 := Lib.hid b0
  have HB2 := Lib.hid b2
  have HC := Lib.hid hC
  have HS := Lib.hid hsz
  clear b0 b1 b2 hC hsz hW c3
  go_region_law
    (go_simp; go_at_call 103; refine (HL.out _ (HC.out.trans (by (repeat (first | exact Chg.refl _ _ | apply Chg.drewN | apply Chg.alloc | apply Chg.drew))))).mono ?_; rintro e W1 ⟨rfl, hc⟩
     have HC1 := Lib.hid ((show Chg none_ W _ from (by (repeat (first | exact Chg.refl _ _ | apply Chg.drewN | apply Chg.alloc | apply Chg.drew)))).trans hc)
     have c01 := HC1.out.cell_some c0 (fun h => h)
     clear hc)
  all_goals go_wp2_with (first
    | (go_at_call 54; refine (HP.out _ (HC.out.trans HC1.out)).mono ?_; rintro e W2 ⟨rfl, hgo⟩; have HG := Lib.hid (Goes.pre HC1.out hgo)
       have c02 : W2.cell? ⟨w.heap.size, 0, none⟩ = some (.pointer (some ⟨B.g, 0, none⟩)) := Blk.cell (HG.out.kept HB0.out (Nat.le_refl _)) 0; clear hgo)
    | (go_at_call 51; refine (done_ok _ _).mono ?_; rintro e W3 ⟨rfl, hc⟩; have HC3 := Lib.hid hc; have hb := ((HG.out).kept HB2.out (by omega)).chg hc (fun h => h); have r0 := hb.cell 0; have r1 := hb.cell 1; have r2 := hb.cell 2; have f0 := hb.frozen 0; have f1 := hb.frozen 1; have f2 := hb.frozen 2; have n1 := hb.lt; simp only [List.getElem?_toArray, List.getElem?_cons_zero, List.getElem?_cons_succ] at r0 r1 r2; clear hc hb))
  all_goals exact bodyPost_ret (v := stV 1 0 0) (by simp [results, Tryz.results77, go_sem, r0, r1, r2, stV]) rfl ⟨rfl, Goes.ret3 hst.out HC.out HG.out HC3.out ⟨by omega, by have := HS.out; omega⟩ _ _ _⟩
end Go.Proofs.YtgomjcnefadenaaGreatDoor
