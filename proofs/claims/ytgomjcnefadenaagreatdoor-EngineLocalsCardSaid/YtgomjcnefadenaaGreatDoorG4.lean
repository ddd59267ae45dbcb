/- begin and at: an instruction of a definition. Conditions: each contract's own premises. -/
import Derived.Test.YtgomjcnefadenaaGreatDoorG3
import Derived.Test.YtgomjcnefadenaaGreatDoorA1
import Derived.Laws.BitsLemmas
namespace Go.Proofs.YtgomjcnefadenaaGreatDoor
open Go Go.RowKit

theorem begin_ok (w : World) (B : Blks) (s : St) (O : Nat → Prop) (H : Eng w B s O) (p : Nat) (hp : p < s.ds.length) (n : Int) (hn : n = (p : Int) + 1) :
    Calls Tryz.prog 62 #[ptr B.g, .int .i64 n] w fun e w' => e = .returned (.int .i64 ((2 * tot (s.ds.take p) : Nat) : Int)) ∧ w = w' := by
  obtain ⟨h, hg, ho⟩ := H
  unfold ptr
  rcases p with _ | q
  · obtain rfl : n = 1 := by omega
    clear hg ho hp hn
    go_enter Tryz.func62, Tryz.ntmps62
    go_wp2
    go_ret
    exact ⟨rfl, rfl⟩
  · have hl := hg.wds.1
    have c1 := hg.c1
    have hcell := hg.ends.cell (j := q) (by rw [ints_len, endsOf_len]; omega)
    obtain ⟨ge, hge, hcl, _⟩ := hcell
    have hv : (ints (endsOf s.ds))[q]'(by rw [ints_len, endsOf_len]; omega) = .int .i64 ((2 * tot (s.ds.take (q + 1)) : Nat) : Int) := by
      have := endsOf_at s.ds q (by omega)
      rw [List.getElem?_eq_getElem (by rw [endsOf_len]; omega)] at this
      injection this with this
      simp [ints, this]
    rw [hv] at hcl
    rw [hge, endsOf_len] at c1
    have hq : (n - 2).toNat = q := by omega
    obtain ⟨V, hV⟩ : ∃ V : Int, ((2 * tot (s.ds.take (q + 1)) : Nat) : Int) = V := ⟨_, rfl⟩
    rw [hV] at hcl ⊢
    rw [← hq] at hcl
    have hb1 : (n == 1) = false := by simp; omega
    have h0 : 0 ≤ n - 2 := by omega
    have h1 : n - 2 < (s.ds.length : Int) := by omega
    have h2 : 1 ≤ n := by omega
    have h3 : n ≤ 400 := by omega
    obtain ⟨m, hm⟩ : ∃ m, s.ds.length = m := ⟨_, rfl⟩
    rw [hm] at c1 h1
    clear hg ho hp hn hv hge hV hm hl hq
    go_enter Tryz.func62, Tryz.ntmps62
    go_wp2
    go_ret
    exact ⟨rfl, rfl⟩

theorem quietB {P : Program} {f : FuncId} {args : Array Value} {w : World} {v : Value} (h : Calls P f args w fun e w' => e = .returned v ∧ w = w') : Calls P f args w fun e w' => e = .returned v ∧ w' = w :=
  h.mono fun _ _ ⟨a, b⟩ => ⟨a, b.symm⟩

theorem op_bits (a o : Int) (h0 : 0 ≤ o) (h1 : o < 256) (h2 : 0 ≤ a) (h3 : a ≤ 1000) : bits .and .i64 (a * 256 + o) 255 % 256 = o := by
  have h := bits_mask .i64 62 (by decide) (fun n _ h => IntWalk.i64_in n (by omega)) 8 (by decide) (a * 256 + o) (by omega) (by omega)
  have e : ((2 : Int) ^ 8 - 1) = 255 := by decide
  have e2 : ((2 : Int) ^ 8) = 256 := by decide
  rw [e, e2] at h
  rw [h]
  omega

set_option maxRecDepth 100000 in
set_option maxHeartbeats 1000000 in
theorem at_some (w : World) (B : Blks) (s : St) (O : Nat → Prop) (H : Eng w B s O) (p i : Nat) (d : List I3) (x : I3) (hd : s.ds[p]? = some d) (hx : d[i]? = some x) (n : Int) (hn : n = (p : Int) + 1) :
    Calls Tryz.prog 38 #[ptr B.g, .int .i64 n, .int .i64 i] w fun e w' => e = .returned (.tuple #[.agg #[.int .u8 x.op, .int .i64 x.a, .int .i64 x.w], .bool true]) ∧ Chg none_ w w' := by
  have hp : p < s.ds.length := by
    rcases Nat.lt_or_ge p s.ds.length with h | h
    · exact h
    · rw [List.getElem?_eq_none h] at hd; cases hd
  have hi : i < d.length := by
    rcases Nat.lt_or_ge i d.length with h | h
    · exact h
    · rw [List.getElem?_eq_none h] at hx; cases hx
  have HB := fun (W : World) (hW : Chg none_ w W) => Lib.hid (begin_ok W B s O (H.keep hW) p hp n hn)
  obtain ⟨h, hg, ho⟩ := H
  have hdm : d ∈ s.ds := List.mem_of_getElem? hd
  have hokd := hg.wds.2 d hdm
  obtain ⟨ho0, ho1, ha0, ha1⟩ := hokd.2 x (List.mem_of_getElem? hx)
  have hdl := hokd.1
  have hl := hg.wds.1
  have ht := tot_le s.ds hg.wds
  have htp := tot_take_le s.ds (p + 1)
  have hts := tot_take_succ s.ds p d hd
  have c0 := hg.c0
  have c1 := hg.c1
  -- the cells
  obtain ⟨ge, hge, hcl, _⟩ := hg.ends.cell (j := p) (by rw [ints_len, endsOf_len]; omega)
  have hv : (ints (endsOf s.ds))[p]'(by rw [ints_len, endsOf_len]; omega) = .int .i64 ((2 * tot (s.ds.take (p + 1)) : Nat) : Int) := by
    have := endsOf_at s.ds p (by omega)
    rw [List.getElem?_eq_getElem (by rw [endsOf_len]; omega)] at this
    injection this with this
    simp [ints, this]
  rw [hv] at hcl
  obtain ⟨hq1, hq2⟩ := code_at s.ds p i d x hd hx
  have hlen := codeOf_len s.ds
  obtain ⟨gc, hgc, hcd0, _⟩ := hg.code.cell (j := 2 * (tot (s.ds.take p) + i)) (by rw [ints_len, codeOf_len]; omega)
  obtain ⟨gc', hgc', hcd1, _⟩ := hg.code.cell (j := 2 * (tot (s.ds.take p) + i) + 1) (by rw [ints_len, codeOf_len]; omega)
  rw [hgc] at hgc'
  injection hgc' with hgc'; injection hgc' with hgc' _ _; subst hgc'
  have hw0 : (ints (codeOf s.ds))[2 * (tot (s.ds.take p) + i)]'(by rw [ints_len, codeOf_len]; omega) = .int .i64 (x.a * 256 + x.op) := by
    rw [List.getElem?_eq_getElem (by rw [codeOf_len]; omega)] at hq1
    injection hq1 with hq1
    simp [ints, hq1]
  have hw1 : (ints (codeOf s.ds))[2 * (tot (s.ds.take p) + i) + 1]'(by rw [ints_len, codeOf_len]; omega) = .int .i64 x.w := by
    rw [List.getElem?_eq_getElem (by rw [codeOf_len]; omega)] at hq2
    injection hq2 with hq2
    simp [ints, hq2]
  rw [hw0] at hcd0
  rw [hw1] at hcd1
  rw [hge, endsOf_len] at c1
  rw [hgc, codeOf_len] at c0
  have hcap := hg.code.le
  rw [codeOf_len] at hcap
  obtain ⟨T, hT⟩ : ∃ T, tot (s.ds.take p) = T := ⟨_, rfl⟩
  obtain ⟨A, hA⟩ : ∃ A, tot s.ds = A := ⟨_, rfl⟩
  obtain ⟨m, hm⟩ : ∃ m, s.ds.length = m := ⟨_, rfl⟩
  obtain ⟨L, hL⟩ : ∃ L, d.length = L := ⟨_, rfl⟩
  rw [hT] at hcd0 hcd1 hts HB
  rw [hts] at hcl htp
  rw [hL] at hcl htp hi hdl
  rw [hA] at c0 htp ht hcap
  rw [hm] at c1 hp ht hl
  clear hg ho hokd hv hq1 hq2 hlen hw0 hw1 hge hgc hT hA hm hL hts hd hx hdm
  have hn1 : decide (n < 1) = false := by simp; omega
  have hn2 : decide ((m : Int) < n) = false := by simp; omega
  have hn3 : decide ((i : Int) < 0) = false := by simp
  have iw1 : IntKind.i64.wrap (n - 1) = n - 1 := IntWalk.i64_in _ (by omega)
  have hpn : n.toNat - 1 = p := by omega
  have hp0 : 0 ≤ n - 1 := by omega
  have hp1 : n - 1 < (m : Int) := by omega
  have hp2 : 1 ≤ n := by omega
  have hp3 : n ≤ (m : Int) := by omega
  rw [← hpn] at hcl
  obtain ⟨E1, hE1⟩ : ∃ E1 : Int, ((2 * (T + L) : Nat) : Int) = E1 := ⟨_, rfl⟩
  obtain ⟨K, hB1⟩ : ∃ K : Nat, 2 * T = K := ⟨_, rfl⟩
  rw [hE1] at hcl
  rw [hB1] at HB
  rw [show 2 * (T + i) = K + 2 * i from by omega] at hcd0 hcd1
  have iw5 : IntKind.i64.wrap (2 * (i : Int)) = 2 * (i : Int) := IntWalk.i64_in _ (by omega)
  have iw6 : IntKind.i64.wrap ((K : Int) + 2 * (i : Int)) = (K : Int) + 2 * (i : Int) := IntWalk.i64_in _ (by omega)
  have hKi : K + 2 * i + 1 < 2 * A := by omega
  have hs1 : ∀ W : World, (Instr.slice 25 (.slice (some ⟨gc, 0, none⟩) (2 * A) h.cc) (some (.int .i64 ((K : Int) + 2 * (i : Int)))) none none).run Tryz.prog W = .ok (.slice (some ⟨gc, K + 2 * i, none⟩) (2 * A - (K + 2 * i)) (h.cc - (K + 2 * i))) W := fun W => by
    have := slice_from25 (some ⟨gc, 0, none⟩) (some ⟨gc, K + 2 * i, none⟩) (2 * A) h.cc (K + 2 * i) (by omega) (by rw [if_neg (by omega)]; simp [Addr.add]; omega) W
    rw [← this]
    congr 1
  
  have iw2 : IntKind.i64.wrap (E1 - (K : Int)) = E1 - (K : Int) := IntWalk.i64_in _ (by omega)
  have iw3 : IntKind.i64.wrap ((E1 - (K : Int)) / 2) = (E1 - (K : Int)) / 2 := IntWalk.i64_in _ (by omega)
  have iw4 : IntKind.i64.wrap ((E1 - (K : Int)).tdiv 2) = (E1 - (K : Int)) / 2 := by rw [Int.tdiv_eq_ediv_of_nonneg (by omega)]; exact iw3
  have hge2 : decide ((E1 - (K : Int)) / 2 ≤ (i : Int)) = false := by simp; omega
  have HC0 := Lib.hid c0
  have e0 : (w.alloc (.cells #[.int .u8 0, .int .i64 0, .int .i64 0] 56)).cell? ⟨B.g, 1, none⟩ = some (.slice (some ⟨ge, 0, none⟩) m h.ec) := (Chg.new none_ w _).cell_some c1 (fun h => h)
  have e1 : (w.alloc (.cells #[.int .u8 0, .int .i64 0, .int .i64 0] 56)).cell? ⟨ge, n.toNat - 1, none⟩ = some (.int .i64 E1) := (Chg.new none_ w _).cell_some hcl (fun h => h)
  have HB' := Lib.hid HB
  have HE1 := Lib.hid hE1
  have HB1 := Lib.hid hB1
  have HN := Lib.hid hn
  have HPN := Lib.hid hpn
  clear HB hE1 hB1 hn hpn c0 c1 hcl
  unfold ptr at *
  go_enter Tryz.func38, Tryz.ntmps38
  go_wp2
  go_quiet ((go_at_call 62; exact Calls.quiet_of_same (quietB (HB'.out _ ((Chg.new none_ w _).drewN _)).out)))
  go_wp2
  obtain ⟨W, hW⟩ : ∃ W, (w.alloc (.cells #[.int .u8 0, .int .i64 0, .int .i64 0] 56)).drewN nq = W := ⟨_, rfl⟩
  have hCW : Chg none_ w W := by rw [← hW]; exact (Chg.new none_ w _).drewN _
  have hBW : Blk W w.heap.size 56 #[.int .u8 0, .int .i64 0, .int .i64 0] := by rw [← hW]; exact Blk.new w 56 _
  have HBw := HB'.out W.drew hCW.drew
  have y0 : W.cell? ⟨B.g, 0, none⟩ = some (.slice (some ⟨gc, 0, none⟩) (2 * A) h.cc) := hCW.cell_some HC0.out (fun h => h)
  have y1 : W.cell? ⟨gc, K + 2 * i, none⟩ = some (.int .i64 (x.a * 256 + x.op)) := hCW.cell_some hcd0 (fun h => h)
  have y2 : W.cell? ⟨gc, K + 2 * i + 1, none⟩ = some (.int .i64 x.w) := hCW.cell_some hcd1 (fun h => h)
  have n1 : B.g < W.heap.size := World.block_lt_of_cell? _ _ y0
  have n2 : gc < W.heap.size := World.block_lt_of_cell? _ _ y1
  have n3 : w.heap.size < W.heap.size := hBW.lt
  have z0 : W.cell? ⟨w.heap.size, 0, none⟩ = some (.int .u8 0) := hBW.cell 0
  have z1 : W.cell? ⟨w.heap.size, 1, none⟩ = some (.int .i64 0) := hBW.cell 1
  have z2 : W.cell? ⟨w.heap.size, 2, none⟩ = some (.int .i64 0) := hBW.cell 2
  have f0 := hBW.frozen 0
  have f1 := hBW.frozen 1
  have f2 := hBW.frozen 2
  rw [hW]
  have HCW := Lib.hid hCW
  have HBW := Lib.hid hBW
  clear hW hCW hBW e0 e1 hcd0 hcd1 hn1 hn2 hn3 iw1 iw2 iw3 iw4 hge2 hp0 hp1 hp2 hp3
  have hs2 : ∀ W : World, (Instr.slice 25 (.slice (some ⟨gc, K + 2 * i, none⟩) (2 * A - (K + 2 * i)) (h.cc - (K + 2 * i))) none (some (.int .i64 2)) none).run Tryz.prog W = .ok (.slice (some ⟨gc, K + 2 * i, none⟩) 2 (h.cc - (K + 2 * i))) W := fun W => by
    obtain ⟨i0, hi0, hz0, hz1, hz2⟩ := info_parts info33
    have he : Tryz.prog.elem 25 = 33 := by kernel_rfl
    have hu := Tryz.underlying25
    rw [run_slice_h W 25 _ _ _ (by rw [he]; exact hu) .i64 2 (by omega) (by omega)]
    simp [he, sizeOf, typeInfo, hi0, sliced, Result.andThen, Addr.add]
  have hs3 : ∀ W : World, (Instr.arrayAt 131 (.slice (some ⟨gc, K + 2 * i, none⟩) 2 (h.cc - (K + 2 * i)))).run Tryz.prog W = .ok (.pointer (some ⟨gc, K + 2 * i, none⟩)) W := fun W => by
    simp [Instr.arrayAt, run_underlying Tryz.underlying131]
  go_region_held3 (fun w' => w'.cell? ⟨B.g, 0, none⟩ = some (.slice (some ⟨gc, 0, none⟩) (2 * A) h.cc) ∧ w'.cell? ⟨gc, K + 2 * i, none⟩ = some (.int .i64 (x.a * 256 + x.op)) ∧ w'.cell? ⟨gc, K + 2 * i + 1, none⟩ = some (.int .i64 x.w)) (go_keep)
    (first | (go_at_call 62; ((with_reducible refine (HBw.out).mono ?_); rintro e w' ⟨rfl, rfl⟩)) | (go_at_call 62; refine ((HB'.out _ (((HCW.out).drew).alloc _)).out).mono ?_; rintro e w' ⟨rfl, rfl⟩))
  all_goals go_wp2
  all_goals exact bodyPost_ret (v := .tuple #[.agg #[.int .u8 x.op, .int .i64 x.a, .int .i64 x.w], .bool true]) (by
    simp [results, Tryz.results38, go_sem, op_bits x.a x.op ho0 ho1 ha0 ha1, show (x.a * 256 + x.op) / 256 = x.a from by omega, z0, z1, z2, n3]) rfl ⟨rfl, (((((HCW.out.setR 0 (Nat.le_refl _) _).setR 1 (Nat.le_refl _) _).setR 2 (Nat.le_refl _) _)).alloc _).drew⟩
end Go.Proofs.YtgomjcnefadenaaGreatDoor
