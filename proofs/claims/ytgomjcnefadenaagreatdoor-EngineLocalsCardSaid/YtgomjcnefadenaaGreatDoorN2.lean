/- slices.Repeat of one number. Conditions: the contract's own premises. -/
import Derived.Test.YtgomjcnefadenaaGreatDoorG5
import Derived.Test.YtgomjcnefadenaaGreatDoorK0
import Derived.Shelf.Bits.Mul64
import Derived.Laws.CopyOwn
import Derived.Deep.OwnRows
namespace Go.Proofs.YtgomjcnefadenaaGreatDoor
open Go Go.RowKit

theorem mul1 (N : Nat) (hN : N ≤ 1000) (w : World) : Calls Tryz.prog 106 #[.int .u64 1, .int .u64 N] w fun e w' => e = .returned (.tuple #[.int .u64 0, .int .u64 N]) ∧ w = w' := by
  refine (Any.bits_Mul Tryz.lays212 1 N (by omega) (by omega) w).mono ?_
  rintro e w' ⟨rfl, rfl⟩
  refine ⟨?_, rfl⟩
  rw [show (1 * N / 18446744073709551616 : Nat) = 0 from by omega, show (1 * N % 18446744073709551616 : Nat) = N from by omega]
  rfl

/-- n cells are v, the others 0. -/
def half (v : Int) (N n : Nat) : List Value := List.replicate n (.int .i64 v) ++ List.replicate (N - n) (.int .i64 0)
theorem half_len (v : Int) (N n : Nat) (h : n ≤ N) : (half v N n).length = N := by simp [half]; omega
theorem half_splice (v : Int) (N n m : Nat) (h : n + m ≤ N) : splice (half v N n) n (List.replicate m (.int .i64 v)) = half v N (n + m) := by
  unfold splice half
  have e1 : (List.replicate n (Value.int .i64 v) ++ List.replicate (N - n) (Value.int .i64 0)).take n = List.replicate n (Value.int .i64 v) := by simp
  have e2 : (List.replicate n (Value.int .i64 v) ++ List.replicate (N - n) (Value.int .i64 0)).drop (n + (List.replicate m (Value.int .i64 v)).length) = List.replicate (N - (n + m)) (Value.int .i64 0) := by
    rw [List.drop_append, List.length_replicate, List.length_replicate, List.drop_replicate, List.drop_replicate, show n - (n + m) = 0 from by omega, show N - n - (n + m - n) = N - (n + m) from by omega]
    rfl
  rw [e1, e2, ← List.append_assoc, List.replicate_append_replicate]
theorem half_at (v : Int) (N n j : Nat) (u : Value) (hj : (List.replicate n (Value.int .i64 v))[j]? = some u) : (half v N n)[j]? = some u := by
  unfold half
  have hl : j < n := by
    rcases Nat.lt_or_ge j n with h | h
    · exact h
    · rw [List.getElem?_eq_none (by simpa using h)] at hj; cases hj
  rw [List.getElem?_append_left (by simpa using hl)]
  exact hj

theorem rep_one (v : Int) (m : Nat) : ∀ u ∈ List.replicate m (Value.int .i64 v), u.oneCell' = true := by
  intro u hu
  rw [(List.mem_replicate.1 hu).2]
  rfl
theorem size3 : (Tryz.prog.info? 3).map (·.size) = some 1 := by kernel_rfl

/-- copy of m cells v behind the n that are there. -/
theorem copy_half (W : World) (g : Nat) (v : Int) (N n m ty : Nat) (hB : Blk W g 3 (half v N n).toArray) (ad : Addr) (hs : ∀ j u, (List.replicate m (Value.int .i64 v))[j]? = some u → W.cell? (ad.add j) = some u) (dLen dCap sLen sCap : Nat)
    (hm : m = Nat.min sLen dLen) (hN : n + m ≤ N) :
    ∃ W', (Builtin.copy_ #[68, 68] ty #[.slice (some ⟨g, n, none⟩) dLen dCap, .slice (some ad) sLen sCap]).run Tryz.prog W = .ok (.int .i64 (m : Int)) W' ∧ Blk W' g 3 (half v N (n + m)).toArray ∧ Chg (fun k => k = g) W W' := by
  have hr := run_copy_row (P := Tryz.prog) W 68 68 ty 3 g n dLen dCap ad sLen sCap (half v N n).toArray 3 (List.replicate m (.int .i64 v)) Tryz.underlying68 size3 hB (by rw [List.length_replicate, hm]) hs (by rw [List.length_replicate]; simp [half_len v N n (by omega)]; omega) (rep_one v m)
  refine ⟨W.setRow g (half v N (n + m)).toArray, ?_, ?_, ?_⟩
  · rw [hr]
    have e := half_splice v N n m hN
    unfold splice at e
    rw [← e]
    simp [goInt]
  · exact setRow_heap W g _ _ 3 _ hB
  · exact ⟨rfl, rfl, rfl, by simp, fun k _ hk => setRow_other W g k _ hk⟩

/-- copy whose run is an equation, as a step of the walk. -/
theorem wp_copy_eq {w : World} {o : Oper} {a : Act} {K : Act → World → Prop} {Q : Exit → Act → World → Prop} (d s : Operand) (t t' : TypeId)
    (ho : o.op = .call { callee := .builtin .copy, args := #[d, s], argTypes := #[t, t'] }) (v u : Value) (hd : a.eval d = v) (hs : a.eval s = u) {v' : Value} {w' : World}
    (hr : (Builtin.copy_ #[t, t'] o.type #[v, u]).run Tryz.prog w = .ok v' w') (h : K (a.put o.dst v') w') : Oper.wp Tryz.prog o a w K Q := by
  unfold Oper.wp
  simp [execOp, ho, resolve, invoke, builtin, hd, hs, hr, Result.andThen]
  exact h
theorem wpList_copy_eq {w : World} {ops : Array Oper} {rest : List Oper} {o : Oper} {a : Act} {Q : Exit → Act → World → Prop} (hgd : o.guard = none) (d s : Operand) (t t' : TypeId)
    (ho : o.op = .call { callee := .builtin .copy, args := #[d, s], argTypes := #[t, t'] }) (v u : Value) (hd : a.eval d = v) (hs : a.eval s = u) {v' : Value} {w' : World}
    (hr : (Builtin.copy_ #[t, t'] o.type #[v, u]).run Tryz.prog w = .ok v' w') (h : wpList Tryz.prog ops Q rest (a.put o.dst v') w') : wpList Tryz.prog ops Q (o :: rest) a w :=
  wpList_plain hgd fun _ hK => wp_copy_eq d s t t' ho v u hd hs hr (hK _ _ h)
theorem step_copy_run {ops : Array Oper} {o : Oper} {a : Act} {w : World} {K : Act → World → Prop} {Q : Exit → Act → World → Prop} {E : Prop} (hgd : o.guard = none) (d s : Operand) (t t' : TypeId)
    (ho : o.op = .call { callee := .builtin .copy, args := #[d, s], argTypes := #[t, t'] }) (v u : Value) (hd : a.eval d = v) (hs : a.eval s = u) {v' : Value} {w' : World}
    (hr : (Builtin.copy_ #[t, t'] o.type #[v, u]).run Tryz.prog w = .ok v' w') (h : K (a.put o.dst v') w') :
    if Region.wanted o (yielded ops a.tmps) = true then Oper.wp Tryz.prog o a w K Q else E := by
  have hw : Region.wanted o (yielded ops a.tmps) = true := by simp [Region.wanted, hgd]
  rw [if_pos hw]
  exact wp_copy_eq d s t t' ho v u hd hs hr h

/-- 's[k:]' and 's[:k]' of a []int. -/
theorem slice_from68 (g n k : Nat) (hk : k < n) (w : World) :
    (Instr.slice 68 (.slice (some ⟨g, 0, none⟩) n n) (some (.int .i64 (k : Int))) none none).run Tryz.prog w = .ok (.slice (some ⟨g, k, none⟩) (n - k) (n - k)) w := by
  obtain ⟨i0, hi0, hz0, hz1, hz2⟩ := info_parts info3
  have he : Tryz.prog.elem 68 = 3 := by kernel_rfl
  have hu := Tryz.underlying68
  rw [run_slice_l w 68 _ n n (by rw [he]; exact hu) .i64 k (by omega) (by omega)]
  have hne : ¬ n = k := by omega
  simp [he, sizeOf, typeInfo, hi0, hz1, sliced, Result.andThen, hne, Addr.add]
  omega
theorem slice_to68 (g n k : Nat) (hk : k ≤ n) (w : World) :
    (Instr.slice 68 (.slice (some ⟨g, 0, none⟩) n n) none (some (.int .i64 (k : Int))) none).run Tryz.prog w = .ok (.slice (some ⟨g, 0, none⟩) k n) w := by
  obtain ⟨i0, hi0, hz0, hz1, hz2⟩ := info_parts info3
  have he : Tryz.prog.elem 68 = 3 := by kernel_rfl
  have hu := Tryz.underlying68
  rw [run_slice_h w 68 _ _ _ (by rw [he]; exact hu) .i64 k (by omega) (by omega)]
  simp [he, sizeOf, typeInfo, hi0, sliced, Result.andThen, Addr.add]

/-- What holds at the head of a round. -/
def RepI (w : World) (v : Int) (N n : Nat) (wr : World) : Prop := Blk wr w.heap.size 3 (half v N n).toArray ∧ Chg none_ w wr

set_option maxRecDepth 100000 in
set_option maxHeartbeats 1000000 in
theorem repeat_ok (w : World) (sb : Nat) (v : Int) (hsrc : w.cell? ⟨sb, 0, none⟩ = some (.int .i64 v)) (N : Nat) (h1 : 1 ≤ N) (h2 : N ≤ 500) :
    Calls Tryz.prog 78 #[.slice (some ⟨sb, 0, none⟩) 1 1, .int .i64 N] w fun e w' => e = .returned (.slice (some ⟨w.heap.size, 0, none⟩) N N) ∧ Blk w' w.heap.size 3 (half v N N).toArray ∧ Chg none_ w w' := by
  have HMUL := Lib.hid (mul1 N (by omega) w)
  have hmk := run_make_row' (P := Tryz.prog) 68 3 (.int .i64 0) 8 Tryz.underlying68 info3 rfl .i64 .i64 N (by omega) (by omega)
  have iw0 : IntKind.u64.wrap (N : Int) = (N : Int) := by rw [IntKind.wrap_u64]; omega
  have iw1 : IntKind.i64.wrap (N : Int) = (N : Int) := IntWalk.i64_in _ (by omega)
  have d1 : decide ((N : Int) < 0) = false := by simp
  have d2 : decide ((9223372036854775807 : Int) < (N : Int)) = false := by simp; omega
  have hB0 : Blk (w.alloc (.cells (madeCells #[.int .i64 0] N) 3)) w.heap.size 3 (half v N 0).toArray := by
    have e : (half v N 0).toArray = madeCells #[.int .i64 0] N := by
      apply Array.toList_inj.1
      simp only [half, List.replicate_zero, List.nil_append, Nat.sub_zero, madeCells]
      apply List.ext_getElem
      · simp
      · intro i h1 h2
        simp [Nat.mod_one]
    rw [e]
    exact Blk.new w 3 _
  obtain ⟨W1, hcp, hb1, hc1⟩ := copy_half _ w.heap.size v N 0 1 3 hB0 ⟨sb, 0, none⟩ (fun j u hu => by
    have hj : j = 0 := by
      rcases j with _ | j
      · rfl
      · simp at hu
    subst hj
    simp at hu
    subst hu
    exact (Chg.new none_ w _).cell_some hsrc (fun h => h)) N N 1 1 (by simp only [Nat.min_def]; split <;> omega) (by omega)
  change _ = Result.ok (Value.int .i64 1) W1 at hcp
  have HI0 := Lib.hid (show RepI w v N 1 W1 from ⟨by simpa using hb1, (Chg.new none_ w _).trans' hc1 (fun i hi => .inr (by omega))⟩)
  clear hB0 hb1 hc1
  have HS := Lib.hid hsrc
  have HN := Lib.hid (And.intro h1 h2)
  clear h1 h2 hsrc
  go_enter Tryz.func78, Tryz.ntmps78
  go_wp2_with (first | (go_at_call 106; refine (HMUL.out).mono ?_; rintro e w' ⟨rfl, rfl⟩) | (at_builtin; refine wpList_copy_eq rfl _ _ 68 68 rfl _ _ rfl rfl hcp ?_; clear hcp))
  go_loopg [8] N (fun m i wr => ∃ n : Nat, 1 ≤ n ∧ n ≤ N ∧ N ≤ n + m ∧ i = .int .i64 n ∧ Hid (RepI w v N n wr))
  case atStart =>
    exact ⟨1, by omega, HN.out.1, by omega, rfl, HI0⟩
  case round =>
    obtain ⟨n, hn1, hnN, hgk, rfl, HI⟩ := hrel
    rcases Nat.lt_or_ge n N with hlt | hge
    · obtain ⟨m, hm⟩ : ∃ m, Nat.min n (N - n) = m := ⟨_, rfl⟩
      have hm0 : 1 ≤ m := by rw [← hm]; simp only [Nat.min_def]; split <;> omega
      have hm1 : m ≤ n ∧ n + m ≤ N := by rw [← hm]; simp only [Nat.min_def]; split <;> omega
      obtain ⟨W', hcp2, hb2, hc2⟩ := copy_half wr.drew w.heap.size v N n m 3 HI.out.1.drew ⟨w.heap.size, 0, none⟩ (fun j u hu => by
        have e2 : (⟨w.heap.size, 0, none⟩ : Addr).add j = ⟨w.heap.size, j, none⟩ := by unfold Addr.add; split <;> simp_all
        rw [e2]
        have hl : j < m := by
          rcases Nat.lt_or_ge j m with h | h
          · exact h
          · rw [List.getElem?_eq_none (by simpa using h)] at hu; cases hu
        have hu2 : (List.replicate n (Value.int .i64 v))[j]? = some u := by
          rw [List.getElem?_replicate_of_lt (by omega)] at hu ⊢
          exact hu
        have := HI.out.1.drew.cell j
        rw [this, List.getElem?_toArray]
        exact half_at v N n j u hu2) (N - n) (N - n) n N (by rw [← hm]) (by omega)
      have hd : decide ((n : Int) < (N : Int)) = true := by simp; omega
      have hsf := slice_from68 w.heap.size N n hlt
      have hst := slice_to68 w.heap.size N n hnN
      have iw2 : IntKind.i64.wrap ((n : Int) + (m : Int)) = (n : Int) + (m : Int) := IntWalk.i64_in _ (by have := HN.out.2; omega)
      have HCP := Lib.hid hcp2
      have HI2 := Lib.hid (show RepI w v N (n + m) W' from ⟨hb2, HI.out.2.drew.trans' hc2 (fun i hi => .inr (by omega))⟩)
      have HX := Lib.hid (And.intro hm0 (And.intro hm1 (And.intro hgk hlt)))
      clear hm hm0 hm1 hcp2 hb2 hc2 hgk hn1 hnN
      go_wp2
      go_region_law (have _t := HCP; refine step_copy_run (o := ⟨some 45, _, 3, _, _, _⟩) rfl (.tmp 41) (.tmp 44) 68 68 rfl (.slice (some ⟨w.heap.size, n, none⟩) (N - n) (N - n)) (.slice (some ⟨w.heap.size, 0, none⟩) n N) (by go_simp) (by go_simp) HCP.out ?_)
      all_goals go_wp2
      all_goals (go_roundg (N - (n + m)))
      all_goals obtain ⟨x1, x2, x3, x4⟩ := HX.out
      all_goals first | omega | exact ⟨n + m, by omega, by omega, by omega, by simp, HI2⟩
    · obtain rfl : n = N := by omega
      have hd : decide ((n : Int) < (n : Int)) = false := by simp
      clear hn1 hnN hgk hge
      go_wp2
      go_ret
      exact ⟨rfl, HI.out.1, HI.out.2⟩
end Go.Proofs.YtgomjcnefadenaaGreatDoor
