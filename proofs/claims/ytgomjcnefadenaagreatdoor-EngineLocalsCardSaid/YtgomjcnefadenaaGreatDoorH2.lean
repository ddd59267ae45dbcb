/- table.Name, (*Engine).may. Conditions: each contract's own premises. -/
import Derived.Test.YtgomjcnefadenaaGreatDoorH1
import Derived.Test.YtgomjcnefadenaaGreatDoorG4
namespace Go.Proofs.YtgomjcnefadenaaGreatDoor
open Go Go.RowKit

theorem names_any (k : Nat) (h1 : 1 ≤ k) (h4 : k ≤ 4) (w : World) (h : MaxL w) : Calls Tryz.prog 80 #[.int .i64 k] w (Names k w) := by
  rcases k with _ | _ | _ | _ | _ | k
  · omega
  · exact names1 w h
  · exact names2 w h
  · exact names3 w h
  · exact names4 w h
  · omega

theorem notEmpty (x : ByteArray) (h : x.size ≠ 0) : x.toList.isEmpty = false := by
  rw [ByteArray.toList_eq]
  cases hl : x.data.toList with
  | nil =>
    have h2 : x.data.toList.length = 0 := by rw [hl]; rfl
    rw [Array.length_toList] at h2
    exact absurd h2 h
  | cons _ _ => rfl

theorem name_ok (w : World) (h : MaxL w) (k : Nat) (h1 : 1 ≤ k) (h4 : k ≤ 4) (n : Nat) (n1 : 1 ≤ n) (n2 : n ≤ many k) :
    Calls Tryz.prog 46 #[.int .i64 k, .int .i64 n] w fun e w' => ∃ x : ByteArray, x.toList.isEmpty = false ∧ e = .returned (.string x) ∧ Chg none_ w w' := by
  have HN := Lib.hid (names_any k h1 h4 w h)
  have hm : many k ≤ 107 := by unfold many; split <;> (try split) <;> (try split) <;> omega
  obtain ⟨K, hK⟩ : ∃ K : Int, (k : Int) = K := ⟨_, rfl⟩
  obtain ⟨i, rfl⟩ : ∃ i, n = i + 1 := ⟨n - 1, by omega⟩
  unfold Names at HN
  obtain ⟨M, hM⟩ : ∃ M, many k = M := ⟨_, rfl⟩
  rw [hM] at n2 hm HN
  rw [hK] at HN ⊢
  have d1 : decide (((i + 1 : Nat) : Int) < 1) = false := by simp; omega
  have d2 : decide ((M : Int) < ((i + 1 : Nat) : Int)) = false := by simp; omega
  obtain ⟨N, hN⟩ : ∃ N : Int, ((i + 1 : Nat) : Int) = N := ⟨_, rfl⟩
  rw [hN] at d1 d2 ⊢
  have hi : N - 1 = (i : Int) := by omega
  have iw : IntKind.i64.wrap (N - 1) = (i : Int) := by rw [hi]; exact IntWalk.i64_in _ (by omega)
  have i0 : 0 ≤ (i : Int) := by omega
  have i1 : (i : Int) < (M : Int) := by omega
  have HNi := Lib.hid hN
  have hiM : i < M := by omega
  clear h h1 h4 hM hK n1 n2 hm hN hi
  go_enter Tryz.func46, Tryz.ntmps46
  go_wp2_with (go_at_call 80; refine (HN.out).mono ?_; rintro e w' ⟨L, hl, ha, rfl, rfl⟩
               have hb := Blk.new w 9 (L.map Value.string).toArray
               obtain ⟨x, hx⟩ : ∃ x, L[i]? = some x := ⟨L[i]'(by omega), List.getElem?_eq_getElem (by omega)⟩
               have hxs : x.size ≠ 0 := by
                 have := List.all_eq_true.1 ha x (List.mem_of_getElem? hx)
                 simpa using this
               have hc : (w.alloc (.cells (L.map Value.string).toArray 9)).cell? ⟨w.heap.size, i, none⟩ = some (.string x) := by
                 rw [hb.cell i]; simp [hx]
               have HC := Lib.hid (show Chg none_ w (w.alloc (.cells (L.map Value.string).toArray 9)) from Chg.new _ _ _)
               have HX := Lib.hid (notEmpty x hxs)
               generalize w.alloc (.cells (L.map Value.string).toArray 9) = W at *
               clear hb hl ha hx hxs)
  go_ret
  exact ⟨x, HX.out, rfl, HC.out⟩

theorem may1 (w : World) (h : MaxL w) (g : Value) (n : Nat) (n1 : 1 ≤ n) (n2 : n ≤ many 1) (x : Int) :
    Calls Tryz.prog 28 #[g, .agg #[.int .i64 1, .int .i64 n, .int .i64 x]] w fun e w' => e = .returned (.bool true) ∧ Chg none_ w w' := by
  have HN := Lib.hid (name_ok (w.alloc (.cells #[.int .i64 1, .int .i64 n, .int .i64 x] 35)) (h.chg (Chg.new none_ _ _) (fun h => h)) 1 (by omega) (by omega) n n1 n2)
  clear h n1 n2
  go_enter Tryz.func28, Tryz.ntmps28
  go_wp2_with (go_at_call 46; refine (HN.out).mono ?_; rintro e w' ⟨s, hs, rfl, hc⟩; have HC := Lib.hid hc; clear hc)
  go_ret
  exact ⟨rfl, (Chg.new none_ _ _).trans HC.out⟩

theorem may2 (w : World) (h : MaxL w) (g : Value) (n : Nat) (n1 : 1 ≤ n) (n2 : n ≤ many 2) (x : Int) :
    Calls Tryz.prog 28 #[g, .agg #[.int .i64 2, .int .i64 n, .int .i64 x]] w fun e w' => e = .returned (.bool true) ∧ Chg none_ w w' := by
  have HN := Lib.hid (name_ok (w.alloc (.cells #[.int .i64 2, .int .i64 n, .int .i64 x] 35)) (h.chg (Chg.new none_ _ _) (fun h => h)) 2 (by omega) (by omega) n n1 n2)
  clear h n1 n2
  go_enter Tryz.func28, Tryz.ntmps28
  go_wp2_with (go_at_call 46; refine (HN.out).mono ?_; rintro e w' ⟨s, hs, rfl, hc⟩; have HC := Lib.hid hc; clear hc)
  go_ret
  exact ⟨rfl, (Chg.new none_ _ _).trans HC.out⟩

theorem may3 (w : World) (h : MaxL w) (g : Value) (n : Nat) (n1 : 1 ≤ n) (n2 : n ≤ many 3) (x : Int) :
    Calls Tryz.prog 28 #[g, .agg #[.int .i64 3, .int .i64 n, .int .i64 x]] w fun e w' => e = .returned (.bool true) ∧ Chg none_ w w' := by
  have HN := Lib.hid (name_ok (w.alloc (.cells #[.int .i64 3, .int .i64 n, .int .i64 x] 35)) (h.chg (Chg.new none_ _ _) (fun h => h)) 3 (by omega) (by omega) n n1 n2)
  clear h n1 n2
  go_enter Tryz.func28, Tryz.ntmps28
  go_wp2_with (go_at_call 46; refine (HN.out).mono ?_; rintro e w' ⟨s, hs, rfl, hc⟩; have HC := Lib.hid hc; clear hc)
  go_ret
  exact ⟨rfl, (Chg.new none_ _ _).trans HC.out⟩

theorem may4 (w : World) (h : MaxL w) (g : Value) (n : Nat) (n1 : 1 ≤ n) (n2 : n ≤ many 4) (x : Int) :
    Calls Tryz.prog 28 #[g, .agg #[.int .i64 4, .int .i64 n, .int .i64 x]] w fun e w' => e = .returned (.bool true) ∧ Chg none_ w w' := by
  have HN := Lib.hid (name_ok (w.alloc (.cells #[.int .i64 4, .int .i64 n, .int .i64 x] 35)) (h.chg (Chg.new none_ _ _) (fun h => h)) 4 (by omega) (by omega) n n1 n2)
  clear h n1 n2
  go_enter Tryz.func28, Tryz.ntmps28
  go_wp2_with (go_at_call 46; refine (HN.out).mono ?_; rintro e w' ⟨s, hs, rfl, hc⟩; have HC := Lib.hid hc; clear hc)
  go_ret
  exact ⟨rfl, (Chg.new none_ _ _).trans HC.out⟩

theorem mayTable (w : World) (h : MaxL w) (g : Value) (k : Nat) (h1 : 1 ≤ k) (h4 : k ≤ 4) (n : Nat) (n1 : 1 ≤ n) (n2 : n ≤ many k) (x : Int) :
    Calls Tryz.prog 28 #[g, .agg #[.int .i64 k, .int .i64 n, .int .i64 x]] w fun e w' => e = .returned (.bool true) ∧ Chg none_ w w' := by
  rcases k with _ | _ | _ | _ | _ | k
  · omega
  · exact may1 w h g n n1 n2 x
  · exact may2 w h g n n1 n2 x
  · exact may3 w h g n n1 n2 x
  · exact may4 w h g n n1 n2 x
  · omega

theorem mayColon (w : World) (B : Blks) (s : St) (O : Nat → Prop) (H : Eng w B s O) (n : Nat) (n1 : 1 ≤ n) (n2 : n ≤ s.ds.length) (x : Int) :
    Calls Tryz.prog 28 #[ptr B.g, .agg #[.int .i64 5, .int .i64 n, .int .i64 x]] w fun e w' => e = .returned (.bool true) ∧ Chg none_ w w' := by
  obtain ⟨h, hg, ho⟩ := H
  have c1 := hg.c1
  rw [endsOf_len] at c1
  obtain ⟨m, hm⟩ : ∃ m, s.ds.length = m := ⟨_, rfl⟩
  rw [hm] at c1 n2
  have d1 : decide (1 ≤ (n : Int)) = true := by simp; omega
  have d2 : decide ((n : Int) ≤ (m : Int)) = true := by simp; omega
  obtain ⟨N, hN⟩ : ∃ N : Int, (n : Int) = N := ⟨_, rfl⟩
  rw [hN] at d1 d2 ⊢
  have hlt := hg.blk.lt
  unfold ptr
  have HX := Lib.hid (And.intro n1 n2)
  clear hg ho n1 n2 hm hN
  go_enter Tryz.func28, Tryz.ntmps28
  go_wp2
  go_quiet (fail)
  go_wp2
  go_ret
  exact ⟨rfl, (Chg.new none_ _ _).drewN _⟩
end Go.Proofs.YtgomjcnefadenaaGreatDoor
