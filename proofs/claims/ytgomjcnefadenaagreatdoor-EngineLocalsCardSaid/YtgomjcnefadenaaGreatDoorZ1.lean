/- The law on locals, in plain states. Conditions: none. -/
import Derived.Test.YtgomjcnefadenaaGreatDoorR3
import Derived.Test.YtgomjcnefadenaaGreatDoorR5
namespace Go.Proofs.YtgomjcnefadenaaGreatDoor
open Go Go.RowKit

theorem Runs.cons {m : Nat} {s t u : St} (h : StepOk s t) (k : Runs m t u) : Runs (m + 1) s u := ⟨t, h, k⟩

def dI : List I3 := [⟨12, 1, 0⟩, ⟨1, 0, 77⟩, ⟨14, 0, 0⟩, ⟨15, 0, 0⟩]
def dH (n k : Nat) (x : Int) : List I3 := [⟨12, n, 0⟩, ⟨1, 0, x⟩, ⟨14, k, 0⟩, ⟨1, 0, 5⟩, ⟨2, 181, 0⟩]
def dM (i : Nat) : List I3 := (List.range i).map (fun (j : Nat) => (⟨13, (j : Int), 0⟩ : I3))
def dL (n k : Nat) (x : Int) : List I3 := dH n k x ++ dM n ++ [⟨15, 0, 0⟩]
theorem dM_len (i : Nat) : (dM i).length = i := by simp [dM]
theorem dM_succ (i : Nat) : dM (i + 1) = dM i ++ [⟨13, (i : Int), 0⟩] := by simp [dM, List.range_succ]
theorem dL_len (n k : Nat) (x : Int) : (dL n k x).length = n + 6 := by simp [dL, dH, dM_len]
theorem dL_lo (n k : Nat) (x : Int) (i : Nat) (h : i < 5) : (dL n k x)[i]? = (dH n k x)[i]? := by
  unfold dL
  rw [List.append_assoc, List.getElem?_append_left (by simpa [dH] using h)]
theorem dL_mid (n k : Nat) (x : Int) (j : Nat) (h : j < n) : (dL n k x)[5 + j]? = some ⟨13, (j : Int), 0⟩ := by
  unfold dL
  rw [List.append_assoc, List.getElem?_append_right (by simp [dH]), List.getElem?_append_left (by simp [dH, dM_len]; omega)]
  simp [dH, dM, h]
theorem dL_end (n k : Nat) (x : Int) : (dL n k x)[5 + n]? = some ⟨15, 0, 0⟩ := by
  have hl : (dH n k x ++ dM n).length = 5 + n := by simp [dH, dM_len]; omega
  unfold dL
  rw [List.getElem?_append_right (by omega), hl, Nat.sub_self]
  rfl

theorem dI_may : MayOk dI 180 1 (List.replicate 4 0) := by
  refine ⟨by decide, by decide, by omega, loopsOk_line dI 3 rfl (by omega) ?_ ⟨_, rfl, rfl⟩, ⟨_, rfl, rfl⟩, ⟨_, rfl, rfl⟩, ⟨by omega, by omega⟩, ?_⟩
  · intro i x hx hi
    rcases i with _ | _ | _ | i
    · injection hx with hx; subst hx; simp [I3.plain]
    · injection hx with hx; subst hx; simp [I3.plain]
    · injection hx with hx; subst hx; simp [I3.plain]
    · omega
  · intro i x hx
    rcases i with _ | _ | _ | _ | i
    · injection hx with hx; subst hx
      exact ⟨by decide, by decide, .inr rfl, by decide, by decide, fun _ => rfl, fun h => absurd h (by decide)⟩
    · injection hx with hx; subst hx
      exact ⟨by decide, by decide, .inl rfl, by decide, by decide, fun h => absurd h (by decide), fun h => absurd h (by decide)⟩
    · injection hx with hx; subst hx
      exact ⟨by decide, by decide, .inr rfl, by decide, by decide, fun h => absurd h (by decide), fun h => absurd h (by decide)⟩
    · injection hx with hx; subst hx
      exact ⟨by decide, by decide, .inr rfl, by decide, by decide, fun h => absurd h (by decide), fun _ _ => ⟨0, rfl, by omega⟩⟩
    · cases hx

theorem dL_ways (n k : Nat) (x : Int) (i : Nat) (y : I3) (h : (dL n k x)[i]? = some y) :
    (i = 0 ∧ y = ⟨12, n, 0⟩) ∨ (i = 1 ∧ y = ⟨1, 0, x⟩) ∨ (i = 2 ∧ y = ⟨14, k, 0⟩) ∨ (i = 3 ∧ y = ⟨1, 0, 5⟩) ∨ (i = 4 ∧ y = ⟨2, 181, 0⟩) ∨ (∃ j, j < n ∧ i = 5 + j ∧ y = ⟨13, (j : Int), 0⟩) ∨ (i = 5 + n ∧ y = ⟨15, 0, 0⟩) := by
  have hl : i < n + 6 := by
    rcases Nat.lt_or_ge i (n + 6) with h1 | h1
    · exact h1
    · rw [List.getElem?_eq_none (by rw [dL_len]; exact h1)] at h; cases h
  rcases Nat.lt_or_ge i 5 with h5 | h5
  · rw [dL_lo n k x i h5] at h
    rcases i with _ | _ | _ | _ | _ | i
    · injection h with h; exact .inl ⟨rfl, h.symm⟩
    · injection h with h; exact .inr (.inl ⟨rfl, h.symm⟩)
    · injection h with h; exact .inr (.inr (.inl ⟨rfl, h.symm⟩))
    · injection h with h; exact .inr (.inr (.inr (.inl ⟨rfl, h.symm⟩)))
    · injection h with h; exact .inr (.inr (.inr (.inr (.inl ⟨rfl, h.symm⟩))))
    · omega
  · rcases Nat.lt_or_ge i (5 + n) with h6 | h6
    · obtain ⟨j, rfl⟩ : ∃ j, i = 5 + j := ⟨i - 5, by omega⟩
      rw [dL_mid n k x j (by omega)] at h
      injection h with h
      exact .inr (.inr (.inr (.inr (.inr (.inl ⟨j, by omega, rfl, h.symm⟩)))))
    · obtain rfl : i = 5 + n := by omega
      rw [dL_end] at h
      injection h with h
      exact .inr (.inr (.inr (.inr (.inr (.inr ⟨rfl, h.symm⟩)))))

theorem dL_may (n k : Nat) (x : Int) (h1 : 1 ≤ n) (h16 : n ≤ 16) (hk : k < n) : MayOk (dL n k x) 181 n (List.replicate (n + 6) 0) := by
  refine ⟨by rw [dL_len]; omega, by rw [dL_len]; omega, by omega, loopsOk_line (dL n k x) (n + 5) (dL_len n k x) (by omega) ?_ ⟨_, by rw [show n + 5 = 5 + n from by omega]; exact dL_end n k x, rfl⟩,
    ⟨_, by rw [dL_len, show n + 6 - 1 = 5 + n from by omega]; exact dL_end n k x, rfl⟩, ⟨⟨12, n, 0⟩, dL_lo n k x 0 (by omega), by simp⟩, ⟨by omega, by omega⟩, ?_⟩
  · intro i y hy hi
    rcases dL_ways n k x i y hy with ⟨_, rfl⟩ | ⟨_, rfl⟩ | ⟨_, rfl⟩ | ⟨_, rfl⟩ | ⟨_, rfl⟩ | ⟨j, _, _, rfl⟩ | ⟨h, rfl⟩ <;> unfold I3.plain <;> simp
    omega
  · intro i y hy
    rcases dL_ways n k x i y hy with ⟨rfl, rfl⟩ | ⟨rfl, rfl⟩ | ⟨rfl, rfl⟩ | ⟨rfl, rfl⟩ | ⟨rfl, rfl⟩ | ⟨j, hj, rfl, rfl⟩ | ⟨rfl, rfl⟩
    · refine ⟨by simp, by simp, .inr rfl, ?_, ?_, fun _ => rfl, fun h => absurd h (by simp)⟩
      · show (1 : Int) ≤ n; omega
      · show (n : Int) ≤ 16; omega
    · exact ⟨by simp, by simp, .inl rfl, by show (0 : Int) ≤ 0; omega, by show (0 : Int) ≤ 0; omega, fun h => absurd h (by simp), fun h => absurd h (by simp)⟩
    · exact ⟨by simp, by simp, .inr rfl, by show (0 : Int) ≤ k; omega, by show (k : Int) ≤ (n : Int) - 1; omega, fun h => absurd h (by simp), fun h => absurd h (by simp)⟩
    · exact ⟨by simp, by simp, .inl rfl, by show (0 : Int) ≤ 0; omega, by show (0 : Int) ≤ 0; omega, fun h => absurd h (by simp), fun h => absurd h (by simp)⟩
    · exact ⟨by simp, by simp, .inr rfl, by show (1 : Int) ≤ 181; omega, by show (181 : Int) ≤ 181; omega, fun h => absurd h (by simp), fun h => absurd h (by simp)⟩
    · exact ⟨by show (1 : Int) ≤ 13; omega, by show (13 : Int) ≤ 15; omega, .inr rfl, by show (0 : Int) ≤ j; omega, by show (j : Int) ≤ (n : Int) - 1; omega, fun h => absurd h (by simp), fun h => absurd h (by simp)⟩
    · refine ⟨by simp, by simp, .inr rfl, by show (0 : Int) ≤ 0; omega, by show (0 : Int) ≤ 0; omega, fun h => absurd h (by simp), fun _ _ => ⟨0, ?_, by omega⟩⟩
      rw [List.getElem?_replicate, if_pos (by omega)]

/-- The words, with the two of the law behind. -/
def wsL : List Wrd := tableWords ++ [⟨5, 1, 0⟩, ⟨5, 2, 0⟩]
theorem wsL_180 : wsL[180]? = some ⟨5, 1, 0⟩ := by
  unfold wsL
  rw [List.getElem?_append_right (by rw [tw_len]; omega), tw_len]
  rfl
theorem wsL_181 : wsL[181]? = some ⟨5, 2, 0⟩ := by
  unfold wsL
  rw [List.getElem?_append_right (by rw [tw_len]; omega), tw_len]
  rfl
def F0 : LF := ⟨1, 0, 0, 0, 0, []⟩
def F1 (l : List Int) : LF := ⟨4, 0, 0, 0, 0, l⟩
def F2 : LF := ⟨1, 2, 5, 0, 0, []⟩
def sL (n k : Nat) (x : Int) (fs : List LF) (xs : List Int) (df on nx : Int) : St := ⟨[dI, dL n k x], wsL, fs, xs, df, on, nx⟩

/-- The locals are pushed one by one. -/
theorem runs_push (n k : Nat) (x : Int) (l : List Int) (hl : l.length = n) (h16 : n ≤ 16) (j m : Nat) (hj : m + j = n) :
    Runs j (sL n k x [F0, F1 l] (l.take m) 2 ((5 + m : Nat) : Int) 0) (sL n k x [F0, F1 l] l 2 ((5 + n : Nat) : Int) 0) := by
  induction j generalizing m with
  | zero =>
    obtain rfl : m = n := by omega
    rw [List.take_of_length_le (by omega)]
    rfl
  | succ j ih =>
    refine Runs.cons (t := sL n k x [F0, F1 l] (l.take (m + 1)) 2 ((5 + (m + 1) : Nat) : Int) 0) ?_ (ih (m + 1) (by omega))
    have hm : m < l.length := by omega
    have hh := holds_local { sL n k x [F0, F1 l] (l.take m) 2 ((5 + m : Nat) : Int) 0 with on := ((5 + m : Nat) : Int) + 1 } (m : Int) 0 1 (F1 l) (by
        show locF [F0, F1 l] (m : Int) 2 = some 1
        simp only [locF, List.getElem?_cons_succ, List.getElem?_cons_zero, F1]
        rw [if_pos ⟨trivial, by omega, by omega⟩]) rfl (by show (l.take m).length < 128; rw [List.length_take]; omega)
    have e1 : l.take m ++ [(F1 l).l[(m : Int).toNat]?.getD 0] = l.take (m + 1) := by
      rw [List.take_succ_eq_append_getElem hm]
      simp [F1, List.getElem?_eq_getElem hm]
    have e2 : ((5 + m : Nat) : Int) + 1 = ((5 + (m + 1) : Nat) : Int) := by omega
    have hd := does_of_holds _ _ _ hh (by simp)
    simp only [sL, e1, e2] at hd
    refine step_does _ _ [F0] (F1 l) rfl (by simp [F1]) (by simp [F1]) rfl 1 (5 + m) (dL n k x) ⟨13, (m : Int), 0⟩ rfl (dL_mid n k x m (by omega)) rfl rfl ?_
    simp only [sL, e2]
    exact hd

theorem sl_step (n k : Nat) (x : Int) (fs : List LF) (f : LF) (xs : List Int) (p i : Nat) (d : List I3) (z : I3) (s' : St) (h6 : f.k ≠ 6) (h7 : f.k ≠ 7) (hd : [dI, dL n k x][p]? = some d) (hi : d[i]? = some z)
    (h : DoesOk z (sL n k x (fs ++ [f]) xs ((p : Int) + 1) ((i : Int) + 1) 0) s') : StepOk (sL n k x (fs ++ [f]) xs ((p : Int) + 1) (i : Int) 0) s' := step_does _ _ fs f rfl h6 h7 rfl p i d z hd hi rfl rfl h

theorem locals_runs (y : List Int) (n k : Nat) (x : Int) (hn : y.length = n) (h1 : 1 ≤ n) (h16 : n ≤ 16) (hk : k < n) :
    ∃ m, m < 200 ∧ Runs m (sL n k x [] y 0 0 182) (sL n k x [] (y.set k x) 0 0 0) := by
  refine ⟨11 + (n + 2), by omega, Runs.trans (t := sL n k x [F0, F1 (y.set k x)] [] 2 5 0) ?_ (Runs.trans (t := sL n k x [F0, F1 (y.set k x)] (y.set k x) 2 ((5 + n : Nat) : Int) 0) ?_ ?_)⟩
  · refine Runs.cons (t := sL n k x [F0] y 2 0 0) (step_exec _ _ (by simp [sL]) (exec_colon (sL n k x [] y 0 0 0) 181 1 0 wsL_181 (by simp [sL]) (by simp [sL]) 182 rfl)) ?_
    refine Runs.cons (t := sL n k x [F0, F1 y] [] 2 1 0) (sl_step n k x [] F0 y 1 0 (dL n k x) ⟨12, n, 0⟩ _ (by decide) (by decide) rfl (dL_lo n k x 0 (by omega)) ?_) ?_
    · have := holds_locals (sL n k x [F0] y 2 1 0) [] y 0 rfl (by simp [sL]) (by omega)
      rw [hn] at this
      exact does_of_holds _ _ _ this (by simp)
    refine Runs.cons (t := sL n k x [F0, F1 y] [x] 2 2 0) (sl_step n k x [F0] (F1 y) [] 1 1 (dL n k x) ⟨1, 0, x⟩ _ (by simp [F1]) (by simp [F1]) rfl (dL_lo n k x 1 (by omega)) (does_lit _ 0 x (by simp [sL]))) ?_
    refine Runs.cons (t := sL n k x [F0, F1 (y.set k x)] [] 2 3 0) (sl_step n k x [F0] (F1 y) [x] 1 2 (dL n k x) ⟨14, k, 0⟩ _ (by simp [F1]) (by simp [F1]) rfl (dL_lo n k x 2 (by omega)) ?_) ?_
    · have := holds_to (sL n k x [F0, F1 y] [x] 2 3 0) [] x (k : Int) 0 rfl 1 (F1 y) (by
        show locF [F0, F1 y] (k : Int) 2 = some 1
        simp only [locF, List.getElem?_cons_succ, List.getElem?_cons_zero, F1]
        rw [if_pos ⟨trivial, by omega, by omega⟩]) rfl
      rw [Int.toNat_natCast] at this
      exact does_of_holds _ _ _ this (by simp)
    refine Runs.cons (t := sL n k x [F0, F1 (y.set k x)] [5] 2 4 0) (sl_step n k x [F0] (F1 (y.set k x)) [] 1 3 (dL n k x) ⟨1, 0, 5⟩ _ (by simp [F1]) (by simp [F1]) rfl (dL_lo n k x 3 (by omega)) (does_lit _ 0 5 (by simp [sL]))) ?_
    refine Runs.cons (t := sL n k x [F0, F1 (y.set k x), F2] [5] 1 0 0) (sl_step n k x [F0] (F1 (y.set k x)) [5] 1 4 (dL n k x) ⟨2, 181, 0⟩ _ (by simp [F1]) (by simp [F1]) rfl (dL_lo n k x 4 (by omega)) (does_call _ _ _ _ (exec_colon (sL n k x [F0, F1 (y.set k x)] [5] 2 5 0) 180 0 0 wsL_180 (by simp [sL]) (by simp [sL]) 181 rfl))) ?_
    refine Runs.cons (t := sL n k x [F0, F1 (y.set k x), F2, F1 [5]] [] 1 1 0) (sl_step n k x [F0, F1 (y.set k x)] F2 [5] 0 0 dI ⟨12, 1, 0⟩ _ (by decide) (by decide) rfl rfl (does_of_holds _ _ _ (holds_locals (sL n k x [F0, F1 (y.set k x), F2] [5] 1 1 0) [] [5] 0 rfl (by simp [sL]) (by simp)) (by simp))) ?_
    refine Runs.cons (t := sL n k x [F0, F1 (y.set k x), F2, F1 [5]] [77] 1 2 0) (sl_step n k x [F0, F1 (y.set k x), F2] (F1 [5]) [] 0 1 dI ⟨1, 0, 77⟩ _ (by decide) (by decide) rfl rfl (does_lit _ 0 77 (by simp [sL]))) ?_
    refine Runs.cons (t := sL n k x [F0, F1 (y.set k x), F2, F1 [77]] [] 1 3 0) (sl_step n k x [F0, F1 (y.set k x), F2] (F1 [5]) [77] 0 2 dI ⟨14, 0, 0⟩ _ (by decide) (by decide) rfl rfl (does_of_holds _ _ _ (holds_to (sL n k x [F0, F1 (y.set k x), F2, F1 [5]] [77] 1 3 0) [] 77 0 0 rfl 3 (F1 [5]) (by simp [locF, sL, F1]) rfl) (by simp))) ?_
    refine Runs.cons (t := sL n k x [F0, F1 (y.set k x), F2] [] 0 0 0) (sl_step n k x [F0, F1 (y.set k x), F2] (F1 [77]) [] 0 3 dI ⟨15, 0, 0⟩ _ (by decide) (by decide) rfl rfl (does_of_holds _ _ _ (holds_exit_pop (sL n k x [F0, F1 (y.set k x), F2, F1 [77]] [] 1 4 0) [F0, F1 (y.set k x), F2] (F1 [77]) rfl rfl 0 0) (by simp))) ?_
    exact Runs.one (step_returns (sL n k x [F0, F1 (y.set k x), F2] [] 0 0 0) _ [F0, F1 (y.set k x)] F2 rfl (by decide) (by decide) rfl rfl (returns_call (sL n k x [F0, F1 (y.set k x), F2] [] 0 0 0) [F0, F1 (y.set k x)] F2 rfl rfl))
  · have := runs_push n k x (y.set k x) (by rw [List.length_set]; exact hn) h16 n 0 (by omega)
    exact this
  · refine Runs.cons (t := sL n k x [F0] (y.set k x) 0 0 0) (sl_step n k x [F0] (F1 (y.set k x)) (y.set k x) 1 (5 + n) (dL n k x) ⟨15, 0, 0⟩ _ (by simp [F1]) (by simp [F1]) rfl (dL_end n k x) (does_of_holds _ _ _ (holds_exit_pop (sL n k x [F0, F1 (y.set k x)] (y.set k x) 2 (((5 + n : Nat) : Int) + 1) 0) [F0] (F1 (y.set k x)) rfl rfl 0 0) (by simp))) ?_
    exact Runs.one (step_returns (sL n k x [F0] (y.set k x) 0 0 0) _ [] F0 rfl (by decide) (by decide) rfl rfl (returns_call (sL n k x [F0] (y.set k x) 0 0 0) [] F0 rfl rfl))
theorem locals_halt (n k : Nat) (x : Int) (xs : List Int) : HaltOk (sL n k x [] xs 0 0 0) := step_halt _ rfl rfl rfl
end Go.Proofs.YtgomjcnefadenaaGreatDoor
