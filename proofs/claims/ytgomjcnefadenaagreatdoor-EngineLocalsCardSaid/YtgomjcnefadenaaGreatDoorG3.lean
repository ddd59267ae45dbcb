/- Words and instructions of the engine: where they lie and how they are read. Conditions: each contract's own premises. -/
import Derived.Test.YtgomjcnefadenaaGreatDoorG2
namespace Go.Proofs.YtgomjcnefadenaaGreatDoor
open Go Go.RowKit

theorem wflat_len (ws : List Wrd) : (ws.flatMap Wrd.cells).length = ws.length * 3 := by
  induction ws with
  | nil => rfl
  | cons f fs ih => simp only [List.flatMap_cons, List.length_append, ih, List.length_cons, Wrd.cells, List.length_nil]; omega
theorem wflat_at (ws : List Wrd) (i j : Nat) (f : Wrd) (h : ws[i]? = some f) (hj : j < 3) : (ws.flatMap Wrd.cells)[i * 3 + j]? = f.cells[j]? := by
  induction ws generalizing i with
  | nil => simp at h
  | cons g ws ih =>
    have hl : g.cells.length = 3 := rfl
    rw [List.flatMap_cons]
    cases i with
    | zero =>
      simp only [List.getElem?_cons_zero, Option.some.injEq] at h
      subst h
      rw [Nat.zero_mul, Nat.zero_add, List.getElem?_append_left (by rw [hl]; exact hj)]
    | succ i =>
      simp only [List.getElem?_cons_succ] at h
      rw [List.getElem?_append_right (by rw [hl]; omega), hl, show (i + 1) * 3 + j - 3 = i * 3 + j from by omega]
      exact ih i h

/-- Where a word lies. -/
theorem EngG.word {w : World} {B : Blks} {s : St} {h : Gh} (H : EngG w B s h) {i : Nat} {f : Wrd} (hi : s.ws[i]? = some f) :
    ∃ g, h.wad = some ⟨g, 0, none⟩ ∧ (∀ j, j < 3 → w.cell? ⟨g, i * 3 + j, none⟩ = f.cells[j]?) ∧ (∀ j, w.frozen? ⟨g, j, none⟩ = false) := by
  have hl : i < s.ws.length := by
    rcases Nat.lt_or_ge i s.ws.length with h | h
    · exact h
    · rw [List.getElem?_eq_none h] at hi; cases hi
  have h0 := H.words
  rcases h0.form with ⟨_, hn, _, _⟩ | ⟨g, cur, hg, hb, _⟩
  · omega
  refine ⟨g, hg, fun j hj => ?_, hb.frozen⟩
  obtain ⟨g', he, hc, _⟩ := h0.cell (j := i * 3 + j) (by rw [wflat_len]; omega)
  rw [hg] at he
  injection he with he; injection he with he _ _; subst he
  rw [hc, ← wflat_at s.ws i j f hi hj, List.getElem?_eq_getElem]

/-- find: a word that there is. -/
theorem find_some (w : World) (B : Blks) (s : St) (O : Nat → Prop) (H : Eng w B s O) (i : Nat) (f : Wrd) (hi : s.ws[i]? = some f) :
    ∃ g, (∀ j, j < 3 → w.cell? ⟨g, i * 3 + j, none⟩ = f.cells[j]?) ∧
      Calls Tryz.prog 30 #[ptr B.g, .int .i64 ((i : Int) + 1)] w fun e w' => e = .returned (.pointer (some ⟨g, i * 3, none⟩)) ∧ w = w' := by
  obtain ⟨h, hg, ho⟩ := H
  obtain ⟨g, hga, hcells, _⟩ := hg.word hi
  refine ⟨g, hcells, ?_⟩
  have hl : i < s.ws.length := by
    rcases Nat.lt_or_ge i s.ws.length with h | h
    · exact h
    · rw [List.getElem?_eq_none h] at hi; cases hi
  have hw := hg.wws
  have c2 := hg.c2
  rw [hga] at c2
  obtain ⟨m, hm⟩ : ∃ m, s.ws.length = m := ⟨_, rfl⟩
  rw [hm] at c2 hl hw
  have hd1 : decide ((i : Int) + 1 < 1) = false := by simp; omega
  have hd2 : decide ((m : Int) < (i : Int) + 1) = false := by simp; omega
  have hi1 : (i : Int) < (m : Int) := by omega
  clear hg ho hcells hi hm hga
  unfold ptr
  go_enter Tryz.func30, Tryz.ntmps30
  go_wp2
  go_ret
  exact ⟨rfl, rfl⟩

/-- Exec: a word that there is. -/
theorem exec_ok (w : World) (B : Blks) (s : St) (O : Nat → Prop) (H : Eng w B s O) (i : Nat) (f : Wrd) (hi : s.ws[i]? = some f) :
    Calls Tryz.prog 15 #[ptr B.g, .int .i64 ((i : Int) + 1)] w fun e w' => e = .returned (.int .i64 0) ∧ Goes B w O w' { s with nx := (i : Int) + 1 } := by
  obtain ⟨g, _, hF⟩ := find_some w B s O H i f hi
  have HF := Lib.hid hF
  obtain ⟨h, hg, ho⟩ := H
  have c6 := hg.c6
  have f6 := hg.fz 6
  have HG := Lib.hid hg
  have HO := Lib.hid ho
  clear hg ho hF hi
  unfold ptr at *
  go_enter Tryz.func15, Tryz.ntmps15
  go_wp2_with (go_at_call 30; refine (HF.out).mono ?_; rintro e w' ⟨rfl, rfl⟩)
  go_ret
  exact ⟨rfl, (HG.out).goes_set HO.out { s with nx := (i : Int) + 1 } 6 _ ⟨rfl, rfl, rfl, rfl⟩ rfl⟩
end Go.Proofs.YtgomjcnefadenaaGreatDoor
