/- Local and SetLocal. Conditions: each contract's own premises. -/
import Derived.Test.YtgomjcnefadenaaGreatDoorL1
import Derived.Test.YtgomjcnefadenaaGreatDoorP1
import Derived.Outline
namespace Go.Proofs.YtgomjcnefadenaaGreatDoor
open Go Go.RowKit

theorem locGo_some (fs : List Frm) (i : Int) (n m : Nat) (h : locGo fs i n = some m) : ∃ f, fs[m]? = some f ∧ f.k = 4 ∧ 0 ≤ i ∧ i < f.l.length := by
  induction n with
  | zero => simp [locGo] at h
  | succ n ih =>
    simp only [locGo] at h
    split at h
    · rename_i f hf
      split at h
      · rename_i hc
        injection h with h
        subst h
        exact ⟨f, hf, hc⟩
      · split at h
        · cases h
        · exact ih h
    · cases h

theorem local_none (w : World) (fr : Nat) (ad : Option Addr) (c : Nat) (fs : List Frm) (h : Frs w fr ad c fs) (i : Int) (hn : locGo fs i fs.length = none) :
    Calls Tryz.prog 103 #[.pointer (some ⟨fr, 0, none⟩), .int .i64 i] w fun e w' => e = .returned (.tuple #[.int .i64 0, .int .i64 (-6)]) ∧ Chg none_ w w' := by
  have hL := local_any w fr ad c fs h i
  rw [hn] at hL
  simp only [locPtr] at hL
  have HL := Lib.hid hL
  clear hL h hn
  go_enter Tryz.func103, Tryz.ntmps103
  go_wp2_with (go_at_call 132; refine (HL.out).mono ?_; rintro e w1 ⟨rfl, hb⟩)
  go_ret2
  exact ⟨rfl, Chg.ofB hb⟩

theorem local_some (w : World) (fr : Nat) (ad : Option Addr) (c : Nat) (fs : List Frm) (h : Frs w fr ad c fs) (i : Int) (m : Nat) (f : Frm) (hn : locGo fs i fs.length = some m) (hf : fs[m]? = some f) :
    Calls Tryz.prog 103 #[.pointer (some ⟨fr, 0, none⟩), .int .i64 i] w fun e w' => e = .returned (.tuple #[.int .i64 (f.l[i.toNat]?.getD 0), .int .i64 0]) ∧ Chg none_ w w' := by
  obtain ⟨f', hf', hk, hi0, hi1⟩ := locGo_some fs i _ m hn
  obtain rfl : f = f' := by rw [hf] at hf'; exact Option.some.inj hf'
  have hr := (h.loc f (List.mem_of_getElem? hf)).1
  obtain ⟨gl, hgl, hcell, _⟩ := hr.cell (j := i.toNat) (by rw [ints_len]; omega)
  have hv : (ints f.l)[i.toNat]'(by rw [ints_len]; omega) = .int .i64 (f.l[i.toNat]?.getD 0) := by
    simp [ints, List.getElem?_eq_getElem (show i.toNat < f.l.length from by omega)]
  rw [hv] at hcell
  have hL := local_any w fr ad c fs h i
  rw [hn] at hL
  simp only [locPtr, hf, hgl, Option.map_some] at hL
  have HL := Lib.hid hL
  obtain ⟨V, hV⟩ : ∃ V, f.l[i.toNat]?.getD 0 = V := ⟨_, rfl⟩
  obtain ⟨j, hj⟩ : ∃ j, i.toNat = j := ⟨_, rfl⟩
  rw [hV] at hcell ⊢
  rw [hj] at hcell HL
  clear hL h hn hf hf' hv hgl hr hV hj hk
  go_enter Tryz.func103, Tryz.ntmps103
  go_wp2_with (go_at_call 132; refine (HL.out).mono ?_; rintro e w1 ⟨rfl, hb⟩; have hc1 := (Chg.ofB hb).cell_some hcell (fun h => h); have HB := Lib.hid hb; clear hb)
  go_ret2
  exact ⟨rfl, Chg.ofB HB.out⟩

theorem setlocal_none (w : World) (fr : Nat) (ad : Option Addr) (c : Nat) (fs : List Frm) (h : Frs w fr ad c fs) (i x : Int) (hn : locGo fs i fs.length = none) :
    Calls Tryz.prog 105 #[.pointer (some ⟨fr, 0, none⟩), .int .i64 i, .int .i64 x] w fun e w' => e = .returned (.int .i64 (-6)) ∧ Chg none_ w w' := by
  have hL := local_any w fr ad c fs h i
  rw [hn] at hL
  simp only [locPtr] at hL
  have HL := Lib.hid hL
  clear hL h hn
  go_enter Tryz.func105, Tryz.ntmps105
  go_wp2_with (go_at_call 132; refine (HL.out).mono ?_; rintro e w1 ⟨rfl, hb⟩)
  go_ret
  exact ⟨rfl, Chg.ofB hb⟩

/-- A local is set: that frame alone is another. -/
theorem Frs.setLocal {w : World} {fr : Nat} {ad : Option Addr} {c : Nat} {fs : List Frm} (h : Frs w fr ad c fs) {m : Nat} {f : Frm} (hf : fs[m]? = some f) {gl j : Nat} (hgl : f.la = some ⟨gl, 0, none⟩) (hj : j < f.l.length) (x : Int) :
    Frs (w.setCell ⟨gl, j, none⟩ (.int .i64 x)) fr ad c (fs.set m { f with l := f.l.set j x }) := by
  have hmem := List.mem_of_getElem? hf
  have hr := (h.loc f hmem).1
  have hm : m < fs.length := by
    rcases Nat.lt_or_ge m fs.length with h | h
    · exact h
    · rw [List.getElem?_eq_none h] at hf; cases hf
  have hfm : fs[m] = f := by rw [List.getElem?_eq_getElem hm] at hf; exact Option.some.inj hf
  have hgb : inB f.la gl := ⟨_, hgl, rfl⟩
  have hcells : ({ f with l := f.l.set j x } : Frm).cells = f.cells := by simp [Frm.cells]
  have hflat : (fs.set m { f with l := f.l.set j x }).flatMap Frm.cells = fs.flatMap Frm.cells := by
    rw [List.flatMap_def, List.flatMap_def, List.map_set, hcells, ← hfm, ← List.map_set, List.set_getElem_self]
  have hap := h.apart
  refine ⟨?_, ?_, by rw [List.length_set]; exact h.le, ?_, ?_⟩
  · rw [List.length_set]
    exact h.blk.setR j (fun e => row_blk hr h.blk (by decide) (e ▸ hgb)) _
  · rw [List.length_set, hflat]
    exact h.row.set_far j (fun hk => row_far hr h.row (by decide) hgb hk) _
  · intro g hg
    obtain ⟨i, hi, rfl⟩ := List.mem_iff_getElem.1 hg
    rw [List.length_set] at hi
    by_cases him : i = m
    · subst him
      rw [List.getElem_set_self]
      refine ⟨?_, by simpa using (h.loc f hmem).2⟩
      have := hr.stored (g := gl) (j := j) hgl (by rw [ints_len]; exact hj) (.int .i64 x)
      simpa [ints, List.map_set] using this
    · rw [List.getElem_set_ne (fun e => him e.symm)]
      have hin : ¬ inB fs[i].la gl := by
        intro hin
        have hp := List.pairwise_iff_getElem.1 hap
        rcases Nat.lt_or_gt_of_ne him with hlt | hgt
        · exact hp i m hi hm hlt gl hin (by rw [hfm]; exact hgb)
        · exact hp m i hm hi hgt gl (by rw [hfm]; exact hgb) hin
      have hl := h.loc fs[i] (List.getElem_mem hi)
      exact ⟨hl.1.set_far j hin _, hl.2⟩
  · have hmap : (fs.set m { f with l := f.l.set j x }).map Frm.la = fs.map Frm.la := by
      rw [List.map_set]
      show (fs.map Frm.la).set m f.la = _
      rw [← hfm, ← List.map_set, List.set_getElem_self]
    have h1 : (fs.map Frm.la).Pairwise (fun a b => ∀ k, inB a k → ¬ inB b k) := List.pairwise_map.2 hap
    rw [← hmap] at h1
    exact List.pairwise_map.1 h1

theorem setlocal_some (w : World) (fr : Nat) (ad : Option Addr) (c : Nat) (fs : List Frm) (h : Frs w fr ad c fs) (i x : Int) (m : Nat) (f : Frm) (hn : locGo fs i fs.length = some m) (hf : fs[m]? = some f) :
    Calls Tryz.prog 105 #[.pointer (some ⟨fr, 0, none⟩), .int .i64 i, .int .i64 x] w fun e w' => e = .returned (.int .i64 0) ∧ Frs w' fr ad c (fs.set m { f with l := f.l.set i.toNat x }) ∧ Chg (inB f.la) w w' := by
  obtain ⟨f', hf', hk, hi0, hi1⟩ := locGo_some fs i _ m hn
  obtain rfl : f = f' := by rw [hf] at hf'; exact Option.some.inj hf'
  have hr := (h.loc f (List.mem_of_getElem? hf)).1
  obtain ⟨gl, hgl, hcell, hfz⟩ := hr.cell (j := i.toNat) (by rw [ints_len]; omega)
  have hL := local_any w fr ad c fs h i
  rw [hn] at hL
  simp only [locPtr, hf, hgl, Option.map_some] at hL
  have HL := Lib.hid hL
  obtain ⟨j, hj⟩ : ∃ j, i.toNat = j := ⟨_, rfl⟩
  obtain ⟨V, hV⟩ : ∃ V, (ints f.l)[i.toNat]'(by rw [ints_len]; omega) = V := ⟨_, rfl⟩
  have hc : w.cell? ⟨gl, j, none⟩ = some V := by rw [← hj, hcell, hV]
  have hz : w.frozen? ⟨gl, j, none⟩ = false := by rw [← hj]; exact hfz
  have hjl : j < f.l.length := by omega
  rw [hj] at HL
  have HJ := Lib.hid hj
  have H := Lib.hid h
  have HF := Lib.hid hf
  have HGL := Lib.hid hgl
  clear hL h hn hf hf' hgl hr hV hj hk hcell hfz
  go_enter Tryz.func105, Tryz.ntmps105
  go_wp2_with (go_at_call 132; refine (HL.out).mono ?_; rintro e w1 ⟨rfl, hb⟩; have hc1 := (Chg.ofB hb).cell_some hc (fun h => h); have hz1 := ((Chg.ofB hb).frozen (p := ⟨gl, j, none⟩) (block_lt_of_cell hc) (fun h => h)).trans hz; have HB := Lib.hid hb; clear hb)
  go_ret
  rw [HJ.out]
  have hF1 := (H.out).chg (Chg.ofB HB.out) (fun _ _ h => h)
  exact ⟨rfl, hF1.setLocal HF.out HGL.out hjl x, ((Chg.ofB HB.out).weak _).setL j ⟨_, HGL.out, rfl⟩ _⟩
end Go.Proofs.YtgomjcnefadenaaGreatDoor
