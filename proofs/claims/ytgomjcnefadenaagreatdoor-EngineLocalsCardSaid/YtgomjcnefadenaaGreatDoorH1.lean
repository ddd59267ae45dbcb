/- The names of a kind: strings.Split by the shelf; table.names, table.Name. Conditions: each contract's own premises. -/
import Derived.Test.YtgomjcnefadenaaGreatDoorG2
import Derived.Test.YtgomjcnefadenaaGreatDoorK0
import Derived.Shelf.Strings.SplitShaped
namespace Go.Proofs.YtgomjcnefadenaaGreatDoor
open Go Go.RowKit
/-- Where internal/bytealg.MaxLen lies. -/
def gM : Nat := Tryz.laysM146_ren.g 1
/-- internal/bytealg.MaxLen holds a number. -/
def MaxL (w : World) : Prop := ∃ m, w.cell? ⟨gM, 0, none⟩ = some (.int .i64 m)
theorem MaxL.chg {w w' : World} {S : Nat → Prop} (h : MaxL w) (hc : Chg S w w') (hn : ¬ S gM) : MaxL w' := by
  obtain ⟨m, hm⟩ := h
  exact ⟨m, hc.cell_some hm hn⟩
theorem split_ok (s : ByteArray) (w : World) (h : MaxL w) (hs : s.size < 4294967281) :
    Calls Tryz.prog 107 #[.string s, .string ⟨#[32]⟩] w fun e w' =>
      e = .returned (.slice (some ⟨w.heap.size, 0, none⟩) (Lib.countB s ⟨#[32]⟩ + 1) (Lib.countB s ⟨#[32]⟩ + 1)) ∧ w' = w.alloc (.cells ((Lib.splitB ⟨#[32]⟩ 0 (Lib.countB s ⟨#[32]⟩) s).map Value.string).toArray 9) := by
  obtain ⟨m, hm⟩ := h
  exact Any.strings_Split { Tryz.laysM146 with } Tryz.laysM146.i9 s _ m w hs hm (by decide)

/-- How many names there are of a kind. -/
def many (k : Nat) : Nat := if k = 1 then 107 else if k = 2 then 9 else if k = 3 then 17 else 47

/-- What names gives: a new row of strings, none of them empty. -/
def Names (k : Nat) (w : World) (e : Ending) (w' : World) : Prop :=
  ∃ L : List ByteArray, L.length = many k ∧ L.all (fun x => x.size != 0) = true ∧ e = .returned (.slice (some ⟨w.heap.size, 0, none⟩) (many k) (many k)) ∧ w' = w.alloc (.cells (L.map Value.string).toArray 9)

theorem names_of (k : Nat) (s : ByteArray) (w : World) (l : List UInt8) (hl : s.data.toList = l) (hc : l.count 32 + 1 = many k) (ha : (Lib.splitK [32] 0 (l.count 32) l).all (fun x => !x.isEmpty) = true) (e : Ending) (w' : World)
    (h : e = .returned (.slice (some ⟨w.heap.size, 0, none⟩) (Lib.countB s ⟨#[32]⟩ + 1) (Lib.countB s ⟨#[32]⟩ + 1)) ∧ w' = w.alloc (.cells ((Lib.splitB ⟨#[32]⟩ 0 (Lib.countB s ⟨#[32]⟩) s).map Value.string).toArray 9)) : Names k w e w' := by
  obtain ⟨rfl, rfl⟩ := h
  have hcb : Lib.countB s ⟨#[32]⟩ = l.count 32 := by
    rw [← hl]
    exact Lib.count_one 32 s.data.toList
  refine ⟨_, ?_, ?_, by rw [hcb, hc], rfl⟩
  · rw [Lib.splitB_all _ (by decide) 0 _ s rfl, hcb, hc]
  · have h1 := Lib.splitB_data ⟨#[32]⟩ 0 (Lib.countB s ⟨#[32]⟩) s
    rw [hl, hcb] at h1
    rw [← h1, List.all_map] at ha
    rw [hcb, List.all_eq_true] at *
    intro x hx
    have := ha x hx
    simp only [Function.comp, Bool.not_eq_true'] at this
    simp only [bne_iff_ne, ne_eq]
    intro hz
    have h2 : x.data.toList = [] := List.eq_nil_of_length_eq_zero (by rw [Array.length_toList]; exact hz)
    rw [h2] at this
    cases this

set_option maxRecDepth 100000 in
theorem names1 (w : World) (h : MaxL w) : Calls Tryz.prog 80 #[.int .i64 1] w (Names 1 w) := by
  have HM := Lib.hid h
  clear h
  go_enter Tryz.func80, Tryz.ntmps80
  go_wp2_with fail
  with_reducible refine ((split_ok _ w HM.out (of_decide_eq_true (by kernel_rfl))).mono (names_of 1 _ w _ rfl (by kernel_rfl) (by kernel_rfl))).mono ?_
  rintro e w' ⟨L, h1, h2, rfl, rfl⟩
  have HL := Lib.hid (And.intro h1 h2)
  clear h1 h2
  go_wp2_with fail
  go_ret
  exact ⟨L, HL.out.1, HL.out.2, rfl, rfl⟩
set_option maxRecDepth 100000 in
theorem names2 (w : World) (h : MaxL w) : Calls Tryz.prog 80 #[.int .i64 2] w (Names 2 w) := by
  have HM := Lib.hid h
  clear h
  go_enter Tryz.func80, Tryz.ntmps80
  go_wp2_with fail
  with_reducible refine ((split_ok _ w HM.out (of_decide_eq_true (by kernel_rfl))).mono (names_of 2 _ w _ rfl (by kernel_rfl) (by kernel_rfl))).mono ?_
  rintro e w' ⟨L, h1, h2, rfl, rfl⟩
  have HL := Lib.hid (And.intro h1 h2)
  clear h1 h2
  go_wp2_with fail
  go_ret
  exact ⟨L, HL.out.1, HL.out.2, rfl, rfl⟩
set_option maxRecDepth 100000 in
theorem names3 (w : World) (h : MaxL w) : Calls Tryz.prog 80 #[.int .i64 3] w (Names 3 w) := by
  have HM := Lib.hid h
  clear h
  go_enter Tryz.func80, Tryz.ntmps80
  go_wp2_with fail
  with_reducible refine ((split_ok _ w HM.out (of_decide_eq_true (by kernel_rfl))).mono (names_of 3 _ w _ rfl (by kernel_rfl) (by kernel_rfl))).mono ?_
  rintro e w' ⟨L, h1, h2, rfl, rfl⟩
  have HL := Lib.hid (And.intro h1 h2)
  clear h1 h2
  go_wp2_with fail
  go_ret
  exact ⟨L, HL.out.1, HL.out.2, rfl, rfl⟩
set_option maxRecDepth 100000 in
theorem names4 (w : World) (h : MaxL w) : Calls Tryz.prog 80 #[.int .i64 4] w (Names 4 w) := by
  have HM := Lib.hid h
  clear h
  go_enter Tryz.func80, Tryz.ntmps80
  go_wp2_with fail
  with_reducible refine ((split_ok _ w HM.out (of_decide_eq_true (by kernel_rfl))).mono (names_of 4 _ w _ rfl (by kernel_rfl) (by kernel_rfl))).mono ?_
  rintro e w' ⟨L, h1, h2, rfl, rfl⟩
  have HL := Lib.hid (And.intro h1 h2)
  clear h1 h2
  go_wp2_with fail
  go_ret
  exact ⟨L, HL.out.1, HL.out.2, rfl, rfl⟩
end Go.Proofs.YtgomjcnefadenaaGreatDoor
