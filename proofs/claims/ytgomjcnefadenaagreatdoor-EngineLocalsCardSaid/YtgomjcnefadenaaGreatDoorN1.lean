/- ins.steps and ins.kind. Conditions: each contract's own premises. -/
import Derived.Test.YtgomjcnefadenaaGreatDoorG5
namespace Go.Proofs.YtgomjcnefadenaaGreatDoor
open Go Go.RowKit

/-- A place at which it goes on, and how many loops are open there. -/
abbrev Stp := Int × Int
def Stp.cells (x : Stp) : List Value := [.int .i64 x.1, .int .i64 x.2]
/-- ins.steps. -/
def stepsF (x : I3) (at_ lp : Int) : List Stp :=
  if x.op = 15 then [] else if x.op = 3 then [(x.a, lp)] else if x.op = 9 then [(x.a, lp - 1)]
  else if x.op = 4 ∨ x.op = 10 then [(at_ + 1, lp), (x.a, lp)] else if x.op = 5 then [(at_ + 1, lp + 1)]
  else if x.op = 6 then [(at_ + 1, lp + 1), (x.a, lp)] else if x.op = 7 ∨ x.op = 8 then [(at_ + 1, lp - 1), (x.a, lp)] else [(at_ + 1, lp)]

/-- What steps gives: a new row. -/
def Steps (x : I3) (at_ lp : Int) (w : World) (e : Ending) (w' : World) : Prop :=
  ∃ ad n c, e = .returned (.slice ad n c) ∧ n = (stepsF x at_ lp).length ∧ Rd w' ad ((stepsF x at_ lp).flatMap Stp.cells) ∧ Chg none_ w w' ∧ ∀ k, inB ad k → w.heap.size ≤ k

def StepsOk (x : I3) : Prop := ∀ (at_ lp : Int) (w : World), 0 ≤ at_ → at_ ≤ 1000 → 0 ≤ lp → lp ≤ 1000 → Calls Tryz.prog 79 #[.agg #[.int .u8 x.op, .int .i64 x.a, .int .i64 x.w], .int .i64 at_, .int .i64 lp] w (Steps x at_ lp w)

theorem fresh_some {w : World} {g : Nat} (h : w.heap.size ≤ g) : ∀ k, inB (some ⟨g, 0, none⟩) k → w.heap.size ≤ k := by
  rintro k ⟨a, ha, rfl⟩
  injection ha with ha
  subst ha
  exact h
theorem Rd.new3 (w : World) (A B C : Obj) (cs : Array Value) : Rd ((((w.alloc A).alloc B).alloc C).alloc (.cells cs 137)).drew (some ⟨w.heap.size + 1 + 1 + 1, 0, none⟩) cs.toList := by
  have := Rd.of_blk (Blk.new (((w.alloc A).alloc B).alloc C) 137 cs).drew
  simpa using this
theorem fresh_none {w : World} : ∀ k, inB none k → w.heap.size ≤ k := by
  rintro k ⟨a, ha, _⟩
  cases ha

set_option maxRecDepth 100000 in
theorem steps1 (a v : Int) : StepsOk ⟨1, a, v⟩ := by
  intro at_ lp w h1 h2 h3 h4
  unfold Steps
  rw [show stepsF ⟨1, a, v⟩ at_ lp = [(at_ + 1, lp)] from rfl]
  have iw1 : IntKind.i64.wrap (at_ + 1) = at_ + 1 := IntWalk.i64_in _ (by omega)
  have iw2 : IntKind.i64.wrap (lp + 1) = lp + 1 := IntWalk.i64_in _ (by omega)
  have iw3 : IntKind.i64.wrap (lp - 1) = lp - 1 := IntWalk.i64_in _ (by omega)
  clear h1 h2 h3 h4
  go_enter Tryz.func79, Tryz.ntmps79
  go_wp2
  go_region
  all_goals go_wp2
  all_goals go_ret
  all_goals exact ⟨some ⟨_, 0, none⟩, _, _, rfl, rfl, Rd.new3 w _ _ _ _, by (repeat (first | exact Chg.refl _ _ | apply Chg.alloc | apply Chg.drew)), fresh_some (by omega)⟩

set_option maxRecDepth 100000 in
theorem steps2 (a v : Int) : StepsOk ⟨2, a, v⟩ := by
  intro at_ lp w h1 h2 h3 h4
  unfold Steps
  rw [show stepsF ⟨2, a, v⟩ at_ lp = [(at_ + 1, lp)] from rfl]
  have iw1 : IntKind.i64.wrap (at_ + 1) = at_ + 1 := IntWalk.i64_in _ (by omega)
  have iw2 : IntKind.i64.wrap (lp + 1) = lp + 1 := IntWalk.i64_in _ (by omega)
  have iw3 : IntKind.i64.wrap (lp - 1) = lp - 1 := IntWalk.i64_in _ (by omega)
  clear h1 h2 h3 h4
  go_enter Tryz.func79, Tryz.ntmps79
  go_wp2
  go_region
  all_goals go_wp2
  all_goals go_ret
  all_goals exact ⟨some ⟨_, 0, none⟩, _, _, rfl, rfl, Rd.new3 w _ _ _ _, by (repeat (first | exact Chg.refl _ _ | apply Chg.alloc | apply Chg.drew)), fresh_some (by omega)⟩

set_option maxRecDepth 100000 in
theorem steps3 (a v : Int) : StepsOk ⟨3, a, v⟩ := by
  intro at_ lp w h1 h2 h3 h4
  unfold Steps
  rw [show stepsF ⟨3, a, v⟩ at_ lp = [(a, lp)] from rfl]
  have iw1 : IntKind.i64.wrap (at_ + 1) = at_ + 1 := IntWalk.i64_in _ (by omega)
  have iw2 : IntKind.i64.wrap (lp + 1) = lp + 1 := IntWalk.i64_in _ (by omega)
  have iw3 : IntKind.i64.wrap (lp - 1) = lp - 1 := IntWalk.i64_in _ (by omega)
  clear h1 h2 h3 h4
  go_enter Tryz.func79, Tryz.ntmps79
  go_wp2
  go_region
  all_goals go_wp2
  all_goals go_ret
  all_goals exact ⟨some ⟨_, 0, none⟩, _, _, rfl, rfl, Rd.new3 w _ _ _ _, by (repeat (first | exact Chg.refl _ _ | apply Chg.alloc | apply Chg.drew)), fresh_some (by omega)⟩

set_option maxRecDepth 100000 in
theorem steps4 (a v : Int) : StepsOk ⟨4, a, v⟩ := by
  intro at_ lp w h1 h2 h3 h4
  unfold Steps
  rw [show stepsF ⟨4, a, v⟩ at_ lp = [(at_ + 1, lp), (a, lp)] from rfl]
  have iw1 : IntKind.i64.wrap (at_ + 1) = at_ + 1 := IntWalk.i64_in _ (by omega)
  have iw2 : IntKind.i64.wrap (lp + 1) = lp + 1 := IntWalk.i64_in _ (by omega)
  have iw3 : IntKind.i64.wrap (lp - 1) = lp - 1 := IntWalk.i64_in _ (by omega)
  clear h1 h2 h3 h4
  go_enter Tryz.func79, Tryz.ntmps79
  go_wp2
  go_region
  all_goals go_wp2
  all_goals go_ret
  all_goals exact ⟨some ⟨_, 0, none⟩, _, _, rfl, rfl, Rd.new3 w _ _ _ _, by (repeat (first | exact Chg.refl _ _ | apply Chg.alloc | apply Chg.drew)), fresh_some (by omega)⟩

set_option maxRecDepth 100000 in
theorem steps5 (a v : Int) : StepsOk ⟨5, a, v⟩ := by
  intro at_ lp w h1 h2 h3 h4
  unfold Steps
  rw [show stepsF ⟨5, a, v⟩ at_ lp = [(at_ + 1, lp + 1)] from rfl]
  have iw1 : IntKind.i64.wrap (at_ + 1) = at_ + 1 := IntWalk.i64_in _ (by omega)
  have iw2 : IntKind.i64.wrap (lp + 1) = lp + 1 := IntWalk.i64_in _ (by omega)
  have iw3 : IntKind.i64.wrap (lp - 1) = lp - 1 := IntWalk.i64_in _ (by omega)
  clear h1 h2 h3 h4
  go_enter Tryz.func79, Tryz.ntmps79
  go_wp2
  go_region
  all_goals go_wp2
  all_goals go_ret
  all_goals exact ⟨some ⟨_, 0, none⟩, _, _, rfl, rfl, Rd.new3 w _ _ _ _, by (repeat (first | exact Chg.refl _ _ | apply Chg.alloc | apply Chg.drew)), fresh_some (by omega)⟩

set_option maxRecDepth 100000 in
theorem steps6 (a v : Int) : StepsOk ⟨6, a, v⟩ := by
  intro at_ lp w h1 h2 h3 h4
  unfold Steps
  rw [show stepsF ⟨6, a, v⟩ at_ lp = [(at_ + 1, lp + 1), (a, lp)] from rfl]
  have iw1 : IntKind.i64.wrap (at_ + 1) = at_ + 1 := IntWalk.i64_in _ (by omega)
  have iw2 : IntKind.i64.wrap (lp + 1) = lp + 1 := IntWalk.i64_in _ (by omega)
  have iw3 : IntKind.i64.wrap (lp - 1) = lp - 1 := IntWalk.i64_in _ (by omega)
  clear h1 h2 h3 h4
  go_enter Tryz.func79, Tryz.ntmps79
  go_wp2
  go_region
  all_goals go_wp2
  all_goals go_ret
  all_goals exact ⟨some ⟨_, 0, none⟩, _, _, rfl, rfl, Rd.new3 w _ _ _ _, by (repeat (first | exact Chg.refl _ _ | apply Chg.alloc | apply Chg.drew)), fresh_some (by omega)⟩

set_option maxRecDepth 100000 in
theorem steps7 (a v : Int) : StepsOk ⟨7, a, v⟩ := by
  intro at_ lp w h1 h2 h3 h4
  unfold Steps
  rw [show stepsF ⟨7, a, v⟩ at_ lp = [(at_ + 1, lp - 1), (a, lp)] from rfl]
  have iw1 : IntKind.i64.wrap (at_ + 1) = at_ + 1 := IntWalk.i64_in _ (by omega)
  have iw2 : IntKind.i64.wrap (lp + 1) = lp + 1 := IntWalk.i64_in _ (by omega)
  have iw3 : IntKind.i64.wrap (lp - 1) = lp - 1 := IntWalk.i64_in _ (by omega)
  clear h1 h2 h3 h4
  go_enter Tryz.func79, Tryz.ntmps79
  go_wp2
  go_region
  all_goals go_wp2
  all_goals go_ret
  all_goals exact ⟨some ⟨_, 0, none⟩, _, _, rfl, rfl, Rd.new3 w _ _ _ _, by (repeat (first | exact Chg.refl _ _ | apply Chg.alloc | apply Chg.drew)), fresh_some (by omega)⟩

set_option maxRecDepth 100000 in
theorem steps8 (a v : Int) : StepsOk ⟨8, a, v⟩ := by
  intro at_ lp w h1 h2 h3 h4
  unfold Steps
  rw [show stepsF ⟨8, a, v⟩ at_ lp = [(at_ + 1, lp - 1), (a, lp)] from rfl]
  have iw1 : IntKind.i64.wrap (at_ + 1) = at_ + 1 := IntWalk.i64_in _ (by omega)
  have iw2 : IntKind.i64.wrap (lp + 1) = lp + 1 := IntWalk.i64_in _ (by omega)
  have iw3 : IntKind.i64.wrap (lp - 1) = lp - 1 := IntWalk.i64_in _ (by omega)
  clear h1 h2 h3 h4
  go_enter Tryz.func79, Tryz.ntmps79
  go_wp2
  go_region
  all_goals go_wp2
  all_goals go_ret
  all_goals exact ⟨some ⟨_, 0, none⟩, _, _, rfl, rfl, Rd.new3 w _ _ _ _, by (repeat (first | exact Chg.refl _ _ | apply Chg.alloc | apply Chg.drew)), fresh_some (by omega)⟩

set_option maxRecDepth 100000 in
theorem steps9 (a v : Int) : StepsOk ⟨9, a, v⟩ := by
  intro at_ lp w h1 h2 h3 h4
  unfold Steps
  rw [show stepsF ⟨9, a, v⟩ at_ lp = [(a, lp - 1)] from rfl]
  have iw1 : IntKind.i64.wrap (at_ + 1) = at_ + 1 := IntWalk.i64_in _ (by omega)
  have iw2 : IntKind.i64.wrap (lp + 1) = lp + 1 := IntWalk.i64_in _ (by omega)
  have iw3 : IntKind.i64.wrap (lp - 1) = lp - 1 := IntWalk.i64_in _ (by omega)
  clear h1 h2 h3 h4
  go_enter Tryz.func79, Tryz.ntmps79
  go_wp2
  go_region
  all_goals go_wp2
  all_goals go_ret
  all_goals exact ⟨some ⟨_, 0, none⟩, _, _, rfl, rfl, Rd.new3 w _ _ _ _, by (repeat (first | exact Chg.refl _ _ | apply Chg.alloc | apply Chg.drew)), fresh_some (by omega)⟩

set_option maxRecDepth 100000 in
theorem steps10 (a v : Int) : StepsOk ⟨10, a, v⟩ := by
  intro at_ lp w h1 h2 h3 h4
  unfold Steps
  rw [show stepsF ⟨10, a, v⟩ at_ lp = [(at_ + 1, lp), (a, lp)] from rfl]
  have iw1 : IntKind.i64.wrap (at_ + 1) = at_ + 1 := IntWalk.i64_in _ (by omega)
  have iw2 : IntKind.i64.wrap (lp + 1) = lp + 1 := IntWalk.i64_in _ (by omega)
  have iw3 : IntKind.i64.wrap (lp - 1) = lp - 1 := IntWalk.i64_in _ (by omega)
  clear h1 h2 h3 h4
  go_enter Tryz.func79, Tryz.ntmps79
  go_wp2
  go_region
  all_goals go_wp2
  all_goals go_ret
  all_goals exact ⟨some ⟨_, 0, none⟩, _, _, rfl, rfl, Rd.new3 w _ _ _ _, by (repeat (first | exact Chg.refl _ _ | apply Chg.alloc | apply Chg.drew)), fresh_some (by omega)⟩

set_option maxRecDepth 100000 in
theorem steps11 (a v : Int) : StepsOk ⟨11, a, v⟩ := by
  intro at_ lp w h1 h2 h3 h4
  unfold Steps
  rw [show stepsF ⟨11, a, v⟩ at_ lp = [(at_ + 1, lp)] from rfl]
  have iw1 : IntKind.i64.wrap (at_ + 1) = at_ + 1 := IntWalk.i64_in _ (by omega)
  have iw2 : IntKind.i64.wrap (lp + 1) = lp + 1 := IntWalk.i64_in _ (by omega)
  have iw3 : IntKind.i64.wrap (lp - 1) = lp - 1 := IntWalk.i64_in _ (by omega)
  clear h1 h2 h3 h4
  go_enter Tryz.func79, Tryz.ntmps79
  go_wp2
  go_region
  all_goals go_wp2
  all_goals go_ret
  all_goals exact ⟨some ⟨_, 0, none⟩, _, _, rfl, rfl, Rd.new3 w _ _ _ _, by (repeat (first | exact Chg.refl _ _ | apply Chg.alloc | apply Chg.drew)), fresh_some (by omega)⟩

set_option maxRecDepth 100000 in
theorem steps12 (a v : Int) : StepsOk ⟨12, a, v⟩ := by
  intro at_ lp w h1 h2 h3 h4
  unfold Steps
  rw [show stepsF ⟨12, a, v⟩ at_ lp = [(at_ + 1, lp)] from rfl]
  have iw1 : IntKind.i64.wrap (at_ + 1) = at_ + 1 := IntWalk.i64_in _ (by omega)
  have iw2 : IntKind.i64.wrap (lp + 1) = lp + 1 := IntWalk.i64_in _ (by omega)
  have iw3 : IntKind.i64.wrap (lp - 1) = lp - 1 := IntWalk.i64_in _ (by omega)
  clear h1 h2 h3 h4
  go_enter Tryz.func79, Tryz.ntmps79
  go_wp2
  go_region
  all_goals go_wp2
  all_goals go_ret
  all_goals exact ⟨some ⟨_, 0, none⟩, _, _, rfl, rfl, Rd.new3 w _ _ _ _, by (repeat (first | exact Chg.refl _ _ | apply Chg.alloc | apply Chg.drew)), fresh_some (by omega)⟩

set_option maxRecDepth 100000 in
theorem steps13 (a v : Int) : StepsOk ⟨13, a, v⟩ := by
  intro at_ lp w h1 h2 h3 h4
  unfold Steps
  rw [show stepsF ⟨13, a, v⟩ at_ lp = [(at_ + 1, lp)] from rfl]
  have iw1 : IntKind.i64.wrap (at_ + 1) = at_ + 1 := IntWalk.i64_in _ (by omega)
  have iw2 : IntKind.i64.wrap (lp + 1) = lp + 1 := IntWalk.i64_in _ (by omega)
  have iw3 : IntKind.i64.wrap (lp - 1) = lp - 1 := IntWalk.i64_in _ (by omega)
  clear h1 h2 h3 h4
  go_enter Tryz.func79, Tryz.ntmps79
  go_wp2
  go_region
  all_goals go_wp2
  all_goals go_ret
  all_goals exact ⟨some ⟨_, 0, none⟩, _, _, rfl, rfl, Rd.new3 w _ _ _ _, by (repeat (first | exact Chg.refl _ _ | apply Chg.alloc | apply Chg.drew)), fresh_some (by omega)⟩

set_option maxRecDepth 100000 in
theorem steps14 (a v : Int) : StepsOk ⟨14, a, v⟩ := by
  intro at_ lp w h1 h2 h3 h4
  unfold Steps
  rw [show stepsF ⟨14, a, v⟩ at_ lp = [(at_ + 1, lp)] from rfl]
  have iw1 : IntKind.i64.wrap (at_ + 1) = at_ + 1 := IntWalk.i64_in _ (by omega)
  have iw2 : IntKind.i64.wrap (lp + 1) = lp + 1 := IntWalk.i64_in _ (by omega)
  have iw3 : IntKind.i64.wrap (lp - 1) = lp - 1 := IntWalk.i64_in _ (by omega)
  clear h1 h2 h3 h4
  go_enter Tryz.func79, Tryz.ntmps79
  go_wp2
  go_region
  all_goals go_wp2
  all_goals go_ret
  all_goals exact ⟨some ⟨_, 0, none⟩, _, _, rfl, rfl, Rd.new3 w _ _ _ _, by (repeat (first | exact Chg.refl _ _ | apply Chg.alloc | apply Chg.drew)), fresh_some (by omega)⟩

set_option maxRecDepth 100000 in
theorem steps15 (a v : Int) : StepsOk ⟨15, a, v⟩ := by
  intro at_ lp w h1 h2 h3 h4
  unfold Steps
  rw [show stepsF ⟨15, a, v⟩ at_ lp = [] from rfl]
  have iw1 : IntKind.i64.wrap (at_ + 1) = at_ + 1 := IntWalk.i64_in _ (by omega)
  have iw2 : IntKind.i64.wrap (lp + 1) = lp + 1 := IntWalk.i64_in _ (by omega)
  have iw3 : IntKind.i64.wrap (lp - 1) = lp - 1 := IntWalk.i64_in _ (by omega)
  clear h1 h2 h3 h4
  go_enter Tryz.func79, Tryz.ntmps79
  go_wp2
  go_region
  all_goals go_wp2
  all_goals go_ret
  all_goals exact ⟨none, 0, 0, rfl, rfl, Rd.nil _ _, by (repeat (first | exact Chg.refl _ _ | apply Chg.alloc | apply Chg.drew)), fresh_none⟩
end Go.Proofs.YtgomjcnefadenaaGreatDoor
