/- ins.kind; maps by a literal. Conditions: each contract's own premises. -/
import Derived.Test.YtgomjcnefadenaaGreatDoorN1
import Derived.Maps.Own
import Derived.Maps.OwnOps
import Derived.Maps.Views
import Derived.WalkArith
namespace Go.Proofs.YtgomjcnefadenaaGreatDoor
open Go Go.RowKit Go.Maps

/-- ins.kind. -/
def kindF (op : Int) : Nat := if op = 3 ∨ op = 4 ∨ op = 6 ∨ op = 7 ∨ op = 8 ∨ op = 9 ∨ op = 10 then 1 else if op = 2 then 2 else if op = 12 then 3 else if op = 13 ∨ op = 14 then 4 else 0

set_option maxRecDepth 100000 in
theorem kind_ok (op : Int) (h1 : 1 ≤ op) (h2 : op ≤ 15) (w : World) : Calls Tryz.prog 45 #[.int .u8 op] w fun e w' => e = .returned (.int .i64 (kindF op)) ∧ w = w' := by
  have hc : op = 1 ∨ op = 2 ∨ op = 3 ∨ op = 4 ∨ op = 5 ∨ op = 6 ∨ op = 7 ∨ op = 8 ∨ op = 9 ∨ op = 10 ∨ op = 11 ∨ op = 12 ∨ op = 13 ∨ op = 14 ∨ op = 15 := by omega
  clear h1 h2
  rcases hc with rfl | rfl | rfl | rfl | rfl | rfl | rfl | rfl | rfl | rfl | rfl | rfl | rfl | rfl | rfl
  all_goals
    go_enter Tryz.func45, Tryz.ntmps45
    go_wp2
    go_ret
    exact ⟨rfl, rfl⟩

/-- Block b is a map of numbers, of at most n entries, in which k stands for f k. -/
def IMap (w : World) (b n : Nat) (f : Int → Int) : Prop :=
  ∃ D : DataW Unit, w.ownsMap Tryz.prog 3 (plainElem Tryz.prog 3) b n D ∧ IsMap D ∧ ∀ k, (Lit.int .i64 k).wf = true → D.atKey (.int .i64 k) (.lit (.int .i64 0)) = .lit (.int .i64 (f k))
theorem zero3 (w : World) : (zeroValue 3).run Tryz.prog w = .ok (.int .i64 0) w := by kernel_rfl
theorem IMap.made (w : World) : IMap (w.alloc (.map #[] 0)) w.heap.size 0 (fun _ => 0) := ⟨_, World.ownsMap_made _ _ _ _, ⟨[], rfl⟩, fun _ _ => rfl⟩
theorem IMap.store {w : World} {b n : Nat} {f : Int → Int} (h : IMap w b n f) (hn : n ≤ 1000) (k v : Int) (hk : (Lit.int .i64 k).wf = true) (hv : (Lit.int .i64 v).wf = true) :
    ∃ w', (Instr.mapUpdate 106 (.map (some b)) (.int .i64 k) (.int .i64 v)).run Tryz.prog w = .ok () w' ∧ IMap w' b (n + 1) (fun j => if j = k then v else f j) ∧ Chg (fun i => i = b) w w' := by
  obtain ⟨D, ho, hD, hf⟩ := h
  obtain ⟨w', hrun, ho', hg⟩ := ho.update (int_keyed Tryz.underlying3) Tryz.underlying106 (by unfold maxLen; omega) (keyOf_int_mk Tryz.underlying3 hk) (plainElem_int Tryz.underlying3 hv)
  refine ⟨w', hrun, ⟨_, ho', ?_, fun j hj => ?_⟩, (Chg.of_grown hg).mono (fun i hi => (Option.some.inj hi).symm)⟩
  · obtain ⟨es, rfl⟩ := hD
    exact ⟨_, rfl⟩
  · by_cases e : j = k
    · subst e
      show _ = DataW.lit (Lit.int .i64 (if j = j then v else f j))
      rw [if_pos rfl]
      exact atKey_put_same hD (by first | trivial | exact ⟨_, rfl⟩ | decide | simp [WideAt.IsKeyLit]) _ _
    · show _ = DataW.lit (Lit.int .i64 (if j = k then v else f j))
      rw [if_neg e, atKey_put_other (fun h => e (by injection h)), hf j hj]
theorem lit_inj {a b : Int} (h : (DataW.lit (.int .i64 a) : DataW Unit) = .lit (.int .i64 b)) : a = b := by
  injection h with h
  injection h
theorem IMap.look {w : World} {b n : Nat} {f : Int → Int} (h : IMap w b n f) (k : Int) (hk : (Lit.int .i64 k).wf = true) :
    (Instr.lookup 106 (.map (some b)) (.int .i64 k) false).run Tryz.prog w = .ok (.int .i64 (f k)) w := by
  obtain ⟨D, ho, hD, hf⟩ := h
  have hz := zero3 w
  obtain ⟨c, hrun, hat, _⟩ := ho.lookup_int (int_keyed Tryz.underlying3) Tryz.underlying106 Tryz.underlying3 hz (keyOf_int_mk Tryz.underlying3 hk)
  rw [hf k hk] at hat
  rw [hrun, lit_inj hat]
theorem IMap.chg {S : Nat → Prop} {w w' : World} {b n : Nat} {f : Int → Int} (h : IMap w b n f) (hc : Chg S w w') (hn : ¬ S b) : IMap w' b n f := by
  obtain ⟨D, ho, hD, hf⟩ := h
  have hlt := ho.lt
  obtain ⟨es, clock, hb, F, hs, hd⟩ := ho
  exact ⟨D, ⟨es, clock, (hc.block b hlt hn).trans hb, F, hs, hd⟩, hD, hf⟩
theorem IMap.lt {w : World} {b n : Nat} {f : Int → Int} (h : IMap w b n f) : b < w.heap.size := by
  obtain ⟨D, ho, _⟩ := h
  exact ho.lt
end Go.Proofs.YtgomjcnefadenaaGreatDoor
