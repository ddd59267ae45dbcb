/- (*Engine).with: cells are taken, and something is done with them. Conditions: the contract's own premises. -/
import Derived.Test.YtgomjcnefadenaaGreatDoorE2
namespace Go.Proofs.YtgomjcnefadenaaGreatDoor
open Go Go.RowKit

/-- How a step ended. -/
def stV (k s n : Int) : Value := .agg #[.int .i64 k, .int .i64 s, .int .i64 n]

section
variable {w W W' W3 : World} {B : Blks} {s s' : St} {O : Nat → Prop} {b : Nat}
/-- A body's own block is kept by what the engine does. -/
theorem Goes.kept {t : TypeId} {cs : Array Value} (hg : Goes B W (Tt O w.heap.size) W' s') (hb : Blk W b t cs) (h : w.heap.size ≤ b) : Blk W' b t cs :=
  hb.chg hg.chg (fun hk => by have := hk.2; omega)
/-- A body ends: its result's three cells are written. -/
theorem Goes.ret3 (hst : B.st < w.heap.size) (hW : Chg none_ w W) (hg : Goes B W (Tt O w.heap.size) W' s') (hc : Chg none_ W' W3) (hb : w.heap.size ≤ b ∧ b < W.heap.size) (x y z : Value) :
    Goes B w O (((W3.setCell ⟨b, 0, none⟩ x).setCell ⟨b, 1, none⟩ y).setCell ⟨b, 2, none⟩ z) s' :=
  hg.fin hst hW ((((hc.weak _).setL 0 hb _).setL 1 hb _).setL 2 hb _)
end

/-- What a body that 'with' is given does with the cells that were taken. -/
def DoOk (w : World) (B : Blks) (O : Nat → Prop) (f : FuncId) (pre post : Array Value) (s s' : St) (l : List Int) : Prop :=
  ∀ W lad lc, Eng W B s (fun k => O k ∨ w.heap.size ≤ k) → Chg O w W → Row W 33 1 lad l.length lc (ints l) →
    Calls Tryz.prog f (pre ++ #[.slice lad l.length lc] ++ post) W fun e W' => e = .returned (.int .i64 0) ∧ Goes B W (fun k => O k ∨ w.heap.size ≤ k) W' s'

set_option maxRecDepth 100000 in
theorem with_ok (w : World) (B : Blks) (s s' : St) (O : Nat → Prop) (H : Eng w B s O) (a l : List Int) (hx : s.xs = a ++ l) (f : FuncId) (hf : ∀ args W, (callFunc f args).run Tryz.prog W = .ok (.enter f args) W) (pre post : Array Value) (hdo : ∀ W0, Chg none_ w W0 → DoOk W0 B (Tt O w.heap.size) f pre post { s with xs := a } s' l) :
    Calls Tryz.prog 55 #[ptr B.g, .int .i64 l.length, .func (.func f) pre post] w fun e w' => e = .returned (stV 1 0 0) ∧ Goes B w O w' s' := by
  have hst := Lib.hid H.st_lt
  have HT := H.tight
  have HS := Lib.hid (fun W (hW : Chg none_ w W) => getStack_ok W B s _ (HT.keep hW))
  have HP := Lib.hid (fun W (hW : Chg none_ w W) => etake_ok W B s _ (HT.keep hW) a l hx)
  have HDO := Lib.hid hdo
  obtain ⟨h, hg, ho⟩ := H
  have c7 := hg.c7
  have hlt := hg.blk.lt
  have hlen : l.length ≤ 128 := by have := hg.stk.le; rw [hx] at this; simp at this; omega
  obtain ⟨n, hn⟩ : ∃ n, l.length = n := ⟨_, rfl⟩
  rw [hn] at hlen HP ⊢
  have HN := Lib.hid hn
  clear hg ho hx hdo hn HT
  unfold ptr at *
  go_enter Tryz.func55, Tryz.ntmps55
  go_wp2_with (first
    | (go_at_call 11; refine (HS.out _ (Chg.new none_ w _)).mono ?_; rintro e W1 ⟨rfl, rfl⟩)
    | (go_at_call 86; refine (HP.out _ (Chg.new none_ w _)).mono ?_; rintro e W1 ⟨lad, lc, rfl, hgo, hrow, hat⟩; have HG := Lib.hid hgo; have HR := Lib.hid hrow; have HA := Lib.hid hat; clear hgo hrow hat))
  have hDO := (HDO.out _ (Chg.new none_ w _)) W1 lad lc ((HG.out).eng) ((HG.out).chg) (by rw [HN.out]; exact HR.out)
  rw [HN.out] at hDO
  have e : pre ++ #[Value.slice lad n lc] ++ post = pre.push (Value.slice lad n lc) ++ post := by simp
  rw [e] at hDO
  refine (hDO).mono ?_
  rintro e W2 ⟨rfl, hgo2⟩
  have HG2 := Lib.hid ((HG.out).trans hgo2)
  clear hgo2 hDO e
  go_wp2_with (go_at_call 51; refine (done_ok _ _).mono ?_; rintro e W3 ⟨rfl, hc⟩; have HC := Lib.hid hc; have hb := ((HG2.out).kept (Blk.new w 48 #[.int .i64 0, .int .i64 0, .int .i64 0]) (Nat.le_refl _)).chg hc (fun h => h); have r0 := hb.cell 0; have r1 := hb.cell 1; have r2 := hb.cell 2; have f0 := hb.frozen 0; have f1 := hb.frozen 1; have f2 := hb.frozen 2; have n1 := hb.lt; simp only [List.getElem?_toArray, List.getElem?_cons_zero, List.getElem?_cons_succ] at r0 r1 r2; clear hc hb)
  exact bodyPost_ret (v := stV 1 0 0) (by simp [results, Tryz.results55, go_sem, r0, r1, r2, stV]) rfl ⟨rfl, Goes.ret3 hst.out (Chg.new none_ w _) HG2.out HC.out ⟨Nat.le_refl _, by simp⟩ _ _ _⟩

theorem with1_ok (w : World) (B : Blks) (s s' : St) (O : Nat → Prop) (H : Eng w B s O) (a : List Int) (v : Int) (hx : s.xs = a ++ [v]) (f : FuncId) (hf : ∀ args W, (callFunc f args).run Tryz.prog W = .ok (.enter f args) W) (pre post : Array Value) (hdo : ∀ W0, Chg none_ w W0 → DoOk W0 B (Tt O w.heap.size) f pre post { s with xs := a } s' [v]) :
    Calls Tryz.prog 55 #[ptr B.g, .int .i64 1, .func (.func f) pre post] w fun e w' => e = .returned (stV 1 0 0) ∧ Goes B w O w' s' := with_ok w B s s' O H a [v] hx f hf pre post hdo
theorem with2_ok (w : World) (B : Blks) (s s' : St) (O : Nat → Prop) (H : Eng w B s O) (a : List Int) (u v : Int) (hx : s.xs = a ++ [u, v]) (f : FuncId) (hf : ∀ args W, (callFunc f args).run Tryz.prog W = .ok (.enter f args) W) (pre post : Array Value) (hdo : ∀ W0, Chg none_ w W0 → DoOk W0 B (Tt O w.heap.size) f pre post { s with xs := a } s' [u, v]) :
    Calls Tryz.prog 55 #[ptr B.g, .int .i64 2, .func (.func f) pre post] w fun e w' => e = .returned (stV 1 0 0) ∧ Goes B w O w' s' := with_ok w B s s' O H a [u, v] hx f hf pre post hdo
end Go.Proofs.YtgomjcnefadenaaGreatDoor
