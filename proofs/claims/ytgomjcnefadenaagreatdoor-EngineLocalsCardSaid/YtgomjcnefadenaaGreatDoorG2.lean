/- The engine's small methods. Conditions: each contract's own premises. -/
import Derived.Test.YtgomjcnefadenaaGreatDoorG1
import Derived.Test.YtgomjcnefadenaaGreatDoorL2
import Derived.Outline
import Derived.BigQuiet
import Derived.Deep.QuietTactic
namespace Go.Proofs.YtgomjcnefadenaaGreatDoor
open Go Go.RowKit

section
variable {w : World} {B : Blks} {s : St} {h : Gh}
theorem EngG.c0 (H : EngG w B s h) : w.cell? ⟨B.g, 0, none⟩ = some (.slice h.cad (codeOf s.ds).length h.cc) := H.blk.cell 0
theorem EngG.c1 (H : EngG w B s h) : w.cell? ⟨B.g, 1, none⟩ = some (.slice h.ead (endsOf s.ds).length h.ec) := H.blk.cell 1
theorem EngG.c2 (H : EngG w B s h) : w.cell? ⟨B.g, 2, none⟩ = some (.slice h.wad s.ws.length h.wc) := H.blk.cell 2
theorem EngG.c3 (H : EngG w B s h) : w.cell? ⟨B.g, 3, none⟩ = some (.pointer (some ⟨B.fr, 0, none⟩)) := H.blk.cell 3
theorem EngG.c4 (H : EngG w B s h) : w.cell? ⟨B.g, 4, none⟩ = some (.int .i64 s.df) := H.blk.cell 4
theorem EngG.c5 (H : EngG w B s h) : w.cell? ⟨B.g, 5, none⟩ = some (.int .i64 s.on) := H.blk.cell 5
theorem EngG.c6 (H : EngG w B s h) : w.cell? ⟨B.g, 6, none⟩ = some (.int .i64 s.nx) := H.blk.cell 6
theorem EngG.c7 (H : EngG w B s h) : w.cell? ⟨B.g, 7, none⟩ = some (.pointer (some ⟨B.st, 0, none⟩)) := H.blk.cell 7
theorem EngG.c8 (H : EngG w B s h) : w.cell? ⟨B.g, 8, none⟩ = some (.pointer (some ⟨B.inp, 0, none⟩)) := H.blk.cell 8
theorem EngG.fz (H : EngG w B s h) (i : Nat) : w.frozen? ⟨B.g, i, none⟩ = false := H.blk.frozen i
theorem EngG.s1 (H : EngG w B s h) : w.cell? ⟨B.st, 1, none⟩ = some (.pointer (some ⟨B.sk, 0, none⟩)) := by obtain ⟨mv, hm⟩ := H.stb; exact hm.cell 1
end

theorem place_ok (w : World) (B : Blks) (s : St) (O : Nat → Prop) (H : Eng w B s O) (a b : Int) :
    Calls Tryz.prog 61 #[ptr B.g, .int .i64 a, .int .i64 b] w fun e w' => e = .returned (.tuple #[]) ∧ Goes B w O w' { s with df := a, on := b } := by
  obtain ⟨h, hg, ho⟩ := H
  have c4 := hg.c4
  have c5 := hg.c5
  have f4 := hg.fz 4
  have f5 := hg.fz 5
  have HG := Lib.hid hg
  have HO := Lib.hid ho
  clear hg ho
  unfold ptr
  go_enter Tryz.func61, Tryz.ntmps61
  go_wp2
  go_end0
  refine ⟨rfl, ?_⟩
  have g1 := (HG.out).goes_set HO.out { s with df := a } 4 (.int .i64 a) ⟨rfl, rfl, rfl, rfl⟩ rfl
  refine g1.trans ?_
  obtain ⟨h1, hg1, ho1⟩ := g1.eng
  exact hg1.goes_set ho1 { s with df := a, on := b } 5 (.int .i64 b) ⟨rfl, rfl, rfl, rfl⟩ rfl

theorem getStack_ok (w : World) (B : Blks) (s : St) (O : Nat → Prop) (H : Eng w B s O) :
    Calls Tryz.prog 11 #[ptr B.st] w fun e w' => e = .returned (ptr B.sk) ∧ w = w' := by
  obtain ⟨h, hg, ho⟩ := H
  have s1 := hg.s1
  clear hg ho
  unfold ptr
  go_enter Tryz.func11, Tryz.ntmps11
  go_wp2
  go_ret
  exact ⟨rfl, rfl⟩

theorem getState_ok (w : World) (B : Blks) (s : St) (O : Nat → Prop) (H : Eng w B s O) :
    Calls Tryz.prog 10 #[ptr B.g] w fun e w' => e = .returned (ptr B.st) ∧ w = w' := by
  obtain ⟨h, hg, ho⟩ := H
  have c7 := hg.c7
  clear hg ho
  unfold ptr
  go_enter Tryz.func10, Tryz.ntmps10
  go_wp2
  go_ret
  exact ⟨rfl, rfl⟩

theorem getFrames_ok (w : World) (B : Blks) (s : St) (O : Nat → Prop) (H : Eng w B s O) :
    Calls Tryz.prog 13 #[ptr B.g] w fun e w' => e = .returned (ptr B.fr) ∧ w = w' := by
  obtain ⟨h, hg, ho⟩ := H
  have c3 := hg.c3
  clear hg ho
  unfold ptr
  go_enter Tryz.func13, Tryz.ntmps13
  go_wp2
  go_ret
  exact ⟨rfl, rfl⟩

/-- The stack's own contracts, at the engine. -/
theorem eput_ok (w : World) (B : Blks) (s : St) (O : Nat → Prop) (H : Eng w B s O) (lad : Option Addr) (m lc : Nat) (l : List Int) (hr : Rd w lad (ints l)) (hl : l.length = m) (hm : s.xs.length + m ≤ 128) :
    Calls Tryz.prog 12 #[ptr B.sk, .slice lad m lc] w fun e w' => e = .returned (.int .i64 0) ∧ Goes B w O w' { s with xs := s.xs ++ l } := by
  obtain ⟨h, hg, ho⟩ := H
  refine (put_ok w B.sk h.sad h.sc s.xs hg.stk lad m lc l hr hl hm).mono ?_
  rintro e w' ⟨ad', c', rfl, hs, hc, hat⟩
  exact ⟨rfl, hg.goes_stk ho hs hc hat⟩
theorem epush_ok' (w : World) (B : Blks) (s : St) (O : Nat → Prop) (H : Eng w B s O) (x : Int) (hm : s.xs.length < 128) :
    Calls Tryz.prog 66 #[ptr B.sk, .int .i64 x] w fun e w' => e = .returned (.int .i64 0) ∧ Goes B w O w' { s with xs := s.xs ++ [x] } := by
  obtain ⟨h, hg, ho⟩ := H
  refine (push_ok w B.sk h.sad h.sc s.xs hg.stk x hm).mono ?_
  rintro e w' ⟨ad', c', rfl, hs, hc, hat⟩
  exact ⟨rfl, hg.goes_stk ho hs hc hat⟩
theorem etake_ok (w : World) (B : Blks) (s : St) (O : Nat → Prop) (H : Eng w B s O) (a l : List Int) (hx : s.xs = a ++ l) :
    Calls Tryz.prog 86 #[ptr B.sk, .int .i64 l.length] w fun e w' => ∃ lad lc, e = .returned (.tuple #[.slice lad l.length lc, .int .i64 0]) ∧ Goes B w O w' { s with xs := a } ∧ Row w' 33 1 lad l.length lc (ints l) ∧ ∀ k, inB lad k → w.heap.size ≤ k := by
  obtain ⟨h, hg, ho⟩ := H
  have hs := hg.stk
  rw [hx] at hs
  refine (take_ok w B.sk h.sad h.sc a l hs).mono ?_
  rintro e w' ⟨lad, lc, rfl, hs, hr, hc, hat⟩
  exact ⟨lad, lc, rfl, hg.goes_stk ho hs (hc.mono (fun k hk => .inl hk)) (fun k hk => .inl hk), hr, hat⟩

/-- (*Engine).push. -/
theorem epush_ok (w : World) (B : Blks) (s : St) (O : Nat → Prop) (H : Eng w B s O) (x : Int) (hm : s.xs.length < 128) :
    Calls Tryz.prog 54 #[ptr B.g, .int .i64 x] w fun e w' => e = .returned (.int .i64 0) ∧ Goes B w O w' { s with xs := s.xs ++ [x] } := by
  have HS := Lib.hid (getStack_ok w B s O H)
  have HP := Lib.hid (epush_ok' w B s O H x hm)
  obtain ⟨h, hg, ho⟩ := H
  have c7 := hg.c7
  clear hg ho hm
  unfold ptr at *
  go_enter Tryz.func54, Tryz.ntmps54
  go_wp2_with (first | (go_at_call 11; refine (HS.out).mono ?_; rintro e w' ⟨rfl, rfl⟩) | (go_at_call 66; refine (HP.out).mono ?_; rintro e w' ⟨rfl, hgo⟩; have HGO := Lib.hid hgo; clear hgo))
  go_ret
  exact ⟨rfl, HGO.out⟩

/-- done, where nothing went wrong. -/
theorem done_ok (w : World) (g : Value) : Calls Tryz.prog 51 #[g, .int .i64 0] w fun e w' => e = .returned (.agg #[.int .i64 1, .int .i64 0, .int .i64 0]) ∧ Chg none_ w w' := by
  go_enter Tryz.func51, Tryz.ntmps51
  go_wp2
  refine bodyPost_ret (v := .agg #[.int .i64 1, .int .i64 0, .int .i64 0]) (by simp [results, Tryz.results51, go_sem]) rfl ⟨rfl, ?_⟩
  exact Chg.new _ _ _
end Go.Proofs.YtgomjcnefadenaaGreatDoor
