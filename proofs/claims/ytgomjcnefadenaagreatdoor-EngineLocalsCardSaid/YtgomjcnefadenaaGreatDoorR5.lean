/- shown: the document's example. Conditions: each contract's own premises. -/
import Derived.Test.YtgomjcnefadenaaGreatDoorR4
import Derived.Test.YtgomjcnefadenaaGreatDoorT2
import Derived.Test.YtgomjcnefadenaaGreatDoorH3
import Derived.Test.YtgomjcnefadenaaGreatDoorD1
import Derived.Test.YtgomjcnefadenaaGreatDoorE9
namespace Go.Proofs.YtgomjcnefadenaaGreatDoor
open Go Go.RowKit

theorem same_rows (w : World) (l : List Int) (aa ab : Option Addr) (ca cb : Nat) (ha : Row w 33 1 aa l.length ca (ints l)) (hb : Row w 33 1 ab l.length cb (ints l)) (hl : l.length ≤ 1000) :
    Calls Tryz.prog 21 #[.slice aa l.length ca, .slice ab l.length cb] w fun e w' => e = .returned (.bool true) ∧ Chg none_ w w' := by
  have hform : ∀ ad c, Row w 33 1 ad l.length c (ints l) → ∃ g, l ≠ [] → ad = some ⟨g, 0, none⟩ := fun ad c h => by
    rcases h.form with ⟨_, hn, _, _⟩ | ⟨g, _, he, _⟩
    · exact ⟨0, fun hne => absurd (List.eq_nil_of_length_eq_zero hn) hne⟩
    · exact ⟨g, fun _ => he⟩
  obtain ⟨ga, ea⟩ := hform aa ca ha
  obtain ⟨gb, eb⟩ := hform ab cb hb
  exact same_ok w l ga gb ca cb (fun h => by rw [← ea h]; exact ha.rd) aa ab ea eb (fun h => by rw [← eb h]; exact hb.rd) hl
theorem eall_ok (w : World) (B : Blks) (s : St) (O : Nat → Prop) (H : Eng w B s O) :
    Calls Tryz.prog 22 #[ptr B.sk] w fun e w' => ∃ lad lc, e = .returned (.slice lad s.xs.length lc) ∧ Row w' 33 1 lad s.xs.length lc (ints s.xs) ∧ Chg none_ w w' := by
  obtain ⟨h, hg, ho⟩ := H
  refine (all_ok w B.sk h.sad h.sc s.xs hg.stk).mono ?_
  rintro e w' ⟨lad, lc, rfl, hr, hc, _⟩
  exact ⟨lad, lc, rfl, hr, hc⟩

theorem field48 (x y z : Int) (W : World) : (Instr.field 48 (.agg #[.int .i64 x, .int .i64 y, .int .i64 z]) 0).run Tryz.prog W = .ok (.int .i64 x) W := by kernel_rfl
def dS : List I3 := [⟨1, 0, 5⟩, ⟨15, 0, 0⟩]
theorem dS_may : MayOk dS 0 0 [0, 0] := by
  refine ⟨by decide, by decide, by omega, loopsOk_line dS 1 rfl (by omega) ?_ ⟨_, rfl, rfl⟩, ⟨_, rfl, rfl⟩, ⟨_, rfl, rfl⟩, ⟨by omega, by omega⟩, ?_⟩
  · intro i x hx hi
    obtain rfl : i = 0 := by omega
    injection hx with hx
    subst hx
    exact .inl rfl
  · intro i x hx
    rcases i with _ | _ | i
    · injection hx with hx
      subst hx
      refine ⟨by decide, by decide, .inl rfl, by decide, by decide, fun h => absurd h (by decide), fun h => absurd h (by decide)⟩
    · injection hx with hx
      subst hx
      refine ⟨by decide, by decide, .inr rfl, by decide, by decide, fun h => absurd h (by decide), fun _ _ => ⟨0, rfl, by omega⟩⟩
    · cases hx

def sS : St := ⟨[dS], [⟨5, 1, 0⟩], [], [], 0, 0, 1⟩
def sE : St := ⟨[dS], [⟨5, 1, 0⟩], [], [5], 0, 0, 0⟩
theorem shown_runs : Runs 4 sS sE := by
  refine ⟨⟨[dS], [⟨5, 1, 0⟩], [⟨1, 0, 0, 0, 0, []⟩], [], 1, 0, 0⟩, ?_, ⟨[dS], [⟨5, 1, 0⟩], [⟨1, 0, 0, 0, 0, []⟩], [5], 1, 1, 0⟩, ?_, ⟨[dS], [⟨5, 1, 0⟩], [⟨1, 0, 0, 0, 0, []⟩], [5], 0, 0, 0⟩, ?_, sE, ?_, rfl⟩
  · exact step_exec sS _ (by decide) (exec_colon { sS with nx := 0 } 0 0 0 rfl (by decide) (by decide) 1 rfl)
  · exact step_does _ _ [] ⟨1, 0, 0, 0, 0, []⟩ rfl (by decide) (by decide) rfl 0 0 dS ⟨1, 0, 5⟩ rfl rfl rfl rfl (does_lit _ 0 5 (by decide))
  · exact step_does _ _ [] ⟨1, 0, 0, 0, 0, []⟩ rfl (by decide) (by decide) rfl 0 1 dS ⟨15, 0, 0⟩ rfl rfl rfl rfl (does_of_holds _ _ _ (holds_exit_no _ [] ⟨1, 0, 0, 0, 0, []⟩ rfl (by decide) 0 0) (by decide))
  · exact step_returns _ _ [] ⟨1, 0, 0, 0, 0, []⟩ rfl (by decide) (by decide) rfl rfl (returns_call _ [] ⟨1, 0, 0, 0, 0, []⟩ rfl rfl)
theorem shown_halts : HaltOk sE := step_halt sE rfl rfl rfl

set_option maxRecDepth 100000 in
set_option maxHeartbeats 2000000 in
theorem shown_ok (w : World) : Calls Tryz.prog 6 #[] w fun e w' => e = .returned (.bool true) ∧ Chg none_ w w' := by
  have HMD := Lib.hid (made_ok w)
  go_enter Tryz.func6, Tryz.ntmps6
  go_wp2_with fail
  refine (HMD.out).mono ?_
  rintro e W1 ⟨B, bb, rfl, hmade⟩
  have HMA := Lib.hid hmade
  obtain ⟨E, hE⟩ : ∃ E : Nat → Prop, (fun k => k = B.g ∨ k = B.fr ∨ k = B.sk) = E := ⟨_, rfl⟩
  have hEng := hmade.eng
  rw [hE] at hEng
  have hEn : ∀ k, W1.heap.size ≤ k → ¬ E k := by
    obtain ⟨h, hG, _⟩ := hmade.eng
    have l1 := hG.blk.lt
    have l2 := hG.frs.blk.lt
    have l3 := hG.stk.blk.lt
    rw [← hE]
    rintro k hk (h | h | h) <;> omega
  have HEn := Lib.hid hEn
  have HEW := Lib.hid (fun k (h : E k) => (show w.heap.size ≤ k from by
    rw [← hE] at h
    have := hmade.ng
    have := hmade.nf
    have := hmade.nk
    rcases h with h | h | h <;> omega))
  have HD := Lib.hid (fun W (hW : Chg none_ W1 W) b (hr : Rd W (some ⟨b, 0, none⟩) (dS.flatMap I3.cells)) (hb : W1.heap.size ≤ b) =>
    (show Calls Tryz.prog 8 #[ptr B.g, .agg #[.slice (some ⟨b, 0, none⟩) 2 2]] W fun e w' => e = .returned (.tuple #[.int .i64 1, .int .i64 0]) ∧ Goes B W E w' { st0 with ds := [dS] } from define_ok W B st0 E (hEng.keep hW) dS 0 [0, 0] dS_may (by decide) b 2 hr (hEn b hb)))
  have HA := Lib.hid (fun W O (H : Eng W B { st0 with ds := [dS] } O) =>
    (show Calls Tryz.prog 9 #[ptr B.g, .agg #[.int .i64 5, .int .i64 1, .int .i64 0]] W fun e w' => e = .returned (.tuple #[.int .i64 1, .int .i64 0]) ∧ Goes B W O w' { st0 with ds := [dS], ws := [⟨5, 1, 0⟩] } from
      add_ok W B { st0 with ds := [dS] } O H ⟨5, 1, 0⟩ (by decide) (fun W' hW' => mayColon W' B _ O (H.keep hW') 1 (by decide) (by decide) 0)))
  have HX := Lib.hid (fun W O (H : Eng W B { st0 with ds := [dS], ws := [⟨5, 1, 0⟩] } O) =>
    (show Calls Tryz.prog 15 #[ptr B.g, .int .i64 1] W fun e w' => e = .returned (.int .i64 0) ∧ Goes B W O w' sS from exec_ok W B _ O H 0 ⟨5, 1, 0⟩ rfl))
  clear hmade hEng hEn hE
  unfold ptr at *
  go_wp2_with (first
    | (go_at_call 8; refine (HD.out _ ((Chg.new none_ W1 _)) _ (Rd.of_blk (Blk.new W1 56 #[.int .u8 1, .int .i64 0, .int .i64 5, .int .u8 15, .int .i64 0, .int .i64 0])) (Nat.le_refl _)).mono ?_; rintro e W2 ⟨rfl, hgo⟩; have HG := Lib.hid (Goes.pre (Chg.new none_ W1 _) hgo); clear hgo)
    | (go_at_call 9; refine (HA.out _ _ HG.out.eng).mono ?_; rintro e W3 ⟨rfl, hgo⟩; have HG2 := Lib.hid (HG.out.trans hgo); clear hgo)
    | (go_at_call 15; refine (HX.out _ _ HG2.out.eng).mono ?_; rintro e W4 ⟨rfl, hgo⟩; have HG3 := Lib.hid (HG2.out.trans hgo); clear hgo))
  have HRUN := Lib.hid shown_runs
  have HSTOP := Lib.hid (fun W O (H : Eng W B sE O) => (show Calls Tryz.prog 24 #[ptr B.g] W fun e w' => e = .returned (.agg #[.int .i64 5, .int .i64 0, .int .i64 0]) ∧ Goes B W O w' sE from shown_halts W B O H))
  have HGS := Lib.hid (fun W O (H : Eng W B sE O) => getState_ok W B sE O H)
  have HGK := Lib.hid (fun W O (H : Eng W B sE O) => getStack_ok W B sE O H)
  have HGA := Lib.hid (fun W O (H : Eng W B sE O) => eall_ok W B sE O H)
  have HSA := Lib.hid (fun W a c (h : Row W 33 1 a 1 c (ints [5])) => same_rows (W.alloc (.cells #[.int .i64 5] 33)) [5] a (some ⟨W.heap.size, 0, none⟩) c 1 (h.alloc _) (Row.mk (Blk.new W 33 #[.int .i64 5]) (Nat.le_refl _) (by unfold maxLen; decide) rfl rfl) (by decide))
  simp only [show ([5] : List Int).length = 1 from rfl, show sE.xs = [5] from rfl] at HGA HSA
  have hfield := field48
  unfold ptr at *
  go_loopg [6, 38] 4 (fun m ok iv wr => ∃ i : Nat, i + m = 4 ∧ iv = .int .i64 i ∧ ok = .bool true ∧ ∃ t, Hid (Runs m t sE) ∧ Hid (Goes B W1 E wr t))
  case atStart => exact ⟨0, by omega, rfl, rfl, sS, HRUN, HG3⟩
  case round =>
    obtain ⟨i, hi, rfl, rfl, t, HR, HG⟩ := hrel
    rcases gk with _ | m'
    · obtain rfl : t = sE := HR.out
      obtain rfl : i = 4 := by omega
      go_wp2_with (first
        | (go_at_call 24; refine (HSTOP.out _ _ HG.out.eng).mono ?_; rintro e W5 ⟨rfl, hgo⟩; have HG5 := Lib.hid (HG.out.trans hgo); clear hgo)
        | (go_at_call 10; refine (HGS.out _ _ HG5.out.eng).mono ?_; rintro e w' ⟨rfl, rfl⟩)
        | (go_at_call 11; refine (HGK.out _ _ HG5.out.eng).mono ?_; rintro e w' ⟨rfl, rfl⟩)
        | (go_at_call 22; refine (HGA.out _ _ HG5.out.eng).mono ?_; rintro e W6 ⟨lad, lc, rfl, hrow, hc⟩; have H6 := Lib.hid (And.intro hrow hc); clear hrow hc)
        | (go_at_call 21; refine (HSA.out _ _ _ H6.out.1).mono ?_; rintro e W7 ⟨rfl, hc⟩; have H7 := Lib.hid hc; clear hc))
      go_ret
      have hall := (HMA.out.chg.trans' HG5.out.chg (fun i hi => .inr (HEW.out i hi))).trans (((H6.out.2).alloc _).trans H7.out)
      exact ⟨rfl, hall⟩
    · obtain ⟨u, h1, h2⟩ := HR.out
      have H1 := Lib.hid (fun W O (H : Eng W B t O) => (show Calls Tryz.prog 24 #[ptr B.g] W fun e w' => e = .returned (.agg #[.int .i64 1, .int .i64 0, .int .i64 0]) ∧ Goes B W O w' u from h1 W B O H))
      have H2 := Lib.hid h2
      have hi3 : i ≤ 3 := by omega
      have HI := Lib.hid hi
      have iwi : IntKind.i64.wrap ((i : Int) + 1) = (i : Int) + 1 := IntWalk.i64_in _ (by omega)
      have d4 : decide ((i : Int) < 4) = true := by simp; omega
      clear hi h1 h2
      go_wp2_with (go_at_call 24; refine (H1.out _ _ HG.out.eng).mono ?_; rintro e W5 ⟨rfl, hgo⟩; have HG5 := Lib.hid (HG.out.trans hgo); clear hgo)
      go_roundg m'
      all_goals first | (have := HI.out; omega) | skip
      all_goals exact ⟨i + 1, by have := HI.out; omega, by simp, rfl, u, H2, HG5⟩
end Go.Proofs.YtgomjcnefadenaaGreatDoor
