/- (*Engine).Define; ins.Loops on code without jumps. Conditions: each contract's own premises. -/
import Derived.Test.YtgomjcnefadenaaGreatDoorM2
import Derived.Test.YtgomjcnefadenaaGreatDoorN3
import Derived.Test.YtgomjcnefadenaaGreatDoorE2
namespace Go.Proofs.YtgomjcnefadenaaGreatDoor
open Go Go.RowKit

theorem stepsOk_of (x : I3) (h1 : 1 ≤ x.op) (h2 : x.op ≤ 15) : StepsOk x := by
  obtain ⟨op, a, v⟩ := x
  simp only at h1 h2
  have hc : op = 1 ∨ op = 2 ∨ op = 3 ∨ op = 4 ∨ op = 5 ∨ op = 6 ∨ op = 7 ∨ op = 8 ∨ op = 9 ∨ op = 10 ∨ op = 11 ∨ op = 12 ∨ op = 13 ∨ op = 14 ∨ op = 15 := by omega
  rcases hc with rfl | rfl | rfl | rfl | rfl | rfl | rfl | rfl | rfl | rfl | rfl | rfl | rfl | rfl | rfl
  · exact steps1 a v
  · exact steps2 a v
  · exact steps3 a v
  · exact steps4 a v
  · exact steps5 a v
  · exact steps6 a v
  · exact steps7 a v
  · exact steps8 a v
  · exact steps9 a v
  · exact steps10 a v
  · exact steps11 a v
  · exact steps12 a v
  · exact steps13 a v
  · exact steps14 a v
  · exact steps15 a v

theorem loopsOk_of (d : List I3) (h1 : 1 ≤ d.length) (h2 : d.length ≤ 500) (ho : ∀ x ∈ d, 1 ≤ x.op ∧ x.op ≤ 15) (res : List Int) (fuel : Nat) (h : loopsF fuel d [(0, 0)] (List.replicate d.length (-1)) = some res) : LoopsOk d res :=
  fun w b lc hr => loops_ok w b lc d hr h1 h2 (fun x hx => stepsOk_of x (ho x hx).1 (ho x hx).2) res fuel h

theorem rep_set (k j : Nat) : (List.replicate k (0 : Int) ++ List.replicate (j + 1) (-1)).set k 0 = List.replicate (k + 1) 0 ++ List.replicate j (-1) := by
  rw [List.set_append_right _ _ (by simp), List.length_replicate, Nat.sub_self, List.replicate_succ (n := j), List.set_cons_zero, List.replicate_succ' (n := k), List.append_assoc]
  rfl
/-- Code without jumps: from the place k on the loops are 0, and it ends. -/
theorem loops_line (d : List I3) (n : Nat) (hn : d.length = n + 1) (hs : ∀ i x, d[i]? = some x → i < n → stepsF x i 0 = [((i : Int) + 1, 0)]) (he : ∀ x, d[n]? = some x → stepsF x n 0 = []) (j k : Nat) (hk : k + j = n) :
    loopsF (j + 1) d [((k : Int), 0)] (List.replicate k 0 ++ List.replicate (j + 1) (-1)) = some (List.replicate (n + 1) 0) := by
  have hv : (List.replicate k (0 : Int) ++ List.replicate (j + 1) (-1))[k]? = some (-1) := by
    rw [List.getElem?_append_right (by simp)]
    simp
  have hset : (List.replicate k (0 : Int) ++ List.replicate (j + 1) (-1)).set k 0 = List.replicate (k + 1) 0 ++ List.replicate j (-1) := rep_set k j
  obtain ⟨x, hx⟩ : ∃ x, d[k]? = some x := ⟨d[k], List.getElem?_eq_getElem (by omega)⟩
  induction j generalizing k x with
  | zero =>
    obtain rfl : k = n := by omega
    rw [loopsF]
    simp only [Int.toNat_natCast, hx, hv, hset]
    rw [if_pos (by simp), if_neg (by omega), if_neg (by omega), he x hx]
    simp [loopsF]
  | succ j ih =>
    rw [loopsF]
    simp only [Int.toNat_natCast, hx, hv, hset]
    rw [if_pos (by simp), if_neg (by omega), if_neg (by omega), hs k x hx (by omega)]
    obtain ⟨y, hy⟩ : ∃ y, d[k + 1]? = some y := ⟨d[k + 1], List.getElem?_eq_getElem (by omega)⟩
    have e : (((k : Int) + 1) : Int) = ((k + 1 : Nat) : Int) := by omega
    simp only [List.reverse_singleton, List.singleton_append, e]
    refine ih (k + 1) (by omega) ?_ ?_ y hy
    · rw [List.getElem?_append_right (by simp)]
      simp
    · exact rep_set (k + 1) j

/-- An instruction behind which the next one stands. -/
def I3.plain (x : I3) : Prop := x.op = 1 ∨ x.op = 2 ∨ x.op = 11 ∨ x.op = 12 ∨ x.op = 13 ∨ x.op = 14
theorem I3.plain.steps {x : I3} (h : x.plain) (at_ lp : Int) : stepsF x at_ lp = [(at_ + 1, lp)] := by
  unfold stepsF
  rcases h with h | h | h | h | h | h <;> simp [h]

theorem loopsOk_line (d : List I3) (n : Nat) (hn : d.length = n + 1) (h5 : n < 500) (hs : ∀ i x, d[i]? = some x → i < n → x.plain) (he : ∃ x, d[n]? = some x ∧ x.op = 15) : LoopsOk d (List.replicate (n + 1) 0) := by
  obtain ⟨xe, hxe, hoe⟩ := he
  refine loopsOk_of d (by omega) (by omega) ?_ _ (n + 1) ?_
  · intro x hx
    obtain ⟨i, hi, rfl⟩ := List.mem_iff_getElem.1 hx
    rcases Nat.lt_or_ge i n with h | h
    · have := hs i d[i] (List.getElem?_eq_getElem hi) h
      unfold I3.plain at this
      omega
    · obtain rfl : i = n := by omega
      rw [List.getElem?_eq_getElem hi] at hxe
      injection hxe with hxe
      rw [hxe]
      omega
  · rw [hn]
    have := loops_line d n hn (fun i x hx hi => (hs i x hx hi).steps i 0) (fun x hx => by
      rw [hxe] at hx
      injection hx with hx
      subst hx
      simp [stepsF, hoe]) n 0 (by omega)
    simpa using this

set_option maxRecDepth 100000 in
theorem define_ok (w : World) (B : Blks) (s : St) (O : Nat → Prop) (H : Eng w B s O) (d : List I3) (lo : Int) (arr : List Int) (hmay : MayOk d s.ws.length lo arr) (hn : s.ds.length < 300) (b lc : Nat)
    (hr : Rd w (some ⟨b, 0, none⟩) (d.flatMap I3.cells)) (hb : ¬ O b) :
    Calls Tryz.prog 8 #[ptr B.g, .agg #[.slice (some ⟨b, 0, none⟩) d.length lc]] w fun e w' => e = .returned (.tuple #[.int .i64 ((s.ds.length : Int) + 1), .int .i64 0]) ∧ Goes B w O w' { s with ds := s.ds ++ [d] } := by
  have HM := Lib.hid (fun W (hW : Chg none_ w W) => may_ok W b lc d (hr.chg hW (fun _ _ h => h)) s.ws.length lo arr hmay)
  have hd : d.length ≤ 500 ∧ ∀ i ∈ d, 0 ≤ i.op ∧ i.op < 256 ∧ 0 ≤ i.a ∧ i.a ≤ 1000 := by
    refine ⟨hmay.h2, fun x hx => ?_⟩
    obtain ⟨i, hi, rfl⟩ := List.mem_iff_getElem.1 hx
    obtain ⟨o1, o2, _, a1, a2, _⟩ := hmay.all i d[i] (List.getElem?_eq_getElem hi)
    have h2 := hmay.h2
    have h3 := hmay.hw
    have h4 := hmay.lo0
    have l0 : 0 ≤ lowF (kindF d[i].op) := by unfold lowF; split <;> omega
    have l1 : highF d.length s.ws.length lo (kindF d[i].op) ≤ 1000 := by
      unfold highF
      split
      · omega
      split
      · omega
      split
      · omega
      split <;> omega
    omega
  have HL := Lib.hid (fun W (hW : Chg none_ w W) => lay_ok W B s O (H.keep hW) d hd hn b lc (hr.chg hW (fun _ _ h => h)) hb)
  obtain ⟨h, hg, ho⟩ := H
  have c1 := hg.c1
  have c2 := hg.c2
  rw [endsOf_len] at c1
  have hlt := hg.blk.lt
  obtain ⟨N, hN⟩ : ∃ N, d.length = N := ⟨_, rfl⟩
  obtain ⟨M, hM⟩ : ∃ M, s.ds.length = M := ⟨_, rfl⟩
  obtain ⟨L, hL⟩ : ∃ L, s.ws.length = L := ⟨_, rfl⟩
  rw [hN] at HM HL ⊢
  rw [hM] at c1 hn ⊢
  rw [hL] at c2 HM
  have d3 : decide ((300 : Int) ≤ (M : Int)) = false := by simp; omega
  have HN := Lib.hid hM
  clear hg ho hd hr hb hN hM hL hmay
  unfold ptr at *
  go_enter Tryz.func8, Tryz.ntmps8
  go_wp2_with fail
  obtain ⟨W, hW⟩ : ∃ W, w.alloc (.cells #[.slice (some ⟨b, 0, none⟩) N lc] 24) = W := ⟨_, rfl⟩
  have hB : Blk W w.heap.size 24 #[.slice (some ⟨b, 0, none⟩) N lc] := by rw [← hW]; exact Blk.new w _ _
  have hC : Chg none_ w W := by rw [← hW]; exact Chg.new _ _ _
  have x0 : W.cell? ⟨w.heap.size, 0, none⟩ = some (.slice (some ⟨b, 0, none⟩) N lc) := hB.cell 0
  have c1' := hC.cell_some c1 (fun h => h)
  have c2' := hC.cell_some c2 (fun h => h)
  have HB := Lib.hid hB
  have HC := Lib.hid hC
  rw [hW]
  clear hW hB hC c1 c2
  go_region_law
    (go_simp; go_at_call 26; refine (HM.out _ (HC.out.trans (by (repeat (first | exact Chg.refl _ _ | apply Chg.drewN | apply Chg.alloc | apply Chg.drew))))).mono ?_; rintro e W1 ⟨rfl, hc⟩
     have HC1 := Lib.hid ((show Chg none_ W _ from (by (repeat (first | exact Chg.refl _ _ | apply Chg.drewN | apply Chg.alloc | apply Chg.drew)))).trans hc)
     have x01 : W1.cell? ⟨w.heap.size, 0, none⟩ = some (.slice (some ⟨b, 0, none⟩) N lc) := HC1.out.cell_some x0 (fun h => h)
     have c11 := HC1.out.cell_some c1' (fun h => h)
     clear hc)
  all_goals go_wp2_with fail
  all_goals go_region_law
    (go_simp; go_at_call 27; refine (HL.out _ (HC.out.trans (HC1.out.trans (by (repeat (first | exact Chg.refl _ _ | apply Chg.drewN | apply Chg.alloc | apply Chg.drew)))))).mono ?_; rintro e W2 ⟨rfl, hgo⟩
     have HG := Lib.hid (Goes.pre (HC.out.trans (HC1.out.trans (show Chg none_ W1 _ from (by (repeat (first | exact Chg.refl _ _ | apply Chg.drewN | apply Chg.alloc | apply Chg.drew)))))) hgo)
     obtain ⟨h2, hg2, ho2⟩ := HG.out.eng
     have e1 := hg2.c1
     rw [endsOf_len, List.length_append, HN.out] at e1
     simp only [List.length_singleton] at e1
     clear hg2 ho2 hgo)
  all_goals go_wp2
  all_goals go_ret2
  all_goals exact ⟨rfl, HG.out⟩
end Go.Proofs.YtgomjcnefadenaaGreatDoor
