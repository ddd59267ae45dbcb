/- ins.Loops. Conditions: the contract's own premises. -/
import Derived.Test.YtgomjcnefadenaaGreatDoorN1
import Derived.Test.YtgomjcnefadenaaGreatDoorN2
namespace Go.Proofs.YtgomjcnefadenaaGreatDoor
open Go Go.RowKit

/-- ins.Loops with fuel: the work list's top is the head. -/
def loopsF : Nat → List I3 → List Stp → List Int → Option (List Int)
  | _, _, [], arr => some arr
  | 0, _, _ :: _, _ => none
  | m + 1, d, (a, l) :: t, arr =>
    if 0 ≤ a ∧ 0 ≤ l ∧ l ≤ 1000 ∧ t.length ≤ 2000 then
      match d[a.toNat]?, arr[a.toNat]? with
      | some x, some v => if v = l then loopsF m d t arr else if 0 ≤ v then none else loopsF m d ((stepsF x a l).reverse ++ t) (arr.set a.toNat l)
      | _, _ => none
    else none

theorem scells_len (l : List Stp) : (l.flatMap Stp.cells).length = l.length * 2 := by
  induction l with
  | nil => rfl
  | cons x l ih => simp only [List.flatMap_cons, List.length_append, ih, List.length_cons, Stp.cells, List.length_nil]; omega
theorem scells_one (l : List Stp) : ∀ u ∈ l.flatMap Stp.cells, u.oneCell' = true := by
  intro u hu
  obtain ⟨x, _, hx⟩ := List.mem_flatMap.1 hu
  simp only [Stp.cells, List.mem_cons, List.not_mem_nil, or_false] at hx
  rcases hx with rfl | rfl <;> rfl
theorem info137 : (Tryz.prog.info? 137).map (fun i => (i.zero, i.size, i.bytes)) = some (some (.agg #[.int .i64 0, .int .i64 0]), 2, 16) := by kernel_rfl

/-- What holds at the head of a round. -/
structure LoopI (w : World) (b lc : Nat) (d : List I3) (g bx : Nat) (todo : List Stp) (arr : List Int) (tad : Option Addr) (tc : Nat) (wr : World) : Prop where
  row : Row wr 137 2 tad todo.length tc (todo.reverse.flatMap Stp.cells)
  row2 : Blk wr g 3 (ints arr).toArray
  len : arr.length = d.length
  chg : Chg none_ w wr
  box : Blk wr bx 24 #[.slice (some ⟨b, 0, none⟩) d.length lc]
  new : ∀ k, inB tad k → w.heap.size ≤ k
  gn : w.heap.size ≤ g

theorem loopsF_cons {k : Nat} {d : List I3} {a l : Int} {t : List Stp} {arr res : List Int} (h : loopsF k d ((a, l) :: t) arr = some res) :
    ∃ m x v, k = m + 1 ∧ 0 ≤ a ∧ 0 ≤ l ∧ l ≤ 1000 ∧ t.length ≤ 2000 ∧ d[a.toNat]? = some x ∧ arr[a.toNat]? = some v ∧
      ((v = l ∧ loopsF m d t arr = some res) ∨ (v ≠ l ∧ v < 0 ∧ loopsF m d ((stepsF x a l).reverse ++ t) (arr.set a.toNat l) = some res)) := by
  cases k with
  | zero => simp [loopsF] at h
  | succ m =>
    rw [loopsF] at h
    split at h
    · rename_i hc
      split at h
      · rename_i x v hx hv
        refine ⟨m, x, v, rfl, hc.1, hc.2.1, hc.2.2.1, hc.2.2.2, hx, hv, ?_⟩
        split at h
        · rename_i he; exact .inl ⟨he, h⟩
        · rename_i he
          split at h
          · cases h
          · exact .inr ⟨he, by omega, h⟩
      · cases h
    · cases h

/-- The work list's top. -/
theorem LoopI.top {w wr : World} {b lc g bx tc n : Nat} {d : List I3} {a l : Int} {t : List Stp} {arr : List Int} {tad : Option Addr} (H : LoopI w b lc d g bx ((a, l) :: t) arr tad tc wr) (hn : t.length = n) :
    ∃ tg, tad = some ⟨tg, 0, none⟩ ∧ wr.cell? ⟨tg, n * 2, none⟩ = some (.int .i64 a) ∧ wr.cell? ⟨tg, n * 2 + 1, none⟩ = some (.int .i64 l) ∧ n + 1 ≤ tc := by
  have hrow := H.row
  have e : ((a, l) :: t).reverse.flatMap Stp.cells = t.reverse.flatMap Stp.cells ++ [.int .i64 a, .int .i64 l] := by simp [Stp.cells]
  have hl : (t.reverse.flatMap Stp.cells).length = n * 2 := by rw [scells_len]; simp [hn]
  rw [e] at hrow
  obtain ⟨tg, h1, h2, _⟩ := hrow.cell (j := n * 2) (by simp [hl])
  obtain ⟨tg', h1', h3, _⟩ := hrow.cell (j := n * 2 + 1) (by simp [hl])
  rw [h1] at h1'
  injection h1' with h1'; injection h1' with h1' _ _; subst h1'
  refine ⟨tg, h1, ?_, ?_, ?_⟩
  · rw [h2, List.getElem_append_right (by omega)]
    simp [hl]
  · rw [h3, List.getElem_append_right (by omega)]
    simp [hl]
  · have := hrow.le
    simp only [List.length_cons, hn] at this
    exact this

theorem LoopI.keep {w wr wr' : World} {b lc g bx tc : Nat} {d : List I3} {t : List Stp} {arr : List Int} {tad : Option Addr} (H : LoopI w b lc d g bx t arr tad tc wr) (hc : Chg none_ wr wr') : LoopI w b lc d g bx t arr tad tc wr' :=
  ⟨H.row.chg hc (fun _ _ h => h), H.row2.chg hc (fun h => h), H.len, H.chg.trans hc, H.box.chg hc (fun h => h), H.new, H.gn⟩
theorem LoopI.pop {w wr : World} {b lc g bx tc : Nat} {d : List I3} {x : Stp} {t : List Stp} {arr : List Int} {tad : Option Addr} (H : LoopI w b lc d g bx (x :: t) arr tad tc wr) : LoopI w b lc d g bx t arr tad tc wr := by
  refine ⟨?_, H.row2, H.len, H.chg, H.box, H.new, H.gn⟩
  have := H.row.front (k := t.length) (by simp)
  have e : ((x :: t).reverse.flatMap Stp.cells).take (t.length * 2) = t.reverse.flatMap Stp.cells := by
    rw [List.reverse_cons, List.flatMap_append, List.take_append_of_le_length (by rw [scells_len]; simp)]
    rw [List.take_of_length_le (by rw [scells_len]; simp)]
  rw [e] at this
  exact this

theorem rd_lt {w : World} {b : Nat} {xs : List Value} (h : Rd w (some ⟨b, 0, none⟩) xs) (hx : xs ≠ []) : b < w.heap.size := by
  obtain ⟨a, ha, hh⟩ := h hx
  injection ha with ha
  subst ha
  cases xs with
  | nil => exact absurd rfl hx
  | cons u us =>
    have h1 := World.block_lt_of_cell? _ _ (hh 0 u rfl)
    rw [addr_add] at h1
    exact h1

theorem steps_len (x : I3) (a l : Int) : (stepsF x a l).length ≤ 2 := by
  unfold stepsF
  repeat' split
  all_goals simp

/-- 's[:k]' of a []step. -/
theorem slice_to138 (g n c k : Nat) (hk : k ≤ n) (hc : n ≤ c) (w : World) :
    (Instr.slice 138 (.slice (some ⟨g, 0, none⟩) n c) none (some (.int .i64 (k : Int))) none).run Tryz.prog w = .ok (.slice (some ⟨g, 0, none⟩) k c) w := by
  obtain ⟨i0, hi0, hz0, hz1, hz2⟩ := info_parts info137
  have he : Tryz.prog.elem 138 = 137 := by kernel_rfl
  have hu := Tryz.underlying138
  rw [run_slice_h w 138 _ _ _ (by rw [he]; exact hu) .i64 k (by omega) (by omega)]
  simp [he, sizeOf, typeInfo, hi0, sliced, Result.andThen, Addr.add]

theorem addr0 (b j : Nat) : (⟨b, 0, none⟩ : Addr).add j = ⟨b, j, none⟩ := by unfold Addr.add; split <;> simp_all
/-- One step of the work is done. -/
theorem LoopI.step {w wr W2 W3 W4 : World} {b lc g bx tc n tg sn c2 : Nat} {d : List I3} {a l : Int} {t : List Stp} {arr : List Int} {ad2 : Option Addr} {x : I3} (H : LoopI w b lc d g bx ((a, l) :: t) arr (some ⟨tg, 0, none⟩) tc wr)
    (hc : Chg (fun k => k = g) wr W2) (harr : Blk W2 g 3 (ints (arr.set a.toNat l)).toArray) (h3 : Chg none_ W2 W3) (h4 : Chg (inB (some ⟨tg, 0, none⟩)) W3 W4)
    (hr : Row W4 137 2 ad2 (n + sn) c2 (t.reverse.flatMap Stp.cells ++ (stepsF x a l).flatMap Stp.cells)) (hat : ∀ k, inB ad2 k → inB (some ⟨tg, 0, none⟩) k ∨ k = W3.heap.size) (hn : t.length = n) (hsn : sn = (stepsF x a l).length) :
    LoopI w b lc d g bx ((stepsF x a l).reverse ++ t) (arr.set a.toNat l) ad2 c2 W4 := by
  have s0 := H.chg.size
  have s1 := hc.size
  have s2 := h3.size
  refine ⟨?_, (harr.chg h3 (fun h => h)).chg h4 (fun hk => H.row.neBlk H.row2 (by decide) hk rfl), by rw [List.length_set]; exact H.len, ?_, ?_, ?_, H.gn⟩
  · have e1 : ((stepsF x a l).reverse ++ t).length = n + sn := by simp [hn, hsn]; omega
    have e2 : ((stepsF x a l).reverse ++ t).reverse.flatMap Stp.cells = t.reverse.flatMap Stp.cells ++ (stepsF x a l).flatMap Stp.cells := by simp
    rw [e1, e2]
    exact hr
  · refine ((H.chg.trans' hc (fun i hi => ?_)).trans h3).trans' h4 (fun i hi => .inr (H.new i hi))
    have hi' : i = g := hi
    subst hi'
    exact .inr H.gn
  · refine ((H.box.chg hc (fun e => ?_)).chg h3 (fun h => h)).chg h4 (fun hk => H.row.neBlk H.box (by decide) hk rfl)
    have e' : bx = g := e
    exact H.box.ne H.row2 (by decide) e'
  · intro k hk
    rcases hat k hk with h | h
    · exact H.new k h
    · omega

set_option maxRecDepth 100000 in
set_option maxHeartbeats 2000000 in
theorem loops_ok (w : World) (b lc : Nat) (d : List I3) (hr : Rd w (some ⟨b, 0, none⟩) (d.flatMap I3.cells)) (h1 : 1 ≤ d.length) (h2 : d.length ≤ 500) (hst : ∀ x ∈ d, StepsOk x) (res : List Int) (fuel : Nat) (h : loopsF fuel d [(0, 0)] (List.replicate d.length (-1)) = some res) :
    Calls Tryz.prog 44 #[.agg #[.slice (some ⟨b, 0, none⟩) d.length lc]] w fun e w' => ∃ g, e = .returned (.tuple #[.slice (some ⟨g, 0, none⟩) d.length d.length, .bool true]) ∧ Blk w' g 3 (ints res).toArray ∧ res.length = d.length ∧ Chg none_ w w' ∧ w.heap.size ≤ g := by
  obtain ⟨N, hN⟩ : ∃ N, d.length = N := ⟨_, rfl⟩
  have hd0 : ((N : Int) == 0) = false := by simp; omega
  have HF := Lib.hid h
  have HR := Lib.hid hr
  have HN := Lib.hid hN
  have HB := Lib.hid (And.intro h1 h2)
  have HST := Lib.hid hst
  rw [hN] at h1 h2 ⊢
  have HREP := Lib.hid (fun W sb hs => repeat_ok W sb (-1) hs N h1 h2)
  clear h hr h1 h2 hst hN
  go_enter Tryz.func44, Tryz.ntmps44
  go_wp2_with fail
  go_step3
  go_wp2_with (go_at_call 78; refine (HREP.out _ _ (by simp [go_sem])).mono ?_; rintro e W ⟨rfl, hb, hc⟩
               have hcw : Chg none_ w W := (((Chg.new none_ w _).alloc _).trans hc)
               have hbx := (((Blk.new w 24 #[.slice (some ⟨b, 0, none⟩) N lc]).alloc (.cells #[.int .i64 (-1)] 3)).chg hc (fun h => h))
               have hg : w.heap.size ≤ ((w.alloc (.cells #[.slice (some ⟨b, 0, none⟩) N lc] 24)).alloc (.cells #[.int .i64 (-1)] 3)).heap.size := by simp; omega
               generalize ((w.alloc (.cells #[.slice (some ⟨b, 0, none⟩) N lc] 24)).alloc (.cells #[.int .i64 (-1)] 3)).heap.size = g at *
               have HW := Lib.hid (And.intro hb (And.intro hcw (And.intro hbx hg)))
               clear hb hc hcw hbx hg)
  have HI0 := Lib.hid (show LoopI w b lc d g w.heap.size [(0, 0)] (List.replicate d.length (-1)) (some ⟨W.heap.size, 0, none⟩) 1 (W.alloc (.cells #[.int .i64 0, .int .i64 0] 137)) from by
    obtain ⟨hb, hcw, hbx, hg⟩ := HW.out
    have hs := hcw.size
    refine ⟨Row.mk (Blk.new W 137 _) (Nat.le_refl _) (by unfold maxLen; omega) rfl rfl, ?_, by simp, hcw.alloc _, ?_, fresh_some hs, hg⟩
    · have e : (ints (List.replicate d.length (-1))) = half (-1) N N := by rw [HN.out]; simp [ints, half]
      rw [e]
      exact hb.alloc _
    · rw [HN.out]; exact hbx.alloc _)
  go_step3
  go_wp2
  go_loopg [5] fuel (fun m t wr => ∃ todo arr tad tc, t = .slice tad todo.length tc ∧ Hid (loopsF m d todo arr = some res) ∧ Hid (LoopI w b lc d g w.heap.size todo arr tad tc wr))
  case atStart =>
    exact ⟨_, _, _, _, rfl, HF, HI0⟩
  case round =>
    obtain ⟨todo, arr, tad, tc, rfl, HFm, HI⟩ := hrel
    rcases todo with _ | ⟨⟨a, l⟩, t⟩
    · have har : arr = res := by
        have := HFm.out
        unfold loopsF at this
        cases gk <;> exact Option.some.inj this
      subst har
      simp only [List.length_nil]
      go_wp2
      rw [Exit.noGoto_ret]
      go_ret2
      exact ⟨g, rfl, HI.out.row2, by rw [HI.out.len, HN.out], HI.out.chg, HI.out.gn⟩
    · obtain ⟨m, x, v, rfl, a0, l0, l1, ht, hx, hv, hrest⟩ := loopsF_cons HFm.out
      obtain ⟨n, hn⟩ : ∃ n, t.length = n := ⟨_, rfl⟩
      obtain ⟨tg, htg, y0, y1, hle⟩ := HI.out.top hn
      subst htg
      have haN : a.toNat < N := by
        rw [← HN.out]
        rcases Nat.lt_or_ge a.toNat d.length with h | h
        · exact h
        · rw [List.getElem?_eq_none h] at hx; cases hx
      have z0 : wr.cell? ⟨g, a.toNat, none⟩ = some (.int .i64 v) := by
        rw [HI.out.row2.cell, List.getElem?_toArray]
        simp [ints, hv]
      simp only [List.length_cons, hn]
      obtain ⟨n1, hn1⟩ : ∃ n1, n + 1 = n1 := ⟨_, rfl⟩
      rw [hn1] at hle ⊢
      have hpos : 0 < n1 := by omega
      have dpos : decide ((0 : Int) < (n1 : Int)) = true := by simp; omega
      have iw1 : IntKind.i64.wrap ((n1 : Int) - 1) = (n : Int) := by rw [show (n1 : Int) - 1 = (n : Int) from by omega]; exact IntWalk.i64_in _ (by omega)
      have q0 : 0 ≤ (n : Int) := by omega
      have q1 : (n : Int) < (n1 : Int) := by omega
      have hsl := slice_to138 tg n1 tc n (by omega) hle
      have da : decide (a < 0) = false := by simp; omega
      have db : decide ((N : Int) ≤ a) = false := by simp; omega
      have dl : decide (l < 0) = false := by simp; omega
      have a1 : a < (N : Int) := by omega
      have bx : wr.cell? ⟨w.heap.size, 0, none⟩ = some (.slice (some ⟨b, 0, none⟩) N lc) := by
        have := HI.out.box.cell 0
        rw [HN.out] at this
        exact this
      have g0 : wr.frozen? ⟨g, a.toNat, none⟩ = false := HI.out.row2.frozen _
      have w1 : w.heap.size < wr.heap.size := World.block_lt_of_cell? _ _ bx
      have w2 : g < wr.heap.size := World.block_lt_of_cell? _ _ z0
      have w3 : tg < wr.heap.size := World.block_lt_of_cell? _ _ y0
      have HX := Lib.hid (And.intro hx (And.intro hv (And.intro hn (And.intro hn1 (And.intro ht haN)))))
      clear hx hv hn hn1 ht haN hle
      rcases hrest with ⟨rfl, hr⟩ | ⟨hvl, hv0, hr⟩
      · have HRS := Lib.hid hr
        have dv : (v == v) = true := by simp
        clear hr
        go_wp2
        go_quiet (fail)
        go_wp2
        go_roundg m
        case measure => omega
        case rel => exact ⟨t, arr, _, tc, by rw [HX.out.2.2.1], HRS, Lib.hid (HI.out.pop.keep (by (repeat (first | exact Chg.refl _ _ | apply Chg.drewN | apply Chg.alloc | apply Chg.drew))))⟩
      · have HRS := Lib.hid hr
        have dv : (v == l) = false := by simp; omega
        have dv0 : decide (0 ≤ v) = false := by simp; omega
        clear hr hv0
        go_wp2
        go_quiet (fail)
        go_wp2
        obtain ⟨W2, hW2⟩ : ∃ W2, ((wr.alloc (.cells #[.int .i64 a, .int .i64 l] 137)).drewN nq).setCell ⟨g, a.toNat, none⟩ (.int .i64 l) = W2 := ⟨_, rfl⟩
        rw [hW2]
        have hc0 : Chg none_ wr ((wr.alloc (.cells #[.int .i64 a, .int .i64 l] 137)).drewN nq) := (Chg.new none_ _ _).drewN _
        have hcg : Chg (fun k => k = g) wr W2 := by rw [← hW2]; exact (hc0.weak (fun k => k = g)).setL a.toNat (by rfl) _
        have hxb : Blk W2 wr.heap.size 137 #[.int .i64 a, .int .i64 l] := by
          rw [← hW2]
          exact Blk.setR (show Blk ((wr.alloc (.cells #[.int .i64 a, .int .i64 l] 137)).drewN nq) wr.heap.size 137 #[.int .i64 a, .int .i64 l] from Blk.new wr 137 _) a.toNat (by omega) _
        have hrow2 : Row W2 137 2 (some ⟨tg, 0, none⟩) n tc (t.reverse.flatMap Stp.cells) := by
          have := HI.out.pop.row
          rw [HX.out.2.2.1] at this
          exact this.chg hcg (fun k hk => HI.out.row.neBlk HI.out.row2 (by decide) hk)
        have harr : Blk W2 g 3 (ints (arr.set a.toNat l)).toArray := by
          have := (HI.out.row2.chg hc0 (fun h => h)).set_ a.toNat (.int .i64 l)
          rw [hW2] at this
          have e : (ints (arr.set a.toNat l)).toArray = (ints arr).toArray.setIfInBounds a.toNat (.int .i64 l) := by
            simp [ints, List.map_set]
          rw [e]
          exact this
        have x0 : W2.cell? ⟨wr.heap.size, 0, none⟩ = some (.int .i64 a) := hxb.cell 0
        have x1 : W2.cell? ⟨wr.heap.size, 1, none⟩ = some (.int .i64 l) := hxb.cell 1
        have bx2 : W2.cell? ⟨w.heap.size, 0, none⟩ = some (.slice (some ⟨b, 0, none⟩) N lc) := hcg.cell_some bx (fun e => by
          have h3 : w.heap.size = g := e
          have := HI.out.box.ne HI.out.row2 (by decide)
          exact this h3)
        have hdr : Rd W2 (some ⟨b, 0, none⟩) (d.flatMap I3.cells) := by
          refine (HR.out.chg HI.out.chg (fun _ _ h => h)).chg hcg ?_
          intro q hq hg
          injection hq with hq
          subst hq
          have h5 := HI.out.gn
          have h6 := rd_lt HR.out (by
            intro he
            have h7 := icells_len d
            rw [he] at h7
            have := HB.out.1
            simp only [List.length_nil] at h7
            omega)
          have h8 : b = g := hg
          omega
        obtain ⟨e0, e1, e2⟩ := icells_at d a.toNat x HX.out.1
        have hcs : ∀ j u, (d.flatMap I3.cells)[j]? = some u → W2.cell? ⟨b, j, none⟩ = some u := fun j u hu => by
          obtain ⟨q, hq, hh⟩ := hdr (by rintro he; rw [he] at hu; simp at hu)
          injection hq with hq
          have h1 := hh j u hu
          rw [← hq] at h1
          rw [addr0] at h1
          exact h1
        have p0 := hcs _ _ e0
        have p1 := hcs _ _ e1
        have p2 := hcs _ _ e2
        have HCALL := Lib.hid (HST.out x (List.mem_of_getElem? HX.out.1) a l W2.drew a0 (by have := HB.out.2; have := HN.out; omega) l0 l1)
        have HRow2 := Lib.hid hrow2
        have HArr := Lib.hid harr
        have HCg := Lib.hid hcg
        obtain ⟨i0, hi0, hz0, hz1, hz2⟩ := info_parts info137
        have H0i := Lib.hid (And.intro hi0 (And.intro hz0 (And.intro hz1 hz2)))
        have hn2000 : n ≤ 2000 := by rw [← HX.out.2.2.1]; exact HX.out.2.2.2.2.1
        have HW2 := Lib.hid hW2
        clear hi0 hz0 hz1 hz2 hc0 hcg hxb hrow2 harr hdr e0 e1 e2 hcs hW2 dpos iw1 q0 q1 hsl da db dl bx g0 w1 w2 w3 y0 y1 z0 dv dv0 hpos hvl l0 l1
        go_region_law
          (first
            | (go_simp; go_at_call 79; refine (HCALL.out).mono ?_; rintro e w3 ⟨sad, sn, sc, rfl, hsn, hrd, hch, hfr⟩
               have HS3 := Lib.hid (And.intro hsn (And.intro hrd (And.intro hch hfr)))
               clear hsn hrd hch hfr)
            | (have _t := HS3; refine step_append_row (o := ⟨some 83, _, _, _, _, _⟩) _ (by rfl) _ _ 138 (by rfl) 137 i0 _ 2 16 Tryz.underlying138 (H0i.out).1 (H0i.out).2.1 (H0i.out).2.2.1 (H0i.out).2.2.2 (by rfl) (by decide) (some ⟨tg, 0, none⟩) n tc (t.reverse.flatMap Stp.cells) (by go_simp) (((HRow2.out).drew).chg HS3.out.2.2.1 (fun _ _ h => h)) sad sn sc ((stepsF x a l).flatMap Stp.cells) (by go_simp) HS3.out.2.1 (by rw [scells_len, HS3.out.1]) (scells_one _) (by have := steps_len x a l; have := HS3.out.1; unfold maxLen; omega) (by have := steps_len x a l; have := HS3.out.1; omega) ?_
               intro ad2 c2 w4 hrow4 hch4 hat4
               have HR4 := Lib.hid hrow4; have HC4 := Lib.hid hch4; have HA4 := Lib.hid hat4; clear hrow4 hch4 hat4))
        all_goals go_wp2
        all_goals (go_roundg m)
        all_goals first | omega | skip
        all_goals exact ⟨(stepsF x a l).reverse ++ t, arr.set a.toNat l, ad2, c2, by rw [List.length_append, List.length_reverse, ← HS3.out.1, HX.out.2.2.1, Nat.add_comm], HRS, Lib.hid (HI.out.step HCg.out HArr.out (((Chg.refl none_ _).drew).trans HS3.out.2.2.1) HC4.out HR4.out HA4.out HX.out.2.2.1 HS3.out.1)⟩
end Go.Proofs.YtgomjcnefadenaaGreatDoor
