/- ins.May: a definition that may be. Conditions: the contract's own premises. -/
import Derived.Test.YtgomjcnefadenaaGreatDoorM1
import Derived.Test.YtgomjcnefadenaaGreatDoorN2
import Derived.WalkArith
namespace Go.Proofs.YtgomjcnefadenaaGreatDoor
open Go Go.RowKit Go.Maps

/-- What 'low' and 'high' hold. -/
def lowF (k : Nat) : Int := if k = 2 ∨ k = 3 then 1 else 0
def highF (L words : Nat) (lo : Int) (k : Nat) : Int := if k = 1 then (L : Int) - 1 else if k = 2 then words else if k = 3 then 16 else if k = 4 then lo - 1 else 0

/-- That ins.Loops tells arr of d. -/
def LoopsOk (d : List I3) (arr : List Int) : Prop := ∀ (w : World) (b lc : Nat), Rd w (some ⟨b, 0, none⟩) (d.flatMap I3.cells) →
    Calls Tryz.prog 44 #[.agg #[.slice (some ⟨b, 0, none⟩) d.length lc]] w fun e w' => ∃ g, e = .returned (.tuple #[.slice (some ⟨g, 0, none⟩) d.length d.length, .bool true]) ∧ Blk w' g 3 (ints arr).toArray ∧ arr.length = d.length ∧ Chg none_ w w' ∧ w.heap.size ≤ g

structure MayOk (d : List I3) (words : Nat) (lo : Int) (arr : List Int) : Prop where
  h1 : 1 ≤ d.length
  h2 : d.length ≤ 500
  hw : words ≤ 600
  loops : LoopsOk d arr
  last : ∃ x, d[d.length - 1]? = some x ∧ (x.op = 15)
  first : ∃ x, d[0]? = some x ∧ lo = if x.op = 12 then x.a else 0
  lo0 : 0 ≤ lo ∧ lo ≤ 1000
  all : ∀ (i : Nat) x, d[i]? = some x → 1 ≤ x.op ∧ x.op ≤ 15 ∧ (x.op = 1 ∨ x.w = 0) ∧ lowF (kindF x.op) ≤ x.a ∧ x.a ≤ highF d.length words lo (kindF x.op) ∧ (x.op = 12 → i = 0) ∧ (x.op = 15 → i + 1 = d.length → ∃ v, arr[i]? = some v ∧ v ≤ 0)

theorem addr00 (b j : Nat) : (⟨b, 0, none⟩ : Addr).add j = ⟨b, j, none⟩ := by unfold Addr.add; split <;> simp_all
theorem rd_icells {w : World} {b : Nat} {d : List I3} (h : Rd w (some ⟨b, 0, none⟩) (d.flatMap I3.cells)) {i : Nat} {x : I3} (hx : d[i]? = some x) :
    w.cell? ⟨b, i * 3, none⟩ = some (.int .u8 x.op) ∧ w.cell? ⟨b, i * 3 + 1, none⟩ = some (.int .i64 x.a) ∧ w.cell? ⟨b, i * 3 + 2, none⟩ = some (.int .i64 x.w) := by
  obtain ⟨e0, e1, e2⟩ := icells_at d i x hx
  have hcs : ∀ j u, (d.flatMap I3.cells)[j]? = some u → w.cell? ⟨b, j, none⟩ = some u := fun j u hu => by
    obtain ⟨q, hq, hh⟩ := h (by rintro he; rw [he] at hu; simp at hu)
    injection hq with hq
    have h1 := hh j u hu
    rw [← hq, addr00] at h1
    exact h1
  exact ⟨hcs _ _ e0, hcs _ _ e1, hcs _ _ e2⟩

theorem kindF_le (op : Int) : kindF op ≤ 4 := by
  unfold kindF
  split
  · omega
  split
  · omega
  split
  · omega
  split <;> omega
theorem low_eq (K : Nat) : (if (K : Int) = 3 then (1 : Int) else if (K : Int) = 2 then 1 else 0) = lowF K := by
  unfold lowF
  repeat' split
  all_goals omega
theorem high_eq (K L words : Nat) (lo : Int) :
    (if (K : Int) = 4 then lo - 1 else if (K : Int) = 3 then (16 : Int) else if (K : Int) = 2 then (words : Int) else if (K : Int) = 1 then (L : Int) - 1 else 0) = highF L words lo K := by
  unfold highF
  repeat' split
  all_goals omega

set_option maxRecDepth 100000 in
set_option maxHeartbeats 4000000 in
theorem may_ok (w : World) (b lc : Nat) (d : List I3) (hr : Rd w (some ⟨b, 0, none⟩) (d.flatMap I3.cells)) (words : Nat) (lo : Int) (arr : List Int) (H : MayOk d words lo arr) :
    Calls Tryz.prog 26 #[.agg #[.slice (some ⟨b, 0, none⟩) d.length lc], .int .i64 words] w fun e w' => e = .returned (.bool true) ∧ Chg none_ w w' := by
  have HL := Lib.hid (fun W (hW : Chg none_ w W) => H.loops W b lc (hr.chg hW (fun _ _ h => h)))
  obtain ⟨xl, hxl, hop⟩ := H.last
  obtain ⟨xf, hxf, hlo⟩ := H.first
  obtain ⟨l0, l1⟩ := H.lo0
  have h1 := H.h1
  have h2 := H.h2
  have hw := H.hw
  obtain ⟨N, hN⟩ : ∃ N, d.length = N := ⟨_, rfl⟩
  have HALL := Lib.hid H.all
  have HR := Lib.hid hr
  have HN := Lib.hid hN
  rw [hN] at h1 h2 HL hxl ⊢
  have m1 : (xl.op != 15) = false := by simp [hop]
  have HXL := Lib.hid hxl
  have HXF := Lib.hid hxf
  have hmm := @run_makeMap Tryz.prog
  clear H hr hN hxl hxf hop
  go_enter Tryz.func26, Tryz.ntmps26
  go_wp2_with fail
  refine (HL.out _ (Chg.new none_ w _)).mono ?_
  rintro e W ⟨g, rfl, hb, hal, hc, hg⟩
  have HBox := Lib.hid ((Blk.new w 24 #[.slice (some ⟨b, 0, none⟩) N lc]).chg hc (fun h => h))
  have hcw := (Chg.new none_ w (.cells #[.slice (some ⟨b, 0, none⟩) N lc] 24)).trans hc
  have c0 : W.cell? ⟨w.heap.size, 0, none⟩ = some (.slice (some ⟨b, 0, none⟩) N lc) := HBox.out.cell 0
  have hRW := HR.out.chg hcw (fun _ _ h => h)
  obtain ⟨e0, _, _⟩ := rd_icells hRW HXL.out
  obtain ⟨f0, f1, _⟩ := rd_icells hRW HXF.out
  simp only [Nat.zero_mul, Nat.zero_add] at f0 f1
  have d5 : decide ((500 : Int) < (N : Int)) = false := by simp; omega
  have iwn : IntKind.i64.wrap ((N : Int) - 1) = (N : Int) - 1 := IntWalk.i64_in _ (by omega)
  have q0 : 0 ≤ (N : Int) - 1 := by omega
  have q1 : (N : Int) - 1 < (N : Int) := by omega
  have q2 : 0 < N := by omega
  have HB := Lib.hid (And.intro hb (And.intro hal (And.intro hcw (And.intro hg hRW))))
  clear hb hal hc hg hcw hRW
  by_cases hq : xf.op = 12
  · have hlo1 : lo = xf.a := by rw [hlo, if_pos hq]
    have hq1 : (xf.op == 12) = true := by simp [hq]
    rw [← hlo1] at f1
    clear hq hlo hlo1
    obtain ⟨w1, r1, i1, g1⟩ := (IMap.made W).store (by omega) 2 1 (by decide) (by decide)
    obtain ⟨w2, r2, i2, g2⟩ := i1.store (by omega) 3 1 (by decide) (by decide)
    have hc2 : Chg (fun i => i = W.heap.size) W w2 := (((Chg.new none_ W (.map #[] 0)).weak _).trans g1).trans g2
    have c02 : w2.cell? ⟨w.heap.size, 0, none⟩ = some (.slice (some ⟨b, 0, none⟩) N lc) := hc2.cell_some c0 (by have := block_lt_of_cell c0; simp at this ⊢; omega)
    have i2' := Lib.hid i2
    have HC2 := Lib.hid hc2
    have z2 := block_lt_of_cell c02
    simp only at z2
    clear i1 g1 i2 g2 hc2
    obtain ⟨w3, r3, i3, g3⟩ := (IMap.made w2).store (by omega) 1 ((N : Int) - 1) (by decide) (WalkArith.wf_i64 (by omega))
    obtain ⟨w4, r4, i4, g4⟩ := i3.store (by omega) 2 (words : Int) (by decide) (WalkArith.wf_i64 (by omega))
    obtain ⟨w5, r5, i5, g5⟩ := i4.store (by omega) 3 16 (by decide) (by decide)
    obtain ⟨w6, r6, i6, g6⟩ := i5.store (by omega) 4 (lo - 1) (by decide) (WalkArith.wf_i64 (by omega))
    have hc6 : Chg (fun i => i = w2.heap.size) w2 w6 := (((((Chg.new none_ w2 (.map #[] 0)).weak _).trans g3).trans g4).trans g5).trans g6
    have c06 : w6.cell? ⟨w.heap.size, 0, none⟩ = some (.slice (some ⟨b, 0, none⟩) N lc) := hc6.cell_some c02 (by simp; omega)
    have i6' := Lib.hid i6
    have HC6 := Lib.hid hc6
    clear i3 i4 i5 i6 g3 g4 g5 g6 hc6
    go_wp2_with fail
    clear r1 r2 r3 r4 r5 r6
    have HC2w := Lib.hid (And.intro c0 z2)
    clear c0 c02 c06 z2 e0 f0 f1 iwn q0 q1 d5 m1 hq1
    go_loopg [67] N (fun m i wr => ∃ k : Nat, k + m = N ∧ i = .int .i64 k ∧ Hid (Chg none_ w6 wr))
    case atStart => exact ⟨0, by omega, rfl, Lib.hid (Chg.refl _ _)⟩
    case round =>
      obtain ⟨k, hk, rfl, HCr⟩ := hrel
      rcases Nat.lt_or_ge k N with hkN | hkN
      · have hkd : k < d.length := by rw [HN.out]; exact hkN
        obtain ⟨x, hx⟩ : ∃ x, d[k]? = some x := ⟨d[k], List.getElem?_eq_getElem hkd⟩
        obtain ⟨o1, o2, ow, oa1, oa2, o12, o15⟩ := HALL.out k x hx
        rw [HN.out] at oa2 o15
        have hw6 : ∀ p v, W.cell? p = some v → wr.cell? p = some v := fun p v hp => HCr.out.cell_some (HC6.out.cell_some (HC2.out.cell_some hp (by have := block_lt_of_cell hp; omega)) (by have := block_lt_of_cell hp; have := HC2.out.size; omega)) (fun h => h)
        obtain ⟨y0, y1, y2⟩ := rd_icells HB.out.2.2.2.2 hx
        have y0 := hw6 _ _ y0
        have y1 := hw6 _ _ y1
        have y2 := hw6 _ _ y2
        have cbx := hw6 _ _ HC2w.out.1
        have hlow := ((i2'.out.chg HC6.out (by have := i2'.out.lt; omega)).chg HCr.out (fun h => h)).chg (Chg.new none_ wr (.cells #[.int .u8 x.op, .int .i64 x.a, .int .i64 x.w] 56)) (fun h => h)
        have hhigh := (i6'.out.chg HCr.out (fun h => h)).chg (Chg.new none_ wr (.cells #[.int .u8 x.op, .int .i64 x.a, .int .i64 x.w] 56)) (fun h => h)
        obtain ⟨K, hK⟩ : ∃ K, kindF x.op = K := ⟨_, rfl⟩
        have hK4 : K ≤ 4 := by rw [← hK]; exact kindF_le _
        have HKO := Lib.hid (fun W => kind_ok x.op o1 o2 W)
        rw [hK] at HKO oa1 oa2
        have k1 := hlow.look (K : Int) (WalkArith.wf_i64 (by omega))
        have k2 := hhigh.look (K : Int) (WalkArith.wf_i64 (by omega))
        rw [low_eq] at k1
        rw [high_eq K N words lo] at k2
        obtain ⟨LV, hLV⟩ : ∃ LV, lowF K = LV := ⟨_, rfl⟩
        obtain ⟨HV, hHV⟩ : ∃ HV, highF N words lo K = HV := ⟨_, rfl⟩
        rw [hLV] at k1 oa1
        rw [hHV] at k2 oa2
        have n2 : w.heap.size < wr.heap.size := block_lt_of_cell cbx
        have t1 : decide (x.op < 1) = false := by simp; omega
        have t2 : decide (16 ≤ x.op) = false := by simp; omega
        have t3 : decide (x.a < LV) = false := by simp; omega
        have t4 : decide (HV < x.a) = false := by simp; omega
        have hkN' : decide ((k : Int) < (N : Int)) = true := by simp; omega
        have p0 : 0 ≤ (k : Int) := by omega
        have p1 : (k : Int) < (N : Int) := by omega
        have iwk : IntKind.i64.wrap ((k : Int) + 1) = (k : Int) + 1 := IntWalk.i64_in _ (by omega)
        have iwn : IntKind.i64.wrap ((N : Int) - 1) = (N : Int) - 1 := IntWalk.i64_in _ (by omega)
        have HX := Lib.hid (And.intro hx (And.intro hk (And.intro hK (And.intro hLV hHV))))
        have hcell : ∀ v, arr[k]? = some v → wr.cell? ⟨g, k, none⟩ = some (.int .i64 v) := fun v hv => hw6 _ _ (by rw [HB.out.1.cell, List.getElem?_toArray]; simp [ints, hv])
        obtain ⟨av, hav⟩ : ∃ av, arr[k]? = some av := ⟨arr[k]'(by rw [HB.out.2.1]; exact hkN), List.getElem?_eq_getElem (by rw [HB.out.2.1]; exact hkN)⟩
        have ca := hcell av hav
        have n3 : g < wr.heap.size := block_lt_of_cell ca
        have hav15 : x.op = 15 → k + 1 = N → av ≤ 0 := fun a b => by
          obtain ⟨v, hv, hv0⟩ := o15 a b
          rw [hav] at hv
          injection hv with hv
          omega
        clear hw6 hlow hhigh hx hk hK hLV hHV oa1 oa2 hcell hav o15 hK4 hkd
        have hways : ((x.op != 1) = false ∧ (x.op == 12) = false ∧ (x.op == 15) = false) ∨
            ((x.op != 1) = true ∧ (x.w != 0) = false ∧ (x.op == 12) = true ∧ decide (0 < k) = false ∧ (x.op == 15) = false) ∨
            ((x.op != 1) = true ∧ (x.w != 0) = false ∧ (x.op == 12) = false ∧ (x.op == 15) = true ∧ ((k : Int) == (N : Int) - 1) = true ∧ decide (0 < av) = false) ∨
            ((x.op != 1) = true ∧ (x.w != 0) = false ∧ (x.op == 12) = false ∧ (x.op == 15) = true ∧ ((k : Int) == (N : Int) - 1) = false) ∨
            ((x.op != 1) = true ∧ (x.w != 0) = false ∧ (x.op == 12) = false ∧ (x.op == 15) = false) := by
          simp only [bne_iff_ne, ne_eq, beq_eq_false_iff_ne, beq_iff_eq, decide_eq_false_iff_not, bne_eq_false_iff_eq]
          by_cases a1 : x.op = 1
          · left; omega
          have a2 : x.w = 0 := by omega
          by_cases a3 : x.op = 12
          · have := o12 a3
            right; left; omega
          by_cases a4 : x.op = 15
          · by_cases a5 : k + 1 = N
            · have := hav15 a4 a5
              right; right; left; omega
            · right; right; right; left; omega
          · right; right; right; right; omega
        clear hav15 o12 ow o1 o2
        rcases hways with ⟨s1, s2, s3⟩ | ⟨s1, s2, s3, s4, s5⟩ | ⟨s1, s2, s3, s4, s5, s6⟩ | ⟨s1, s2, s3, s4, s5⟩ | ⟨s1, s2, s3, s4⟩
        all_goals
          go_wp2_with (go_at_call 45; refine (HKO.out _).mono ?_; rintro e W' ⟨rfl, rfl⟩)
          go_roundg (gk - 1)
        all_goals first | (have := HX.out.2.1; omega) | skip
        all_goals exact ⟨k + 1, by have := HX.out.2.1; omega, by simp, Lib.hid (HCr.out.alloc _)⟩
      · obtain rfl : k = N := by omega
        have hkN' : decide ((k : Int) < (k : Int)) = false := by simp
        go_wp2
        go_ret
        exact ⟨rfl, HB.out.2.2.1.trans' ((((HC2.out.mono (fun i hi => .inl hi)).trans (HC6.out.mono (fun i hi => .inr hi))).trans (HCr.out.weak _)) : Chg (fun i => i = W.heap.size ∨ i = w2.heap.size) W wr) (fun i hi => by have h1 := HB.out.2.2.1.size; have h2 := HC2.out.size; rcases hi with h | h <;> exact .inr (by omega))⟩
  · have hlo1 : lo = 0 := by rw [hlo, if_neg hq]
    have hq1 : (xf.op == 12) = false := by simp [hq]
    clear hq hlo
    subst hlo1
    obtain ⟨w1, r1, i1, g1⟩ := (IMap.made W).store (by omega) 2 1 (by decide) (by decide)
    obtain ⟨w2, r2, i2, g2⟩ := i1.store (by omega) 3 1 (by decide) (by decide)
    have hc2 : Chg (fun i => i = W.heap.size) W w2 := (((Chg.new none_ W (.map #[] 0)).weak _).trans g1).trans g2
    have c02 : w2.cell? ⟨w.heap.size, 0, none⟩ = some (.slice (some ⟨b, 0, none⟩) N lc) := hc2.cell_some c0 (by have := block_lt_of_cell c0; simp at this ⊢; omega)
    have i2' := Lib.hid i2
    have HC2 := Lib.hid hc2
    have z2 := block_lt_of_cell c02
    simp only at z2
    clear i1 g1 i2 g2 hc2
    obtain ⟨w3, r3, i3, g3⟩ := (IMap.made w2).store (by omega) 1 ((N : Int) - 1) (by decide) (WalkArith.wf_i64 (by omega))
    obtain ⟨w4, r4, i4, g4⟩ := i3.store (by omega) 2 (words : Int) (by decide) (WalkArith.wf_i64 (by omega))
    obtain ⟨w5, r5, i5, g5⟩ := i4.store (by omega) 3 16 (by decide) (by decide)
    obtain ⟨w6, r6, i6, g6⟩ := i5.store (by omega) 4 (-1) (by decide) (WalkArith.wf_i64 (by omega))
    have hc6 : Chg (fun i => i = w2.heap.size) w2 w6 := (((((Chg.new none_ w2 (.map #[] 0)).weak _).trans g3).trans g4).trans g5).trans g6
    have c06 : w6.cell? ⟨w.heap.size, 0, none⟩ = some (.slice (some ⟨b, 0, none⟩) N lc) := hc6.cell_some c02 (by simp; omega)
    have i6' := Lib.hid i6
    have HC6 := Lib.hid hc6
    clear i3 i4 i5 i6 g3 g4 g5 g6 hc6
    go_wp2_with fail
    clear r1 r2 r3 r4 r5 r6
    have HC2w := Lib.hid (And.intro c0 z2)
    clear c0 c02 c06 z2 e0 f0 f1 iwn q0 q1 d5 m1 hq1
    go_loopg [67] N (fun m i wr => ∃ k : Nat, k + m = N ∧ i = .int .i64 k ∧ Hid (Chg none_ w6 wr))
    case atStart => exact ⟨0, by omega, rfl, Lib.hid (Chg.refl _ _)⟩
    case round =>
      obtain ⟨k, hk, rfl, HCr⟩ := hrel
      rcases Nat.lt_or_ge k N with hkN | hkN
      · have hkd : k < d.length := by rw [HN.out]; exact hkN
        obtain ⟨x, hx⟩ : ∃ x, d[k]? = some x := ⟨d[k], List.getElem?_eq_getElem hkd⟩
        obtain ⟨o1, o2, ow, oa1, oa2, o12, o15⟩ := HALL.out k x hx
        rw [HN.out] at oa2 o15
        have hw6 : ∀ p v, W.cell? p = some v → wr.cell? p = some v := fun p v hp => HCr.out.cell_some (HC6.out.cell_some (HC2.out.cell_some hp (by have := block_lt_of_cell hp; omega)) (by have := block_lt_of_cell hp; have := HC2.out.size; omega)) (fun h => h)
        obtain ⟨y0, y1, y2⟩ := rd_icells HB.out.2.2.2.2 hx
        have y0 := hw6 _ _ y0
        have y1 := hw6 _ _ y1
        have y2 := hw6 _ _ y2
        have cbx := hw6 _ _ HC2w.out.1
        have hlow := ((i2'.out.chg HC6.out (by have := i2'.out.lt; omega)).chg HCr.out (fun h => h)).chg (Chg.new none_ wr (.cells #[.int .u8 x.op, .int .i64 x.a, .int .i64 x.w] 56)) (fun h => h)
        have hhigh := (i6'.out.chg HCr.out (fun h => h)).chg (Chg.new none_ wr (.cells #[.int .u8 x.op, .int .i64 x.a, .int .i64 x.w] 56)) (fun h => h)
        obtain ⟨K, hK⟩ : ∃ K, kindF x.op = K := ⟨_, rfl⟩
        have hK4 : K ≤ 4 := by rw [← hK]; exact kindF_le _
        have HKO := Lib.hid (fun W => kind_ok x.op o1 o2 W)
        rw [hK] at HKO oa1 oa2
        have k1 := hlow.look (K : Int) (WalkArith.wf_i64 (by omega))
        have k2 := hhigh.look (K : Int) (WalkArith.wf_i64 (by omega))
        rw [low_eq] at k1
        have hhe := high_eq K N words 0
        simp only [show (0 : Int) - 1 = -1 from rfl] at hhe
        rw [hhe] at k2
        clear hhe
        obtain ⟨LV, hLV⟩ : ∃ LV, lowF K = LV := ⟨_, rfl⟩
        obtain ⟨HV, hHV⟩ : ∃ HV, highF N words 0 K = HV := ⟨_, rfl⟩
        rw [hLV] at k1 oa1
        rw [hHV] at k2 oa2
        have n2 : w.heap.size < wr.heap.size := block_lt_of_cell cbx
        have t1 : decide (x.op < 1) = false := by simp; omega
        have t2 : decide (16 ≤ x.op) = false := by simp; omega
        have t3 : decide (x.a < LV) = false := by simp; omega
        have t4 : decide (HV < x.a) = false := by simp; omega
        have hkN' : decide ((k : Int) < (N : Int)) = true := by simp; omega
        have p0 : 0 ≤ (k : Int) := by omega
        have p1 : (k : Int) < (N : Int) := by omega
        have iwk : IntKind.i64.wrap ((k : Int) + 1) = (k : Int) + 1 := IntWalk.i64_in _ (by omega)
        have iwn : IntKind.i64.wrap ((N : Int) - 1) = (N : Int) - 1 := IntWalk.i64_in _ (by omega)
        have HX := Lib.hid (And.intro hx (And.intro hk (And.intro hK (And.intro hLV hHV))))
        have hcell : ∀ v, arr[k]? = some v → wr.cell? ⟨g, k, none⟩ = some (.int .i64 v) := fun v hv => hw6 _ _ (by rw [HB.out.1.cell, List.getElem?_toArray]; simp [ints, hv])
        obtain ⟨av, hav⟩ : ∃ av, arr[k]? = some av := ⟨arr[k]'(by rw [HB.out.2.1]; exact hkN), List.getElem?_eq_getElem (by rw [HB.out.2.1]; exact hkN)⟩
        have ca := hcell av hav
        have n3 : g < wr.heap.size := block_lt_of_cell ca
        have hav15 : x.op = 15 → k + 1 = N → av ≤ 0 := fun a b => by
          obtain ⟨v, hv, hv0⟩ := o15 a b
          rw [hav] at hv
          injection hv with hv
          omega
        clear hw6 hlow hhigh hx hk hK hLV hHV oa1 oa2 hcell hav o15 hK4 hkd
        have hways : ((x.op != 1) = false ∧ (x.op == 12) = false ∧ (x.op == 15) = false) ∨
            ((x.op != 1) = true ∧ (x.w != 0) = false ∧ (x.op == 12) = true ∧ decide (0 < k) = false ∧ (x.op == 15) = false) ∨
            ((x.op != 1) = true ∧ (x.w != 0) = false ∧ (x.op == 12) = false ∧ (x.op == 15) = true ∧ ((k : Int) == (N : Int) - 1) = true ∧ decide (0 < av) = false) ∨
            ((x.op != 1) = true ∧ (x.w != 0) = false ∧ (x.op == 12) = false ∧ (x.op == 15) = true ∧ ((k : Int) == (N : Int) - 1) = false) ∨
            ((x.op != 1) = true ∧ (x.w != 0) = false ∧ (x.op == 12) = false ∧ (x.op == 15) = false) := by
          simp only [bne_iff_ne, ne_eq, beq_eq_false_iff_ne, beq_iff_eq, decide_eq_false_iff_not, bne_eq_false_iff_eq]
          by_cases a1 : x.op = 1
          · left; omega
          have a2 : x.w = 0 := by omega
          by_cases a3 : x.op = 12
          · have := o12 a3
            right; left; omega
          by_cases a4 : x.op = 15
          · by_cases a5 : k + 1 = N
            · have := hav15 a4 a5
              right; right; left; omega
            · right; right; right; left; omega
          · right; right; right; right; omega
        clear hav15 o12 ow o1 o2
        rcases hways with ⟨s1, s2, s3⟩ | ⟨s1, s2, s3, s4, s5⟩ | ⟨s1, s2, s3, s4, s5, s6⟩ | ⟨s1, s2, s3, s4, s5⟩ | ⟨s1, s2, s3, s4⟩
        all_goals
          go_wp2_with (go_at_call 45; refine (HKO.out _).mono ?_; rintro e W' ⟨rfl, rfl⟩)
          go_roundg (gk - 1)
        all_goals first | (have := HX.out.2.1; omega) | skip
        all_goals exact ⟨k + 1, by have := HX.out.2.1; omega, by simp, Lib.hid (HCr.out.alloc _)⟩
      · obtain rfl : k = N := by omega
        have hkN' : decide ((k : Int) < (k : Int)) = false := by simp
        go_wp2
        go_ret
        exact ⟨rfl, HB.out.2.2.1.trans' ((((HC2.out.mono (fun i hi => .inl hi)).trans (HC6.out.mono (fun i hi => .inr hi))).trans (HCr.out.weak _)) : Chg (fun i => i = W.heap.size ∨ i = w2.heap.size) W wr) (fun i hi => by have h1 := HB.out.2.2.1.size; have h2 := HC2.out.size; rcases hi with h | h <;> exact .inr (by omega))⟩
end Go.Proofs.YtgomjcnefadenaaGreatDoor
