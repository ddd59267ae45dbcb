/- EngineLocals: the law's walk. Conditions: the contract's own premises. -/
import Derived.Test.YtgomjcnefadenaaGreatDoorZ2
namespace Go.Proofs.YtgomjcnefadenaaGreatDoor
open Go Go.RowKit

/-- The code of the outer definition, as far as it is laid. -/
structure CodeI (w wr : World) (n k : Nat) (x : Int) (i : Nat) (ad : Option Addr) (c : Nat) : Prop where
  row : Row wr 56 3 ad (5 + i) c ((dH n k x ++ dM i).flatMap I3.cells)
  chg : Chg none_ w wr
  new : ∀ q, inB ad q → w.heap.size ≤ q
theorem CodeI.step {w wr w1 w2 : World} {n k i : Nat} {x : Int} {ad ad2 : Option Addr} {c c2 : Nat} (H : CodeI w wr n k x i ad c) (hc : Chg none_ wr w1) (h2 : Chg (inB ad) w1 w2)
    (hr : Row w2 56 3 ad2 (5 + i + 1) c2 ((dH n k x ++ dM i).flatMap I3.cells ++ [.int .u8 13, .int .i64 i, .int .i64 0])) (hat : ∀ q, inB ad2 q → inB ad q ∨ q = w1.heap.size) : CodeI w w2 n k x (i + 1) ad2 c2 := by
  have s1 := H.chg.size
  have s2 := hc.size
  refine ⟨?_, (H.chg.trans hc).trans' h2 (fun i hi => .inr (H.new i hi)), fun q hq => ?_⟩
  · have e : (dH n k x ++ dM (i + 1)).flatMap I3.cells = (dH n k x ++ dM i).flatMap I3.cells ++ [.int .u8 13, .int .i64 i, .int .i64 0] := by
      rw [dM_succ, ← List.append_assoc, List.flatMap_append]
      rfl
    rw [e]
    exact hr
  · rcases hat q hq with h | h
    · exact H.new q h
    · omega

set_option maxRecDepth 100000 in
set_option maxHeartbeats 8000000 in
theorem law_ok (w : World) (hM : MaxL w) (lad : Option Addr) (N cap : Nat) (l : List Int) (hr : Rd w lad (ints l)) (hN : l.length = N) (hNc : N ≤ cap) (hcap : cap ≤ maxLen) (at_ x : Int) (ha0 : 0 ≤ at_) (ha1 : at_ < 256) :
    Calls Tryz.prog 5 #[.slice lad N cap, .int .u8 at_, .int .i64 x] w fun e w' => e = .returned (.bool true) ∧ Chg none_ w w' := by
  unfold maxLen at hcap
  obtain ⟨n, hn⟩ : ∃ n, min N 16 = n := ⟨_, rfl⟩
  have hmin : min (N : Int) 16 = (n : Int) := by omega
  have hsl := fun W => slice_to25 lad N cap n (by omega) W
  have HSH := Lib.hid shown_ok
  have HBU := Lib.hid built_ok
  have HM := Lib.hid hM
  have hry : Rd w lad (ints (l.take n)) := by rw [ints_take]; exact hr.take n
  have HR := Lib.hid hry
  have hyl : (l.take n).length = n := by rw [List.length_take]; omega
  obtain ⟨y, hy⟩ : ∃ y, l.take n = y := ⟨_, rfl⟩
  rw [hy] at HR hyl
  have HY := Lib.hid hyl
  have hn16 : n ≤ 16 := by omega
  have iwa : IntKind.i64.wrap at_ = at_ := IntWalk.i64_in _ (by omega)
  clear hM hr hN hn hry hyl hy
  go_enter Tryz.func5, Tryz.ntmps5
  go_wp2_with fail
  refine (HSH.out _).mono ?_
  rintro e W1 ⟨rfl, hc1⟩
  have HC1 := Lib.hid hc1
  clear hc1
  go_wp2_with fail
  refine (HBU.out _ (HM.out.chg HC1.out (fun h => h))).mono ?_
  rintro e W2 ⟨B, bb, rfl, hbu⟩
  have HB := Lib.hid hbu
  clear hbu
  unfold ptr at *
  rcases Nat.eq_zero_or_pos n with rfl | hpos
  · go_wp2
    go_ret
    exact ⟨rfl, HC1.out.trans HB.out.chg⟩
  · obtain ⟨K, hK⟩ : ∃ K : Nat, at_ % (n : Int) = (K : Int) := ⟨(at_ % (n : Int)).toNat, by have := Int.emod_nonneg at_ (show (n : Int) ≠ 0 by omega); omega⟩
    have hKn : K < n := by have := Int.emod_lt_of_pos at_ (show (0 : Int) < n by omega); omega
    have hn0 : ((n : Int) == 0) = false := by simp; omega
    -- the engine, so far
    obtain ⟨E2, hE2, hEng2⟩ : ∃ E : Nat → Prop, (∀ k, E k → w.heap.size ≤ k ∧ k < W2.heap.size) ∧ Eng W2 B s0L E := by
      have h1 := HC1.out.size
      refine ⟨_, fun k hk => ⟨?_, hk.2⟩, HB.out.eng.tight⟩
      rcases hk.1 with h | h
      · have := HB.out.new k h; omega
      · have := h.1; omega
    have HC2 := Lib.hid (HC1.out.trans HB.out.chg)
    have HE2 := Lib.hid (And.intro hE2 hEng2)
    have HD1 := Lib.hid (fun W (hW : Chg none_ W2 W) b (hr : Rd W (some ⟨b, 0, none⟩) (dI.flatMap I3.cells)) (hb : W2.heap.size ≤ b) => def1 W B E2 (hEng2.keep hW) b hr (fun h => by have := (hE2 b h).2; omega))
    have HA1 := Lib.hid (fun W O (H : Eng W B s1L O) => add1 W B O H)
    clear hE2 hEng2
    unfold ptr at *
    go_wp2_with (first
      | (go_at_call 8; refine (HD1.out _ ((Chg.new none_ W2 _)) _ (Rd.of_blk (Blk.new W2 56 #[.int .u8 12, .int .i64 1, .int .i64 0, .int .u8 1, .int .i64 0, .int .i64 77, .int .u8 14, .int .i64 0, .int .i64 0, .int .u8 15, .int .i64 0, .int .i64 0])) (Nat.le_refl _)).mono ?_; rintro e W3 ⟨rfl, hgo⟩; have HG3 := Lib.hid (Goes.pre (Chg.new none_ W2 _) hgo); clear hgo)
      | (go_at_call 9; refine (HA1.out _ _ HG3.out.eng).mono ?_; rintro e W4 ⟨rfl, hgo⟩; have HG4 := Lib.hid (HG3.out.trans hgo); clear hgo))
    -- the code of the outer definition
    obtain ⟨E4, hE4, hEng4⟩ : ∃ E : Nat → Prop, (∀ k, E k → w.heap.size ≤ k ∧ k < W4.heap.size) ∧ Eng W4 B s2L E := by
      refine ⟨_, fun k hk => ⟨?_, hk.2⟩, HG4.out.eng.tight⟩
      have h2 := HC2.out.size
      rcases hk.1 with h | h
      · exact (HE2.out.1 k h).1
      · omega
    have HC4 := Lib.hid (HC2.out.trans' HG4.out.chg (fun k hk => .inr (HE2.out.1 k hk).1))
    have HE4 := Lib.hid (And.intro hE4 hEng4)
    have hcode : CodeI W4 (W4.alloc (.cells #[.int .u8 12, .int .i64 n, .int .i64 0, .int .u8 1, .int .i64 0, .int .i64 x, .int .u8 14, .int .i64 K, .int .i64 0, .int .u8 1, .int .i64 0, .int .i64 5, .int .u8 2, .int .i64 181, .int .i64 0] 56)) n K x 0 (some ⟨W4.heap.size, 0, none⟩) 5 :=
      ⟨Row.mk (Blk.new W4 56 _) (Nat.le_refl _) (by unfold maxLen; omega) rfl rfl, Chg.new _ _ _, fresh_some (Nat.le_refl _)⟩
    have HCODE := Lib.hid hcode
    clear hE4 hEng4 hcode
    obtain ⟨i0, hi0, hz0, hz1, hz2⟩ := info_parts info56
    have H0i := Lib.hid (And.intro hi0 (And.intro hz0 (And.intro hz1 hz2)))
    clear hi0 hz0 hz1 hz2
    generalize W4.alloc (.cells #[.int .u8 12, .int .i64 n, .int .i64 0, .int .u8 1, .int .i64 0, .int .i64 x, .int .u8 14, .int .i64 K, .int .i64 0, .int .u8 1, .int .i64 0, .int .i64 5, .int .u8 2, .int .i64 181, .int .i64 0] 56) = W5 at *
    go_loopg [15, 71] n (fun m cv iv wr => ∃ i : Nat, i + m = n ∧ iv = .int .i64 i ∧ ∃ ad len c, cv = .slice ad len c ∧ Hid (len = 5 + i) ∧ Hid (CodeI W4 wr n K x i ad c))
    case atStart => exact ⟨0, by omega, rfl, _, _, _, rfl, Lib.hid rfl, HCODE⟩
    case round =>
      obtain ⟨i, hi, rfl, ad, len, c, rfl, HLEN, HCI⟩ := hrel
      have hlen : len ≤ 30 := by have := HLEN.out; omega
      rcases Nat.lt_or_ge i n with hlt | hge
      · have iwi : IntKind.i64.wrap ((i : Int) + 1) = (i : Int) + 1 := IntWalk.i64_in _ (by omega)
        have HI := Lib.hid hi
        have hrow : Row wr 56 3 ad len c ((dH n K x ++ dM i).flatMap I3.cells) := by have := HCI.out.row; rw [← HLEN.out] at this; exact this
        have HRow := Lib.hid hrow
        clear hi hrow
        go_wp2_with (at_builtin; refine wpList_append_row _ rfl _ _ 22 rfl 56 i0 _ 3 24 Tryz.underlying22 (H0i.out).1 (H0i.out).2.1 (H0i.out).2.2.1 (H0i.out).2.2.2 rfl (by decide) ad len c ((dH n K x ++ dM i).flatMap I3.cells) rfl (HRow.out.alloc _) (some ⟨wr.heap.size, 0, none⟩) 1 1 [.int .u8 13, .int .i64 i, .int .i64 0] rfl (Rd.of_blk (Blk.new wr 56 #[.int .u8 13, .int .i64 i, .int .i64 0])) rfl (icells_one ⟨13, i, 0⟩) (by unfold maxLen; omega) (by omega) ?_; intro ad3 c3 w3 hrow3 hch3 hat3; have HR3 := Lib.hid hrow3; have HC3 := Lib.hid hch3; have HT3 := Lib.hid hat3; clear hrow3 hch3 hat3)
        go_roundg (gk - 1)
        all_goals first | (have := HI.out; omega) | skip
        refine ⟨i + 1, by have := HI.out; omega, by simp, ad3, len + 1, c3, rfl, Lib.hid (by have := HLEN.out; omega), Lib.hid (HCI.out.step (Chg.new none_ _ _) HC3.out ?_ HT3.out)⟩
        rw [← HLEN.out]
        exact HR3.out
      · obtain rfl : i = n := by omega
        have HLEN2 := Lib.hid (show len = 5 + i from HLEN.out)
        have hrow : Row wr 56 3 ad len c ((dH i K x ++ dM i).flatMap I3.cells) := by have := HCI.out.row; rw [← HLEN.out] at this; exact this
        have HRow := Lib.hid hrow
        have HD2 := Lib.hid (fun W (hW : Chg none_ W4 W) b lc' (hr : Rd W (some ⟨b, 0, none⟩) ((dL i K x).flatMap I3.cells)) (hb : W4.heap.size ≤ b) => def2 i K x hpos hn16 hKn W B E4 (HE4.out.2.keep hW) b lc' hr (fun h => by have := (HE4.out.1 b h).2; omega))
        have HA2 := Lib.hid (fun W O (H : Eng W B (s3L i K x) O) => add2 i K x W B O H)
        have HPUT := Lib.hid (fun W O (H : Eng W B (sL i K x [] [] 0 0 0) O) lc' (hr : Rd W lad (ints y)) => put1 i K x W B O H lad lc' y hr HY.out hn16)
        have HEX := Lib.hid (fun W O (H : Eng W B (sL i K x [] y 0 0 0) O) => exec1 i K x y W B O H)
        have HALLS := Lib.hid (fun W O (H : Eng W B (sL i K x [] (y.set K x) 0 0 0) O) => eall1 i K x (y.set K x) (by rw [List.length_set]; exact HY.out) W B O H)
        have HDEP := Lib.hid (fun W O (H : Eng W B (sL i K x [] (y.set K x) 0 0 0) O) => depth1 i K x (y.set K x) W B O H)
        have HSETL := Lib.hid (show (y.set K x).length = i by rw [List.length_set]; exact HY.out)
        have HGF := Lib.hid (fun W s O (H : Eng W B s O) => getFrames_ok W B s O H)
        obtain ⟨i1, hi1, hy0, hy1, hy2⟩ := info_parts info33
        have H1i := Lib.hid (And.intro hi1 (And.intro hy0 (And.intro hy1 hy2)))
        clear hi1 hy0 hy1 hy2
        have pK0 : 0 ≤ (K : Int) := by omega
        have pK1 : (K : Int) < (i : Int) := by omega
        have hfield := field48
        have HGS := Lib.hid (fun W s O (H : Eng W B s O) => getState_ok W B s O H)
        have HGK := Lib.hid (fun W s O (H : Eng W B s O) => getStack_ok W B s O H)
        clear hrow hi
        unfold ptr at *
        go_wp2_with (first
          | (at_builtin; refine wpList_append_row _ rfl _ _ 22 rfl 56 i0 _ 3 24 Tryz.underlying22 (H0i.out).1 (H0i.out).2.1 (H0i.out).2.2.1 (H0i.out).2.2.2 rfl (by decide) ad len c ((dH i K x ++ dM i).flatMap I3.cells) rfl (HRow.out.alloc _) (some ⟨wr.heap.size, 0, none⟩) 1 1 [.int .u8 15, .int .i64 0, .int .i64 0] rfl (Rd.of_blk (Blk.new wr 56 #[.int .u8 15, .int .i64 0, .int .i64 0])) rfl (icells_one ⟨15, 0, 0⟩) (by unfold maxLen; omega) (by omega) ?_; intro ad3 c3 w3 hrow3 hch3 hat3
             obtain ⟨bq, rfl⟩ : ∃ bq, ad3 = some ⟨bq, 0, none⟩ := by
               rcases hrow3.form with ⟨_, h, _⟩ | ⟨bq, _, h, _⟩
               · omega
               · exact ⟨bq, h⟩
             have hl6 : len + 1 = i + 6 := by have := HLEN2.out; omega
             have hW3 : Chg none_ W4 w3 := (HCI.out.chg.trans (Chg.new none_ _ _)).trans' hch3 (fun q hq => .inr (HCI.out.new q hq))
             have hdl : (dL i K x).flatMap I3.cells = (dH i K x ++ dM i).flatMap I3.cells ++ [.int .u8 15, .int .i64 0, .int .i64 0] := by
               unfold dL
               rw [List.flatMap_append]
               rfl
             have hbq : W4.heap.size ≤ bq := by
               rcases hat3 bq ⟨_, rfl, rfl⟩ with h | h
               · exact HCI.out.new bq h
               · have := HCI.out.chg.size
                 rw [World.size_alloc] at h
                 omega
             have HRYF := Lib.hid (fun W s (hg : Goes B w3 E4 W s) => ((HR.out.chg HC4.out (fun _ _ h => h)).chg hW3 (fun _ _ h => h)).chg hg.chg (fun a ha hk => by
               obtain ⟨a', ha', hc'⟩ := HR.out (by have h5 := HY.out; rintro he; have h6 := ints_len y; rw [he] at h6; simp only [List.length_nil] at h6; omega)
               rw [ha] at ha'; injection ha' with ha'; subst ha'
               have h7 := (HE4.out.1 _ hk).1
               have h8 := HY.out
               obtain ⟨v, hv⟩ : ∃ v, y[0]? = some v := ⟨y[0]'(by omega), List.getElem?_eq_getElem (by omega)⟩
               have h9 := block_lt_of_cell (hc' 0 (.int .i64 v) (by simp [ints, hv]))
               rw [addr_add] at h9
               omega))
             have HDEF := Lib.hid (HD2.out w3 hW3 bq c3 (by rw [hdl]; exact hrow3.rd) hbq)
             have HW3 := Lib.hid hW3
             clear hrow3 hch3 hat3 hW3 hdl hbq)
          | (go_at_call 8; refine (HDEF.out).mono ?_; rintro e W6 ⟨rfl, hgo⟩; have HG6 := Lib.hid hgo; clear hgo)
          | (go_at_call 9; refine (HA2.out _ _ HG6.out.eng).mono ?_; rintro e W7 ⟨rfl, hgo⟩; have HG7 := Lib.hid (HG6.out.trans hgo); clear hgo)
          | (go_at_call 10; refine (HGS.out _ _ _ HG7.out.eng).mono ?_; rintro e w' ⟨rfl, rfl⟩)
          | (go_at_call 11; refine (HGK.out _ _ _ HG7.out.eng).mono ?_; rintro e w' ⟨rfl, rfl⟩)
          | (go_at_call 12; refine (HPUT.out _ _ HG7.out.eng _ (HRYF.out _ _ HG7.out)).mono ?_; rintro e W8 ⟨rfl, hgo⟩; have HG8 := Lib.hid (HG7.out.trans hgo); clear hgo)
          | (go_at_call 15; refine (HEX.out _ _ HG8.out.eng).mono ?_; rintro e W9 ⟨rfl, hgo⟩; have HG9 := Lib.hid (HG8.out.trans hgo); clear hgo
             obtain ⟨E9, hE9, hEng9⟩ : ∃ E : Nat → Prop, (∀ k, E k → w.heap.size ≤ k ∧ k < W9.heap.size) ∧ Eng W9 B (sL i K x [] y 0 0 182) E := by
               refine ⟨_, fun k hk => ⟨?_, hk.2⟩, HG9.out.eng.tight⟩
               have h2 := HC4.out.size
               have h3 := HW3.out.size
               rcases hk.1 with h | h
               · exact (HE4.out.1 k h).1
               · omega
             have HRUN := Lib.hid (fun W (hW : Chg none_ W9 W) => run1 i K x y HY.out hpos hn16 hKn W B E9 (hEng9.keep hW))
             have HE9 := Lib.hid hE9
             have HRY9 := Lib.hid (HRYF.out _ _ HG9.out)
             clear hE9 hEng9)
          | (at_builtin; refine wpList_append_row _ rfl _ _ 25 rfl 33 i1 _ 1 8 Tryz.underlying25 (H1i.out).1 (H1i.out).2.1 (H1i.out).2.2.1 (H1i.out).2.2.2 rfl (by decide) (some ⟨W9.heap.size, 0, none⟩) 0 0 [] rfl (Row.mk (Blk.new W9 33 #[]) (Nat.le_refl _) (by unfold maxLen; omega) rfl rfl) lad i cap (ints y) rfl (HRY9.out.chg (Chg.new none_ _ _) (fun _ _ h => h)) (by rw [ints_len, HY.out, Nat.mul_one]) (ints_one _) (by unfold maxLen; omega) (by omega) ?_; intro ad4 c4 w4 hrow4 hch4 hat4
             simp only [Nat.zero_add, List.nil_append] at hrow4
             obtain ⟨gw, rfl⟩ : ∃ gw, ad4 = some ⟨gw, 0, none⟩ := by
               rcases hrow4.form with ⟨_, h, _⟩ | ⟨gw, _, h, _⟩
               · omega
               · exact ⟨gw, h⟩
             have hgw : W9.heap.size ≤ gw := by
               rcases hat4 gw ⟨_, rfl, rfl⟩ with ⟨a, h, h'⟩ | h
               · injection h with h; subst h; simp only at h'; omega
               · rw [World.size_alloc] at h; omega
             have HC49 := Lib.hid ((Chg.new none_ W9 (.cells #[] 33)).trans' hch4 (fun q hq => by obtain ⟨a, h, h'⟩ := hq; injection h with h; subst h; exact .inr (Nat.le_of_eq h')))
             obtain ⟨v, hv⟩ : ∃ v, y[K]? = some v := ⟨y[K]'(by rw [HY.out]; exact hKn), List.getElem?_eq_getElem (by rw [HY.out]; exact hKn)⟩
             have hcell4 : w4.cell? ⟨gw, K, none⟩ = some (.int .i64 v) ∧ w4.frozen? ⟨gw, K, none⟩ = false := by
               obtain ⟨g', hg', hcl, hfz⟩ := hrow4.cell (j := K) (by rw [ints_len, HY.out]; exact hKn)
               injection hg' with hg'; injection hg' with hg' _ _; subst hg'
               refine ⟨?_, hfz⟩
               rw [hcl, ← List.getElem?_eq_getElem, ints, List.getElem?_map, hv]
               rfl
             obtain ⟨hc40, hf40⟩ := hcell4
             have hst4 := hrow4.stored (g := gw) (j := K) rfl (by rw [ints_len, HY.out]; exact hKn) (.int .i64 x)
             rw [show (ints y).set K (.int .i64 x) = ints (y.set K x) from by simp [ints, List.map_set]] at hst4
             have HST4 := Lib.hid hst4
             have HGW := Lib.hid hgw
             clear hrow4 hch4 hat4 hgw hv hst4)
          | (go_at_call 16; refine (HRUN.out _ (HC49.out.setR K HGW.out _)).mono ?_; rintro e W11 ⟨rfl, hgo⟩; have HG11 := Lib.hid hgo; clear hgo
             have HST11 := Lib.hid (HST4.out.chg HG11.out.chg (fun q hq hk => by obtain ⟨a, h, h'⟩ := hq; injection h with h; subst h; have := HGW.out; have := (HE9.out q hk).2; simp only at h'; omega)))
          | (go_at_call 10; refine (HGS.out _ _ _ HG11.out.eng).mono ?_; rintro e w' ⟨rfl, rfl⟩)
          | (go_at_call 11; refine (HGK.out _ _ _ HG11.out.eng).mono ?_; rintro e w' ⟨rfl, rfl⟩)
          | (go_at_call 22; refine (HALLS.out _ _ HG11.out.eng).mono ?_; rintro e W12 ⟨ad5, c5, rfl, hrow5, hc5⟩; have HR5 := Lib.hid hrow5; have HC5 := Lib.hid hc5; clear hrow5 hc5)
          | (go_at_call 21; refine (same1 _ _ i HSETL.out _ _ _ _ HR5.out (HST11.out.chg HC5.out (fun _ _ h => h)) (by omega)).mono ?_; rintro e W13 ⟨rfl, hc6⟩; have HC6 := Lib.hid hc6; have HEND := Lib.hid ((HG11.out.eng.keep HC5.out).keep hc6); clear hc6)
          | (go_at_call 13; refine (HGF.out _ _ _ HEND.out).mono ?_; rintro e w' ⟨rfl, rfl⟩)
          | (go_at_call 18; refine (HDEP.out _ _ HEND.out).mono ?_; rintro e w' ⟨rfl, rfl⟩))
        go_ret
        have f1 := (HC4.out.trans HW3.out).trans' HG9.out.chg (fun k hk => .inr (HE4.out.1 k hk).1)
        have f2 := f1.trans (HC49.out.setR K HGW.out (.int .i64 x))
        have f3 := f2.trans' HG11.out.chg (fun k hk => .inr (HE9.out k hk).1)
        exact ⟨rfl, (f3.trans HC5.out).trans HC6.out⟩
end Go.Proofs.YtgomjcnefadenaaGreatDoor
