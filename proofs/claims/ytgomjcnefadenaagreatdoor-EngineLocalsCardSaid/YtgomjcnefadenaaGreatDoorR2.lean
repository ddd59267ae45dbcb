/- rhytonref12.All. Conditions: each contract's own premises. -/
import Derived.Test.YtgomjcnefadenaaGreatDoorR1
namespace Go.Proofs.YtgomjcnefadenaaGreatDoor
open Go Go.RowKit

/-- A word that is there from the beginning. -/
structure Bt where
  nm : List UInt8
  k : Int
  n : Int
  now : Bool
  only : Bool
def Bt.cells (x : Bt) : List Value := [strV x.nm, .int .i64 x.k, .int .i64 x.n, .bool x.now, .bool x.only]
/-- What is asked of it. -/
def Bt.key (x : Bt) : List UInt8 × Int × Int := (x.nm, x.k, x.n)
/-- The first i words of a kind. -/
def keysOf (k i : Nat) : List (List UInt8 × Int × Int) := (((nms k).take i).zipIdx 0).map fun x => (x.1, (k : Int), (x.2 : Int) + 1)
/-- All words of the kinds before k. -/
def keysTo : Nat → List (List UInt8 × Int × Int)
  | 0 => []
  | 1 => []
  | k + 1 => keysTo k ++ keysOf k (nmN k)
theorem bcells_len (l : List Bt) : (l.flatMap Bt.cells).length = l.length * 5 := by
  induction l with
  | nil => rfl
  | cons x l ih => simp only [List.flatMap_cons, List.length_append, ih, List.length_cons, Bt.cells, List.length_nil]; omega
theorem bcells_one (x : Bt) : ∀ u ∈ x.cells, u.oneCell' = true := by
  intro u hu
  simp only [Bt.cells, List.mem_cons, List.not_mem_nil, or_false] at hu
  rcases hu with rfl | rfl | rfl | rfl | rfl <;> rfl
theorem keysOf_succ (k i : Nat) (l : List UInt8) (h : (nms k)[i]? = some l) : keysOf k (i + 1) = keysOf k i ++ [(l, (k : Int), (i : Int) + 1)] := by
  have hi : i < (nms k).length := by
    rcases Nat.lt_or_ge i (nms k).length with h1 | h1
    · exact h1
    · rw [List.getElem?_eq_none h1] at h; cases h
  rw [List.getElem?_eq_getElem hi] at h
  injection h with h
  unfold keysOf
  rw [List.take_succ_eq_append_getElem hi, h, List.zipIdx_append, List.map_append]
  simp [Nat.min_eq_left (Nat.le_of_lt hi)]
theorem nmN_le (k : Nat) : nmN k ≤ 107 := by
  unfold nmN
  split
  · omega
  split
  · omega
  split <;> omega

/-- What holds at the head of a round. -/
structure AllI (w wr : World) (K : List (List UInt8 × Int × Int)) (L : List Bt) (ad : Option Addr) (n c : Nat) : Prop where
  row : Row wr 66 5 ad n c (L.flatMap Bt.cells)
  len : L.length = n
  key : L.map Bt.key = K
  chg : Chg none_ w wr
  new : ∀ q, inB ad q → w.heap.size ≤ q

theorem AllI.step {w wr w1 w2 : World} {K : List (List UInt8 × Int × Int)} {L : List Bt} {ad ad2 : Option Addr} {n c c2 : Nat} (H : AllI w wr K L ad n c) (l : List UInt8) (k nn : Int) (b1 b2 : Bool) (hc : Chg none_ wr w1) (h2 : Chg (inB ad) w1 w2)
    (hr : Row w2 66 5 ad2 (n + 1) c2 (L.flatMap Bt.cells ++ [strV l, .int .i64 k, .int .i64 nn, .bool b1, .bool b2])) (hat : ∀ q, inB ad2 q → inB ad q ∨ q = w1.heap.size) : AllI w w2 (K ++ [(l, k, nn)]) (L ++ [⟨l, k, nn, b1, b2⟩]) ad2 (n + 1) c2 := by
  have s1 := H.chg.size
  have s2 := hc.size
  refine ⟨by simpa [Bt.cells] using hr, by simp [H.len], by simp [H.key, Bt.key], (H.chg.trans hc).trans' h2 (fun i hi => .inr (H.new i hi)), fun q hq => ?_⟩
  rcases hat q hq with h | h
  · exact H.new q h
  · omega

theorem rd_new1 (w : World) (o : Obj) (t : TypeId) (cs : Array Value) : Rd ((w.alloc o).alloc (.cells cs t)) (some ⟨w.heap.size + 1, 0, none⟩) cs.toList := by
  have := Rd.of_blk (Blk.new (w.alloc o) t cs)
  rw [World.size_alloc] at this
  exact this
/-- How many words there are of the kinds before k. -/
def tb (k : Nat) : Nat := if k = 1 then 0 else if k = 2 then 107 else if k = 3 then 116 else if k = 4 then 133 else 180

set_option maxRecDepth 100000 in
set_option maxHeartbeats 4000000 in
theorem rall_ok (w : World) : Calls Tryz.prog 25 #[] w fun e w' => ∃ L ad c, e = .returned (.slice ad 180 c) ∧ AllI w w' (keysTo 5) L ad 180 c := by
  have HN1 := Lib.hid (fun W => (show Calls Tryz.prog 41 #[.int .i64 1] W (fun e w' => e = .returned (.slice (some ⟨W.heap.size, 0, none⟩) 107 107) ∧ w' = W.alloc (.cells (nmV 1) 9)) from rnames1 W))
  have HN2 := Lib.hid (fun W => (show Calls Tryz.prog 41 #[.int .i64 2] W (fun e w' => e = .returned (.slice (some ⟨W.heap.size, 0, none⟩) 9 9) ∧ w' = W.alloc (.cells (nmV 2) 9)) from rnames2 W))
  have HN3 := Lib.hid (fun W => (show Calls Tryz.prog 41 #[.int .i64 3] W (fun e w' => e = .returned (.slice (some ⟨W.heap.size, 0, none⟩) 17 17) ∧ w' = W.alloc (.cells (nmV 3) 9)) from rnames3 W))
  have HN4 := Lib.hid (fun W => (show Calls Tryz.prog 41 #[.int .i64 4] W (fun e w' => e = .returned (.slice (some ⟨W.heap.size, 0, none⟩) 47 47) ∧ w' = W.alloc (.cells (nmV 4) 9)) from rnames4 W))
  have HNOW := Lib.hid rnow_ok
  have HONLY := Lib.hid ronly_ok
  go_enter Tryz.func25, Tryz.ntmps25
  go_wp2_with fail
  go_loopg [1, 2] 4 (fun m out kd wr => ∃ k : Nat, 1 ≤ k ∧ k + m = 5 ∧ kd = .int .i64 k ∧ ∃ L ad n c, out = .slice ad n c ∧ Hid (n = tb k) ∧ Hid (AllI w wr (keysTo k) L ad n c))
  case atStart => exact ⟨1, by omega, by omega, rfl, [], none, 0, 0, rfl, Lib.hid rfl, Lib.hid ⟨Row.nil _ _ _, rfl, rfl, Chg.refl _ _, fun q hq => by obtain ⟨a, h, _⟩ := hq; cases h⟩⟩
  case round =>
    obtain ⟨k, hk1, hk, rfl, L, ad, n, c, rfl, HN, HA⟩ := hrel
    have hk5 : k = 1 ∨ k = 2 ∨ k = 3 ∨ k = 4 ∨ k = 5 := by omega
    rcases hk5 with rfl | rfl | rfl | rfl | rfl
    · obtain ⟨mo, rfl⟩ : ∃ mo, gk = mo + 1 := ⟨gk - 1, by omega⟩
      have HMO := Lib.hid hk
      clear hk hk1
      obtain ⟨wo, rfl⟩ : ∃ wo : World, wo = wr := ⟨_, rfl⟩
      go_wp2_with (go_at_call 41; refine (HN1.out _).mono ?_; rintro e w' ⟨rfl, rfl⟩)
      have HB0 := Lib.hid (Blk.new wo 9 (nmV 1))
      have HA0 := Lib.hid (show AllI w (wo.alloc (.cells (nmV 1) 9)) (keysTo 1 ++ keysOf 1 0) L ad n c from ⟨HA.out.row.alloc _, HA.out.len, by rw [HA.out.key]; simp [keysOf], HA.out.chg.alloc _, HA.out.new⟩)
      generalize wo.alloc (.cells (nmV 1) 9) = W0 at *
      go_loopg [1, 4] 107 (fun m out iv w2 => ∃ i : Nat, i + m = 107 ∧ iv = .int .i64 i ∧ ∃ L ad n c, out = .slice ad n c ∧ Hid (n = 0 + i) ∧ Hid (AllI w w2 (keysTo 1 ++ keysOf 1 i) L ad n c) ∧ Hid (Blk w2 wo.heap.size 9 (nmV 1)))
      case atStart => exact ⟨0, by omega, rfl, L, ad, n, c, rfl, HN, HA0, HB0⟩
      case round =>
        obtain ⟨i, hi, rfl, L2, ad2, n2, c2, rfl, HN2x, HA2, HB2⟩ := hrel
        rename_i w2x
        rcases Nat.lt_or_ge i 107 with hlt | hge
        · have hil : i < (nms 1).length := by rw [nms_len]; exact hlt
          obtain ⟨l, hl⟩ : ∃ l, (nms 1)[i]? = some l := ⟨(nms 1)[i], List.getElem?_eq_getElem hil⟩
          obtain ⟨sv, hsv⟩ : ∃ sv : ByteArray, (⟨l.toArray⟩ : ByteArray) = sv := ⟨_, rfl⟩
          have hcell : wr.cell? ⟨wo.heap.size, i, none⟩ = some (.string sv) := by
            rw [HB2.out.cell, ← hsv]
            unfold nmV
            rw [List.getElem?_toArray, List.getElem?_map, hl]
            rfl
          have hn2 : n2 ≤ 300 := by have := HN2x.out; omega
          have iwi : IntKind.i64.wrap ((i : Int) + 1) = (i : Int) + 1 := IntWalk.i64_in _ (by omega)
          have HL := Lib.hid (And.intro hl hsv)
          have HI := Lib.hid hi
          have p0 : 0 ≤ (i : Int) := by omega
          have p1 : (i : Int) < 107 := by omega
          obtain ⟨i0, hi0, hz0, hz1, hz2⟩ := info_parts info66
          have H0i := Lib.hid (And.intro hi0 (And.intro hz0 (And.intro hz1 hz2)))
          clear hil hl hsv hi hi0 hz0 hz1 hz2
          go_wp2_with (first
            | (go_at_call 42; refine (HNOW.out _ _).mono ?_; rintro e w' ⟨⟨bn, rfl⟩, rfl⟩)
            | (go_at_call 43; refine (HONLY.out _ _).mono ?_; rintro e w' ⟨⟨bo, rfl⟩, rfl⟩)
            | (at_builtin; refine wpList_append_row _ rfl _ _ 63 rfl 66 i0 _ 5 40 Tryz.underlying63 (H0i.out).1 (H0i.out).2.1 (H0i.out).2.2.1 (H0i.out).2.2.2 rfl (by decide) ad2 n2 c2 (L2.flatMap Bt.cells) rfl ((HA2.out.row.alloc _).alloc _) (some ⟨wr.heap.size + 1, 0, none⟩) 1 1 _ rfl (rd_new1 wr _ 66 _) rfl (by simp [Value.oneCell']) (by unfold maxLen; omega) (by omega) ?_; intro ad3 c3 w3 hrow3 hch3 hat3; have HR3 := Lib.hid hrow3; have HC3 := Lib.hid hch3; have HT3 := Lib.hid hat3; clear hrow3 hch3 hat3))
          all_goals (go_roundg (gk - 1))
          all_goals first | (have := HI.out; omega) | skip
          all_goals
            obtain ⟨hl, rfl⟩ := HL.out
            have hst := HA2.out.step l 1 ((i : Int) + 1) _ _ ((Chg.new none_ _ _).alloc _) HC3.out HR3.out HT3.out
            have hky := keysOf_succ 1 i l hl
            rw [List.append_assoc, show [(l, (1 : Int), (i : Int) + 1)] = [(l, ((1 : Nat) : Int), (i : Int) + 1)] from rfl, ← hky] at hst
            exact ⟨i + 1, by have := HI.out; omega, by simp, _, ad3, n2 + 1, c3, rfl, Lib.hid (by have := HN2x.out; omega), Lib.hid hst, Lib.hid (((HB2.out.alloc _).alloc _).chg HC3.out (fun hk => HA2.out.row.neBlk HB2.out (by decide) hk rfl))⟩
        · obtain rfl : i = 107 := by omega
          go_wp2
          go_roundg mo
          all_goals first | (have := HMO.out; omega) | skip
          all_goals exact ⟨2, by omega, by have := HMO.out; omega, rfl, L2, ad2, n2, c2, rfl, Lib.hid HN2x.out, HA2⟩
    · obtain ⟨mo, rfl⟩ : ∃ mo, gk = mo + 1 := ⟨gk - 1, by omega⟩
      have HMO := Lib.hid hk
      clear hk hk1
      obtain ⟨wo, rfl⟩ : ∃ wo : World, wo = wr := ⟨_, rfl⟩
      go_wp2_with (go_at_call 41; refine (HN2.out _).mono ?_; rintro e w' ⟨rfl, rfl⟩)
      have HB0 := Lib.hid (Blk.new wo 9 (nmV 2))
      have HA0 := Lib.hid (show AllI w (wo.alloc (.cells (nmV 2) 9)) (keysTo 2 ++ keysOf 2 0) L ad n c from ⟨HA.out.row.alloc _, HA.out.len, by rw [HA.out.key]; simp [keysOf], HA.out.chg.alloc _, HA.out.new⟩)
      generalize wo.alloc (.cells (nmV 2) 9) = W0 at *
      go_loopg [1, 4] 9 (fun m out iv w2 => ∃ i : Nat, i + m = 9 ∧ iv = .int .i64 i ∧ ∃ L ad n c, out = .slice ad n c ∧ Hid (n = 107 + i) ∧ Hid (AllI w w2 (keysTo 2 ++ keysOf 2 i) L ad n c) ∧ Hid (Blk w2 wo.heap.size 9 (nmV 2)))
      case atStart => exact ⟨0, by omega, rfl, L, ad, n, c, rfl, HN, HA0, HB0⟩
      case round =>
        obtain ⟨i, hi, rfl, L2, ad2, n2, c2, rfl, HN2x, HA2, HB2⟩ := hrel
        rename_i w2x
        rcases Nat.lt_or_ge i 9 with hlt | hge
        · have hil : i < (nms 2).length := by rw [nms_len]; exact hlt
          obtain ⟨l, hl⟩ : ∃ l, (nms 2)[i]? = some l := ⟨(nms 2)[i], List.getElem?_eq_getElem hil⟩
          obtain ⟨sv, hsv⟩ : ∃ sv : ByteArray, (⟨l.toArray⟩ : ByteArray) = sv := ⟨_, rfl⟩
          have hcell : wr.cell? ⟨wo.heap.size, i, none⟩ = some (.string sv) := by
            rw [HB2.out.cell, ← hsv]
            unfold nmV
            rw [List.getElem?_toArray, List.getElem?_map, hl]
            rfl
          have hn2 : n2 ≤ 300 := by have := HN2x.out; omega
          have iwi : IntKind.i64.wrap ((i : Int) + 1) = (i : Int) + 1 := IntWalk.i64_in _ (by omega)
          have HL := Lib.hid (And.intro hl hsv)
          have HI := Lib.hid hi
          have p0 : 0 ≤ (i : Int) := by omega
          have p1 : (i : Int) < 9 := by omega
          obtain ⟨i0, hi0, hz0, hz1, hz2⟩ := info_parts info66
          have H0i := Lib.hid (And.intro hi0 (And.intro hz0 (And.intro hz1 hz2)))
          clear hil hl hsv hi hi0 hz0 hz1 hz2
          go_wp2_with (first
            | (go_at_call 42; refine (HNOW.out _ _).mono ?_; rintro e w' ⟨⟨bn, rfl⟩, rfl⟩)
            | (go_at_call 43; refine (HONLY.out _ _).mono ?_; rintro e w' ⟨⟨bo, rfl⟩, rfl⟩)
            | (at_builtin; refine wpList_append_row _ rfl _ _ 63 rfl 66 i0 _ 5 40 Tryz.underlying63 (H0i.out).1 (H0i.out).2.1 (H0i.out).2.2.1 (H0i.out).2.2.2 rfl (by decide) ad2 n2 c2 (L2.flatMap Bt.cells) rfl ((HA2.out.row.alloc _).alloc _) (some ⟨wr.heap.size + 1, 0, none⟩) 1 1 _ rfl (rd_new1 wr _ 66 _) rfl (by simp [Value.oneCell']) (by unfold maxLen; omega) (by omega) ?_; intro ad3 c3 w3 hrow3 hch3 hat3; have HR3 := Lib.hid hrow3; have HC3 := Lib.hid hch3; have HT3 := Lib.hid hat3; clear hrow3 hch3 hat3))
          all_goals (go_roundg (gk - 1))
          all_goals first | (have := HI.out; omega) | skip
          all_goals
            obtain ⟨hl, rfl⟩ := HL.out
            have hst := HA2.out.step l 2 ((i : Int) + 1) _ _ ((Chg.new none_ _ _).alloc _) HC3.out HR3.out HT3.out
            have hky := keysOf_succ 2 i l hl
            rw [List.append_assoc, show [(l, (2 : Int), (i : Int) + 1)] = [(l, ((2 : Nat) : Int), (i : Int) + 1)] from rfl, ← hky] at hst
            exact ⟨i + 1, by have := HI.out; omega, by simp, _, ad3, n2 + 1, c3, rfl, Lib.hid (by have := HN2x.out; omega), Lib.hid hst, Lib.hid (((HB2.out.alloc _).alloc _).chg HC3.out (fun hk => HA2.out.row.neBlk HB2.out (by decide) hk rfl))⟩
        · obtain rfl : i = 9 := by omega
          go_wp2
          go_roundg mo
          all_goals first | (have := HMO.out; omega) | skip
          all_goals exact ⟨3, by omega, by have := HMO.out; omega, rfl, L2, ad2, n2, c2, rfl, Lib.hid HN2x.out, HA2⟩
    · obtain ⟨mo, rfl⟩ : ∃ mo, gk = mo + 1 := ⟨gk - 1, by omega⟩
      have HMO := Lib.hid hk
      clear hk hk1
      obtain ⟨wo, rfl⟩ : ∃ wo : World, wo = wr := ⟨_, rfl⟩
      go_wp2_with (go_at_call 41; refine (HN3.out _).mono ?_; rintro e w' ⟨rfl, rfl⟩)
      have HB0 := Lib.hid (Blk.new wo 9 (nmV 3))
      have HA0 := Lib.hid (show AllI w (wo.alloc (.cells (nmV 3) 9)) (keysTo 3 ++ keysOf 3 0) L ad n c from ⟨HA.out.row.alloc _, HA.out.len, by rw [HA.out.key]; simp [keysOf], HA.out.chg.alloc _, HA.out.new⟩)
      generalize wo.alloc (.cells (nmV 3) 9) = W0 at *
      go_loopg [1, 4] 17 (fun m out iv w2 => ∃ i : Nat, i + m = 17 ∧ iv = .int .i64 i ∧ ∃ L ad n c, out = .slice ad n c ∧ Hid (n = 116 + i) ∧ Hid (AllI w w2 (keysTo 3 ++ keysOf 3 i) L ad n c) ∧ Hid (Blk w2 wo.heap.size 9 (nmV 3)))
      case atStart => exact ⟨0, by omega, rfl, L, ad, n, c, rfl, HN, HA0, HB0⟩
      case round =>
        obtain ⟨i, hi, rfl, L2, ad2, n2, c2, rfl, HN2x, HA2, HB2⟩ := hrel
        rename_i w2x
        rcases Nat.lt_or_ge i 17 with hlt | hge
        · have hil : i < (nms 3).length := by rw [nms_len]; exact hlt
          obtain ⟨l, hl⟩ : ∃ l, (nms 3)[i]? = some l := ⟨(nms 3)[i], List.getElem?_eq_getElem hil⟩
          obtain ⟨sv, hsv⟩ : ∃ sv : ByteArray, (⟨l.toArray⟩ : ByteArray) = sv := ⟨_, rfl⟩
          have hcell : wr.cell? ⟨wo.heap.size, i, none⟩ = some (.string sv) := by
            rw [HB2.out.cell, ← hsv]
            unfold nmV
            rw [List.getElem?_toArray, List.getElem?_map, hl]
            rfl
          have hn2 : n2 ≤ 300 := by have := HN2x.out; omega
          have iwi : IntKind.i64.wrap ((i : Int) + 1) = (i : Int) + 1 := IntWalk.i64_in _ (by omega)
          have HL := Lib.hid (And.intro hl hsv)
          have HI := Lib.hid hi
          have p0 : 0 ≤ (i : Int) := by omega
          have p1 : (i : Int) < 17 := by omega
          obtain ⟨i0, hi0, hz0, hz1, hz2⟩ := info_parts info66
          have H0i := Lib.hid (And.intro hi0 (And.intro hz0 (And.intro hz1 hz2)))
          clear hil hl hsv hi hi0 hz0 hz1 hz2
          go_wp2_with (first
            | (go_at_call 42; refine (HNOW.out _ _).mono ?_; rintro e w' ⟨⟨bn, rfl⟩, rfl⟩)
            | (go_at_call 43; refine (HONLY.out _ _).mono ?_; rintro e w' ⟨⟨bo, rfl⟩, rfl⟩)
            | (at_builtin; refine wpList_append_row _ rfl _ _ 63 rfl 66 i0 _ 5 40 Tryz.underlying63 (H0i.out).1 (H0i.out).2.1 (H0i.out).2.2.1 (H0i.out).2.2.2 rfl (by decide) ad2 n2 c2 (L2.flatMap Bt.cells) rfl ((HA2.out.row.alloc _).alloc _) (some ⟨wr.heap.size + 1, 0, none⟩) 1 1 _ rfl (rd_new1 wr _ 66 _) rfl (by simp [Value.oneCell']) (by unfold maxLen; omega) (by omega) ?_; intro ad3 c3 w3 hrow3 hch3 hat3; have HR3 := Lib.hid hrow3; have HC3 := Lib.hid hch3; have HT3 := Lib.hid hat3; clear hrow3 hch3 hat3))
          all_goals (go_roundg (gk - 1))
          all_goals first | (have := HI.out; omega) | skip
          all_goals
            obtain ⟨hl, rfl⟩ := HL.out
            have hst := HA2.out.step l 3 ((i : Int) + 1) _ _ ((Chg.new none_ _ _).alloc _) HC3.out HR3.out HT3.out
            have hky := keysOf_succ 3 i l hl
            rw [List.append_assoc, show [(l, (3 : Int), (i : Int) + 1)] = [(l, ((3 : Nat) : Int), (i : Int) + 1)] from rfl, ← hky] at hst
            exact ⟨i + 1, by have := HI.out; omega, by simp, _, ad3, n2 + 1, c3, rfl, Lib.hid (by have := HN2x.out; omega), Lib.hid hst, Lib.hid (((HB2.out.alloc _).alloc _).chg HC3.out (fun hk => HA2.out.row.neBlk HB2.out (by decide) hk rfl))⟩
        · obtain rfl : i = 17 := by omega
          go_wp2
          go_roundg mo
          all_goals first | (have := HMO.out; omega) | skip
          all_goals exact ⟨4, by omega, by have := HMO.out; omega, rfl, L2, ad2, n2, c2, rfl, Lib.hid HN2x.out, HA2⟩
    · obtain ⟨mo, rfl⟩ : ∃ mo, gk = mo + 1 := ⟨gk - 1, by omega⟩
      have HMO := Lib.hid hk
      clear hk hk1
      obtain ⟨wo, rfl⟩ : ∃ wo : World, wo = wr := ⟨_, rfl⟩
      go_wp2_with (go_at_call 41; refine (HN4.out _).mono ?_; rintro e w' ⟨rfl, rfl⟩)
      have HB0 := Lib.hid (Blk.new wo 9 (nmV 4))
      have HA0 := Lib.hid (show AllI w (wo.alloc (.cells (nmV 4) 9)) (keysTo 4 ++ keysOf 4 0) L ad n c from ⟨HA.out.row.alloc _, HA.out.len, by rw [HA.out.key]; simp [keysOf], HA.out.chg.alloc _, HA.out.new⟩)
      generalize wo.alloc (.cells (nmV 4) 9) = W0 at *
      go_loopg [1, 4] 47 (fun m out iv w2 => ∃ i : Nat, i + m = 47 ∧ iv = .int .i64 i ∧ ∃ L ad n c, out = .slice ad n c ∧ Hid (n = 133 + i) ∧ Hid (AllI w w2 (keysTo 4 ++ keysOf 4 i) L ad n c) ∧ Hid (Blk w2 wo.heap.size 9 (nmV 4)))
      case atStart => exact ⟨0, by omega, rfl, L, ad, n, c, rfl, HN, HA0, HB0⟩
      case round =>
        obtain ⟨i, hi, rfl, L2, ad2, n2, c2, rfl, HN2x, HA2, HB2⟩ := hrel
        rename_i w2x
        rcases Nat.lt_or_ge i 47 with hlt | hge
        · have hil : i < (nms 4).length := by rw [nms_len]; exact hlt
          obtain ⟨l, hl⟩ : ∃ l, (nms 4)[i]? = some l := ⟨(nms 4)[i], List.getElem?_eq_getElem hil⟩
          obtain ⟨sv, hsv⟩ : ∃ sv : ByteArray, (⟨l.toArray⟩ : ByteArray) = sv := ⟨_, rfl⟩
          have hcell : wr.cell? ⟨wo.heap.size, i, none⟩ = some (.string sv) := by
            rw [HB2.out.cell, ← hsv]
            unfold nmV
            rw [List.getElem?_toArray, List.getElem?_map, hl]
            rfl
          have hn2 : n2 ≤ 300 := by have := HN2x.out; omega
          have iwi : IntKind.i64.wrap ((i : Int) + 1) = (i : Int) + 1 := IntWalk.i64_in _ (by omega)
          have HL := Lib.hid (And.intro hl hsv)
          have HI := Lib.hid hi
          have p0 : 0 ≤ (i : Int) := by omega
          have p1 : (i : Int) < 47 := by omega
          obtain ⟨i0, hi0, hz0, hz1, hz2⟩ := info_parts info66
          have H0i := Lib.hid (And.intro hi0 (And.intro hz0 (And.intro hz1 hz2)))
          clear hil hl hsv hi hi0 hz0 hz1 hz2
          go_wp2_with (first
            | (go_at_call 42; refine (HNOW.out _ _).mono ?_; rintro e w' ⟨⟨bn, rfl⟩, rfl⟩)
            | (go_at_call 43; refine (HONLY.out _ _).mono ?_; rintro e w' ⟨⟨bo, rfl⟩, rfl⟩)
            | (at_builtin; refine wpList_append_row _ rfl _ _ 63 rfl 66 i0 _ 5 40 Tryz.underlying63 (H0i.out).1 (H0i.out).2.1 (H0i.out).2.2.1 (H0i.out).2.2.2 rfl (by decide) ad2 n2 c2 (L2.flatMap Bt.cells) rfl ((HA2.out.row.alloc _).alloc _) (some ⟨wr.heap.size + 1, 0, none⟩) 1 1 _ rfl (rd_new1 wr _ 66 _) rfl (by simp [Value.oneCell']) (by unfold maxLen; omega) (by omega) ?_; intro ad3 c3 w3 hrow3 hch3 hat3; have HR3 := Lib.hid hrow3; have HC3 := Lib.hid hch3; have HT3 := Lib.hid hat3; clear hrow3 hch3 hat3))
          all_goals (go_roundg (gk - 1))
          all_goals first | (have := HI.out; omega) | skip
          all_goals
            obtain ⟨hl, rfl⟩ := HL.out
            have hst := HA2.out.step l 4 ((i : Int) + 1) _ _ ((Chg.new none_ _ _).alloc _) HC3.out HR3.out HT3.out
            have hky := keysOf_succ 4 i l hl
            rw [List.append_assoc, show [(l, (4 : Int), (i : Int) + 1)] = [(l, ((4 : Nat) : Int), (i : Int) + 1)] from rfl, ← hky] at hst
            exact ⟨i + 1, by have := HI.out; omega, by simp, _, ad3, n2 + 1, c3, rfl, Lib.hid (by have := HN2x.out; omega), Lib.hid hst, Lib.hid (((HB2.out.alloc _).alloc _).chg HC3.out (fun hk => HA2.out.row.neBlk HB2.out (by decide) hk rfl))⟩
        · obtain rfl : i = 47 := by omega
          go_wp2
          go_roundg mo
          all_goals first | (have := HMO.out; omega) | skip
          all_goals exact ⟨5, by omega, by have := HMO.out; omega, rfl, L2, ad2, n2, c2, rfl, Lib.hid HN2x.out, HA2⟩
    · go_wp2
      go_ret
      obtain rfl : n = 180 := HN.out
      exact ⟨L, ad, c, rfl, HA.out⟩
end Go.Proofs.YtgomjcnefadenaaGreatDoor
