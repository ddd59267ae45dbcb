/- The frames' iterator 'down' and the functions that range over it. Conditions: each contract's own premises. -/
import Derived.RangeFuncNested
import Derived.RangeFuncBound
import Derived.RangeFuncCalls
import Derived.RangeFuncLeaves
import Derived.Shelf.Abstract
import Derived.Shelf.RegionOpen
import Derived.WalkKit
import Derived.OwnWalkIn
import Derived.TacticsInMore
import Derived.LoopNIn
import Derived.LoopIn
import Derived.Test.YtgomjcnefadenaaGreatDoorF2
namespace Go.Proofs.YtgomjcnefadenaaGreatDoor
open Go Go.RowKit Go.Shelf
attribute [local go_sem] Oper.semAt_some

/-- The first k of the places n - 1, n - 2, .. -/
def dn (n k : Nat) : List Nat := (List.range k).map (fun j => n - 1 - j)
theorem dn_succ (n k : Nat) : dn n (k + 1) = dn n k ++ [n - 1 - k] := by simp [dn, List.range_succ]
theorem dn_length (n k : Nat) : (dn n k).length = k := by simp [dn]

theorem depth_cell (w : World) (fr : Nat) (ad : Option Addr) (n c : Nat) (hc : w.cell? ⟨fr, 0, none⟩ = some (.slice ad n c)) :
    Calls Tryz.prog 18 #[.pointer (some ⟨fr, 0, none⟩)] w fun e w' => e = .returned (.int .i64 n) ∧ w = w' := by
  go_enter Tryz.func18, Tryz.ntmps18
  go_wp2
  go_ret
  exact ⟨rfl, rfl⟩

/-- What the iterator hands on at place i of m (whatever i is: no place beyond the last). -/
def encD (g m : Nat) (i : Nat) : Array Value := #[.int .i64 ((min i (m - 1) : Nat) : Int), .pointer (some ⟨g, (min i (m - 1)) * 6, none⟩)]
theorem encD_in (g m i : Nat) (h : i < m) : encD g m i = #[.int .i64 (i : Int), .pointer (some ⟨g, i * 6, none⟩)] := by
  unfold encD
  rw [Nat.min_eq_left (by omega)]

set_option maxRecDepth 100000 in
set_option maxHeartbeats 2000000 in
theorem down1_in (n : Nat) (hn : 1 ≤ n) (l Bs n₀ fr g m c : Nat) (ad : Option Addr) (had : 0 < m → ad = some ⟨g, 0, none⟩) (hm : m ≤ 128) (hf : fr < n₀) (hB : Bs < n₀) (J Jx : List Nat → World → Prop)
    (hY : ∀ pre x W, J pre W → pre.length < m → YieldAt Fence.wide (n - 1) Tryz.prog l (encD g m x) W fun e W' =>
      (e = .returned (.bool true) ∧ J (pre ++ [x]) W' ∧ Below n₀ W W') ∨ (e = .returned (.bool false) ∧ Jx (pre ++ [x]) W'))
    (W : World) (hBs : W.cell? ⟨Bs, 0, none⟩ = some (.pointer (some ⟨fr, 0, none⟩))) (hc : W.cell? ⟨fr, 0, none⟩ = some (.slice ad m c)) (h0 : J [] W) :
    CallsIn Fence.wide n Tryz.prog 130 #[.func (.yield l) #[] #[], .pointer (some ⟨Bs, 0, none⟩)] W fun e W' => (∃ v, e = .returned v) ∧
      ((∃ ys, ys = dn m m ∧ J ys W') ∨ (∃ pre, (∃ k, k < m ∧ pre = dn m (k + 1)) ∧ Jx pre W')) := by
  refine callsIn_of_wp Tryz.func130 rfl trivial ?_ rfl
  simp only [Tryz.ntmps130, List.size_toArray, List.length_cons, List.length_nil, Nat.reduceAdd, Nat.reduceSub, Array.replicate_succ, Array.replicate_zero, List.push_toArray, List.append_toArray, List.nil_append, List.cons_append]
  have HD := Lib.hid (depth_cell W fr _ m c hc)
  have HAD := Lib.hid had
  clear had
  gi_wp2_with (refine ⟨trivial, ?_⟩; gi_at_call 18; refine (callsIn_wide.2 HD.out).mono ?_; rintro e w' ⟨rfl, rfl⟩)
  gi_loopw [3] (fun i wr => ((∃ q k : Nat, q + k + 1 = m ∧ i = .int .i64 q ∧ J (dn m k) wr) ∨ (i = .int .i64 (-1) ∧ J (dn m m) wr)) ∧ Below n₀ W wr)
    (fun i _ => (intOf i + 1).toNat)
  case atStart =>
    refine ⟨?_, Below.refl _ _⟩
    rcases Nat.eq_zero_or_pos m with rfl | hp
    · exact .inr ⟨rfl, h0⟩
    · refine .inl ⟨m - 1, 0, by omega, ?_, h0⟩
      congr 1
      omega
  case round =>
    obtain ⟨hrel, hnx⟩ := hrel
    have hBs' := (hnx.cell (p := ⟨Bs, 0, none⟩) hB).trans hBs
    have hc' := (hnx.cell (p := ⟨fr, 0, none⟩) hf).trans hc
    rcases hrel with ⟨q, k, hqk, rfl, hJs⟩ | ⟨rfl, hJs⟩
    · obtain rfl := HAD.out (by omega)
      obtain ⟨fn, tmps, assign, body, hy, hR⟩ := hY _ q wr hJs (by rw [dn_length]; omega)
      have hq : m - 1 - k = q := by omega
      have hdn := dn_succ m k
      rw [hq] at hdn
      have HDN := Lib.hid hdn
      have HQK := Lib.hid hqk
      have hqm : (q : Int) < (m : Int) := by omega
      have hqm2 : q < m := by omega
      clear hdn hqk hq
      rw [encD_in g m q hqm2] at hy
      gi_wp2
      refine hR.mono ?_
      rintro e W3 (⟨rfl, hJ3, hk3⟩ | ⟨rfl, hJx3⟩)
      · gi_wp2
        go_roundw
        case rel =>
          refine ⟨?_, hnx.trans hk3⟩
          have hqk := HQK.out
          rw [← HDN.out] at hJ3
          rcases Nat.eq_zero_or_pos q with rfl | hp
          · obtain rfl : k + 1 = m := by omega
            exact .inr ⟨rfl, hJ3⟩
          · refine .inl ⟨q - 1, k + 1, by omega, ?_, hJ3⟩
            congr 1
            omega
        case measure => simp [intOf]
      · gi_wp2
        refine bodyPost_ret (results_none rfl _ _ _) rfl ?_
        have hqk := HQK.out
        exact ⟨⟨_, rfl⟩, .inr ⟨_, ⟨k, by omega, HDN.out.symm⟩, hJx3⟩⟩
    · gi_wp2
      go_end0
      exact ⟨⟨_, rfl⟩, .inl ⟨_, rfl, hJs⟩⟩

theorem down_in (n : Nat) (fr : Nat) (w : World) : CallsIn Fence.wide n Tryz.prog 97 #[.pointer (some ⟨fr, 0, none⟩)] w fun e w' =>
    e = .returned (.func (.func 130) #[] #[.pointer (some ⟨w.heap.size, 0, none⟩)]) ∧ w' = w.alloc (.cells #[.pointer (some ⟨fr, 0, none⟩)] 41) := by
  refine callsIn_of_wp Tryz.func97 rfl trivial ?_ rfl
  simp only [Tryz.ntmps97, List.size_toArray, List.length_cons, List.length_nil, Nat.reduceAdd, Nat.reduceSub, Array.replicate_succ, Array.replicate_zero, List.push_toArray, List.append_toArray, List.nil_append, List.cons_append]
  gi_wp2
  go_ret
  exact ⟨rfl, rfl⟩

theorem down_stops (n : Nat) (hn : 1 ≤ n) (Bs n₀ fr g m c : Nat) (ad : Option Addr) (had : 0 < m → ad = some ⟨g, 0, none⟩) (hm : m ≤ 128) (hf : fr < n₀) (hB : Bs < n₀) (w : World) (hn₀ : n₀ ≤ w.heap.size)
    (hBs : w.cell? ⟨Bs, 0, none⟩ = some (.pointer (some ⟨fr, 0, none⟩))) (hc : w.cell? ⟨fr, 0, none⟩ = some (.slice ad m c)) :
    SeqStopsK Fence.wide n Tryz.prog 130 #[.pointer (some ⟨Bs, 0, none⟩)] (encD g m) (Below n₀) (fun ys => ys = dn m m) (fun pre => ∃ k, k < m ∧ pre = dn m (k + 1)) m w := fun l J Jx W hW _ _ hY h0 =>
  down1_in n hn l Bs n₀ fr g m c ad had hm hf hB J Jx hY W ((hW.cell (p := ⟨Bs, 0, none⟩) (by show Bs < _; omega)).trans hBs) ((hW.cell (p := ⟨fr, 0, none⟩) (by show fr < _; omega)).trans hc) h0

set_option maxRecDepth 100000 in
set_option maxHeartbeats 2000000 in
/-- upper: the uppermost frame, if it is of the kind. -/
theorem upper_some (w : World) (fr : Nat) (c : Nat) (fs : List Frm) (f : Frm) (g : Nat) (h : Frs w fr (some ⟨g, 0, none⟩) c (fs ++ [f])) (k : Int) :
    Calls Tryz.prog 96 #[.pointer (some ⟨fr, 0, none⟩), .int .i64 k] w fun e w' => e = .returned (.pointer (if f.k = k then some ⟨g, fs.length * 6, none⟩ else none)) ∧ Below w.heap.size w w' := by
  have hk0 : ∀ i, i < fs.length + 1 → ∃ f', (fs ++ [f])[i]? = some f' ∧ w.cell? ⟨g, i * 6, none⟩ = some (.int .i64 f'.k) := fun i hi => by
    have hi' : i < (fs ++ [f]).length := by simp; omega
    obtain ⟨g', he, hcg, _, _, _⟩ := h.at (i := i) (f := (fs ++ [f])[i]) (List.getElem?_eq_getElem hi')
    injection he with he; injection he with he _ _; subst he
    exact ⟨_, List.getElem?_eq_getElem hi', hcg 0 (by omega)⟩
  have hg : g < w.heap.size := h.row.lt ⟨_, rfl, rfl⟩
  have hc0 : w.cell? ⟨fr, 0, none⟩ = some (.slice (some ⟨g, 0, none⟩) (fs.length + 1) c) := by have := h.blk.cell 0; simpa using this
  have hl : fs.length + 1 ≤ 128 := by have := h.le; simpa using this
  have hfr := h.blk.lt
  clear h
  refine (callsIn_wide (n := 3)).1 ?_
  refine callsIn_of_wp_marks Tryz.func96 rfl trivial ?_ rfl
  simp only [Tryz.ntmps96, List.size_toArray, List.length_cons, List.length_nil, Nat.reduceAdd, Nat.reduceSub, Array.replicate_succ, Array.replicate_zero, List.push_toArray, List.append_toArray, List.nil_append, List.cons_append]
  gi_wp2_with (refine ⟨trivial, ?_⟩; gi_at_call 97; refine (down_in _ _ _).mono ?_; rintro e w' ⟨rfl, rfl⟩)
  have b0 := ((Blk.new w 3 #[.int .i64 k]).alloc (.cells #[.pointer none] 151)).alloc (.cells #[.pointer (some ⟨fr, 0, none⟩)] 41)
  have b1 := (Blk.new (w.alloc (.cells #[.int .i64 k] 3)) 151 #[.pointer none]).alloc (.cells #[.pointer (some ⟨fr, 0, none⟩)] 41)
  have b2 := Blk.new ((w.alloc (.cells #[.int .i64 k] 3)).alloc (.cells #[.pointer none] 151)) 41 #[.pointer (some ⟨fr, 0, none⟩)]
  simp only [World.size_alloc] at b1 b2
  have hB0 : Below w.heap.size w (((w.alloc (.cells #[.int .i64 k] 3)).alloc (.cells #[.pointer none] 151)).alloc (.cells #[.pointer (some ⟨fr, 0, none⟩)] 41)) := (((Below.refl _ w).alloc (Nat.le_refl _) _).alloc (by simp) _).alloc (by simp; omega) _
  obtain ⟨W0, hW0⟩ : ∃ W0, ((w.alloc (.cells #[.int .i64 k] 3)).alloc (.cells #[.pointer none] 151)).alloc (.cells #[.pointer (some ⟨fr, 0, none⟩)] 41) = W0 := ⟨_, rfl⟩
  have hs0 : W0.heap.size = w.heap.size + 3 := by rw [← hW0]; simp
  rw [hW0] at b0 b1 b2 hB0 ⊢
  have d0 : W0.cell? ⟨w.heap.size, 0, none⟩ = some (.int .i64 k) := b0.cell 0
  have d1 : W0.cell? ⟨w.heap.size + 1, 0, none⟩ = some (.pointer none) := b1.cell 0
  have e1 : W0.frozen? ⟨w.heap.size + 1, 0, none⟩ = false := b1.frozen 0
  have d2 : W0.cell? ⟨w.heap.size + 1 + 1, 0, none⟩ = some (.pointer (some ⟨fr, 0, none⟩)) := b2.cell 0
  clear b0 b1 b2 hW0
  have d3 : W0.cell? ⟨fr, 0, none⟩ = some (.slice (some ⟨g, 0, none⟩) (fs.length + 1) c) := (hB0.cell (p := ⟨fr, 0, none⟩) hfr).trans hc0
  refine wpIn_rangeFunc_ownF rfl (by omega) (gf := 130) (lb := #[.pointer (some ⟨w.heap.size + 1 + 1, 0, none⟩)]) rfl trivial (enters_of Tryz.func130 (by kernel_rfl) rfl)
    (down_stops 2 (by omega) (w.heap.size + 1 + 1) (w.heap.size + 3) fr g (fs.length + 1) c _ (fun _ => rfl) hl (by omega) (by omega) W0 (by omega) d2 d3) belowK_t (belowK_b (by omega)) (Below.refl _ _) (fun _ => rfl)
    (fun pre W => pre = [] ∧ Below (w.heap.size + 3) W0 W)
    (fun c pre W => (c = .ret ∧ (∃ x f', pre = [x] ∧ (fs ++ [f])[min x fs.length]? = some f' ∧ f'.k = k ∧ W.cell? ⟨w.heap.size + 1, 0, none⟩ = some (.pointer (some ⟨g, min x fs.length * 6, none⟩))) ∧ Below w.heap.size w W) ∨ (c = .exit 0 ∧ (∃ x f', pre = [x] ∧ (fs ++ [f])[min x fs.length]? = some f' ∧ ¬ f'.k = k) ∧ Below (w.heap.size + 3) W0 W))
    ?hI ?hIx ⟨rfl, Below.refl _ _⟩
    (fun x => { tmps := #[.pointer (some ⟨fr, 0, none⟩), .int .i64 k, undef, .pointer (some ⟨w.heap.size, 0, none⟩), .pointer (some ⟨w.heap.size + 1, 0, none⟩), undef, .pointer (some ⟨g, min x fs.length * 6, none⟩), .pointer (some ⟨fr, 0, none⟩), .func (.func 130) #[] #[.pointer (some ⟨w.heap.size + 1 + 1, 0, none⟩)], .int .i64 ((min x fs.length : Nat) : Int), .pointer (some ⟨g, min x fs.length * 6, none⟩), undef, undef, undef, undef, undef, undef, undef], defers := [] }) ?assign ?body ?done ?stop
  case hI => exact OwnFrom.and (ownFrom_pure _ (fun pre => pre = [])) (ownFrom_below (by omega) (by omega))
  case hIx =>
    intro c s A B row hs hg hr
    rcases hs with ⟨rfl, ⟨x, f', h1, h2, h3, h4⟩, hb⟩ | ⟨rfl, hx, hb⟩
    · exact .inl ⟨rfl, ⟨x, f', h1, h2, h3, cell_kept h4 hg (fun r e => (hr r e).2)⟩, ownFrom_below (β := Unit) (Nat.le_refl _) (by omega) () A B row hb hg hr⟩
    · exact .inr ⟨rfl, hx, ownFrom_below (β := Unit) (by omega) (by omega) () A B row hb hg hr⟩
  case assign =>
    intro l x W K hK
    have he : encD g (fs.length + 1) x = #[.int .i64 ((min x fs.length : Nat) : Int), .pointer (some ⟨g, min x fs.length * 6, none⟩)] := by simp [encD]
    rw [he]
    gi_wp2
    exact hK
  case body =>
    rintro l pre x W ⟨rfl, hB⟩ _
    obtain ⟨f', hf', hkc⟩ := hk0 (min x fs.length) (by omega)
    have HF := Lib.hid hf'
    clear hf'
    have a0 := (hB.cell (p := ⟨w.heap.size, 0, none⟩) (by show w.heap.size < _; omega)).trans d0
    have a1 := (hB.cell (p := ⟨w.heap.size + 1, 0, none⟩) (by show w.heap.size + 1 < _; omega)).trans d1
    have a2 := (hB.frozen (p := ⟨w.heap.size + 1, 0, none⟩) (by show w.heap.size + 1 < _; omega)).trans e1
    have a3 := (hB.cell (p := ⟨g, min x fs.length * 6, none⟩) (by show g < _; omega)).trans ((hB0.cell (p := ⟨g, min x fs.length * 6, none⟩) hg).trans hkc)
    have hwb := hB0.trans (hB.mono (by omega))
    have hmx : Tryz.prog.follows .mixedOrders = true := by kernel_rfl
    by_cases hk : f'.k = k
    · have hkb : (f'.k == k) = true := by simp [hk]
      have HK := Lib.hid hk
      clear hk
      gi_wp2
      gi_region_o
      all_goals gi_wp2
      all_goals exact ⟨(KeepsOthers.drew _).trans (KeepsOthers.setCell _ _ _), .inl ⟨rfl, ⟨x, f', rfl, HF.out, HK.out, World.cell?_setCell_same' _ _ _ (by show (W.cell? _).isSome = true; rw [a1]; rfl)⟩, hwb.drew.setCell (p := ⟨w.heap.size + 1, 0, none⟩) (by simp) _⟩⟩
    · have hkb : (f'.k == k) = false := by simp [hk]
      have HK := Lib.hid hk
      clear hk
      gi_wp2
      gi_region_o
      all_goals gi_wp2
      all_goals exact ⟨KeepsOthers.drew _, .inr ⟨rfl, ⟨x, f', rfl, HF.out, HK.out⟩, hB.drew⟩⟩
  case done =>
    rintro D ys W hD rfl ⟨h0, _⟩ hK
    exfalso
    have := congrArg List.length h0
    rw [dn_length] at this
    simp at this
  case stop =>
    rintro D c pre W hD hpre hx hK
    obtain ⟨k', hk', hpk⟩ := hpre
    have hlast : ∀ x, pre = [x] → min x fs.length = fs.length := fun x hx => by
      have hlen := congrArg List.length (hpk.symm.trans hx)
      rw [dn_length] at hlen
      simp only [List.length_cons, List.length_nil, Nat.zero_add] at hlen
      obtain rfl : k' = 0 := by omega
      rw [hx] at hpk
      simp [dn] at hpk
      omega
    rcases hx with ⟨rfl, ⟨x, f', h1, h2, h3, h4⟩, hb⟩ | ⟨rfl, ⟨x, f', h1, h2, h3⟩, hb⟩
    · have hm := hlast x h1
      rw [hm] at h2 h4
      have hff : f' = f := by simpa using h2.symm
      subst hff
      clear hlast hk0 hpk
      gi_wp2
      refine ⟨by simp, .inl ⟨_, _, rfl, run_takeDeferred hK, ?_⟩⟩
      have hc5 := cell_kept h4 (grownBy_putObj' _ D (.deferred none)) (fun r e => by cases e; exact ⟨_, hK, rfl⟩)
      refine ⟨.pointer (some ⟨g, fs.length * 6, none⟩), ?_, rfl, hb.trans (belowK_b (w := w) (Nat.le_refl _) W D _ _ (by omega) hK rfl rfl)⟩
      simp [results, Tryz.f96, go_sem, hc5]
    · have hm := hlast x h1
      rw [hm] at h2
      have hff : f' = f := by simpa using h2.symm
      subst hff
      have hwb := hB0.trans (hb.mono (by omega))
      have a1 := (hb.cell (p := ⟨w.heap.size + 1, 0, none⟩) (by show w.heap.size + 1 < _; omega)).trans d1
      have a2 := (hb.frozen (p := ⟨w.heap.size + 1, 0, none⟩) (by show w.heap.size + 1 < _; omega)).trans e1
      have H3 := Lib.hid h3
      clear hlast hk0 hpk h3 h2 hm h1
      gi_wp2
      have hK' := (KeepsOthers.setCell W ⟨w.heap.size + 1, 0, none⟩ (.pointer none)).same D _ hK rfl
      refine ⟨by simp, .inl ⟨_, _, rfl, run_takeDeferred hK', ?_⟩⟩
      have hc5 := cell_kept (World.cell?_setCell_same' W ⟨w.heap.size + 1, 0, none⟩ (.pointer none) (by rw [a1]; rfl)) (grownBy_putObj' _ D (.deferred none)) (fun r e => by cases e; exact ⟨_, hK', rfl⟩)
      refine ⟨.pointer none, ?_, rfl, (hwb.setCell (p := ⟨w.heap.size + 1, 0, none⟩) (by simp) _).trans (belowK_b (w := w) (Nat.le_refl _) _ D _ _ (by omega) hK' rfl rfl)⟩
      simp [results, Tryz.f96, go_sem, hc5]
end Go.Proofs.YtgomjcnefadenaaGreatDoor
