/- The local's place in the frames. Conditions: each contract's own premises. -/
import Derived.Test.YtgomjcnefadenaaGreatDoorI1
import Derived.BigQuiet
import Derived.Sort.QuietIn
import Derived.Outline
namespace Go.Proofs.YtgomjcnefadenaaGreatDoor
open Go Go.RowKit Go.Shelf
attribute [local go_sem] Oper.semAt_some

/-- Which frame holds the local i, among the first m frames, from the uppermost down. -/
def locGo (fs : List Frm) (i : Int) : Nat → Option Nat
  | 0 => none
  | m + 1 => match fs[m]? with
    | some f => if f.k = 4 ∧ 0 ≤ i ∧ i < f.l.length then some m else if f.k = 4 ∨ f.k = 1 then none else locGo fs i m
    | none => none

/-- A frame that is passed over. -/
def Frm.thin (f : Frm) : Prop := ¬ f.k = 4 ∧ ¬ f.k = 1
theorem locGo_thin (fs : List Frm) (i : Int) (m : Nat) (f : Frm) (hf : fs[m]? = some f) (ht : f.thin) : locGo fs i (m + 1) = locGo fs i m := by
  obtain ⟨h4, h1⟩ := ht
  simp [locGo, hf, h4, h1]
theorem locGo_dn (fs : List Frm) (i : Int) (m k : Nat) (hk : k ≤ m) (h : ∀ x ∈ dn m k, ∃ f, fs[x]? = some f ∧ f.thin) : locGo fs i m = locGo fs i (m - k) := by
  induction k with
  | zero => rfl
  | succ k ih =>
    rw [dn_succ] at h
    rw [ih (by omega) (fun x hx => h x (List.mem_append_left _ hx))]
    obtain ⟨f, hf, ht⟩ := h (m - 1 - k) (List.mem_append_right _ (List.mem_singleton_self _))
    rw [show m - k = (m - 1 - k) + 1 from by omega, locGo_thin fs i _ f hf ht, show m - (k + 1) = m - 1 - k from by omega]

/-- The place of a local. -/
def locPtr (fs : List Frm) (i : Int) (r : Option Nat) : Value := match r with
  | some m => match fs[m]? with
    | some f => .pointer (f.la.map fun a => ⟨a.block, i.toNat, none⟩)
    | none => .pointer none
  | none => .pointer none

set_option maxRecDepth 100000 in
set_option maxHeartbeats 4000000 in
theorem local_any (w : World) (fr : Nat) (ad : Option Addr) (c : Nat) (fs : List Frm) (h : Frs w fr ad c fs) (i : Int) :
    Calls Tryz.prog 132 #[.pointer (some ⟨fr, 0, none⟩), .int .i64 i] w fun e w' => e = .returned (locPtr fs i (locGo fs i fs.length)) ∧ Below w.heap.size w w' := by
  obtain ⟨g, hga⟩ : ∃ g, 0 < fs.length → ad = some ⟨g, 0, none⟩ := by
    rcases h.row.form with ⟨_, hn, _, _⟩ | ⟨g, _, he, _⟩
    · exact ⟨0, fun h => by omega⟩
    · exact ⟨g, fun _ => he⟩
  have hk0 : ∀ q, q < fs.length → ∃ f, fs[q]? = some f ∧ w.cell? ⟨g, q * 6, none⟩ = some (.int .i64 f.k) ∧ w.cell? ⟨g, q * 6 + 5, none⟩ = some (.slice f.la f.l.length f.lc) ∧ g < w.heap.size ∧ (0 < f.l.length → ∃ gl, f.la = some ⟨gl, 0, none⟩) := fun q hq => by
    obtain ⟨g', he, hcg, _, hlt, _⟩ := h.at (i := q) (f := fs[q]) (List.getElem?_eq_getElem hq)
    rw [hga (by omega)] at he
    injection he with he; injection he with he _ _; subst he
    refine ⟨_, List.getElem?_eq_getElem hq, hcg 0 (by omega), hcg 5 (by omega), hlt, fun hl => ?_⟩
    rcases (h.loc _ (List.getElem_mem hq)).1.form with ⟨_, hn, _, _⟩ | ⟨gl, _, he, _⟩
    · omega
    · exact ⟨gl, he⟩
  have hc0 : w.cell? ⟨fr, 0, none⟩ = some (.slice ad fs.length c) := h.blk.cell 0
  have hl := h.le
  have hfr := h.blk.lt
  have HK0 := Lib.hid hk0
  clear h hk0
  refine (callsIn_wide (n := 3)).1 ?_
  refine callsIn_of_wp_marks Tryz.func132 rfl trivial ?_ rfl
  simp only [Tryz.ntmps132, List.size_toArray, List.length_cons, List.length_nil, Nat.reduceAdd, Nat.reduceSub, Array.replicate_succ, Array.replicate_zero, List.push_toArray, List.append_toArray, List.nil_append, List.cons_append]
  gi_wp2_with (refine ⟨trivial, ?_⟩; gi_at_call 97; refine (down_in _ _ _).mono ?_; rintro e w' ⟨rfl, rfl⟩)
  have b0 := ((Blk.new w 3 #[.int .i64 i]).alloc (.cells #[.pointer none] 179)).alloc (.cells #[.pointer (some ⟨fr, 0, none⟩)] 41)
  have b1 := (Blk.new (w.alloc (.cells #[.int .i64 i] 3)) 179 #[.pointer none]).alloc (.cells #[.pointer (some ⟨fr, 0, none⟩)] 41)
  have b2 := Blk.new ((w.alloc (.cells #[.int .i64 i] 3)).alloc (.cells #[.pointer none] 179)) 41 #[.pointer (some ⟨fr, 0, none⟩)]
  simp only [World.size_alloc] at b1 b2
  have hB0 : Below w.heap.size w (((w.alloc (.cells #[.int .i64 i] 3)).alloc (.cells #[.pointer none] 179)).alloc (.cells #[.pointer (some ⟨fr, 0, none⟩)] 41)) := (((Below.refl _ w).alloc (Nat.le_refl _) _).alloc (by simp) _).alloc (by simp; omega) _
  obtain ⟨W0, hW0⟩ : ∃ W0, ((w.alloc (.cells #[.int .i64 i] 3)).alloc (.cells #[.pointer none] 179)).alloc (.cells #[.pointer (some ⟨fr, 0, none⟩)] 41) = W0 := ⟨_, rfl⟩
  have hs0 : W0.heap.size = w.heap.size + 3 := by rw [← hW0]; simp
  rw [hW0] at b0 b1 b2 hB0 ⊢
  have d0 : W0.cell? ⟨w.heap.size, 0, none⟩ = some (.int .i64 i) := b0.cell 0
  have d1 : W0.cell? ⟨w.heap.size + 1, 0, none⟩ = some (.pointer none) := b1.cell 0
  have e1 : W0.frozen? ⟨w.heap.size + 1, 0, none⟩ = false := b1.frozen 0
  have d2 : W0.cell? ⟨w.heap.size + 1 + 1, 0, none⟩ = some (.pointer (some ⟨fr, 0, none⟩)) := b2.cell 0
  clear b0 b1 b2 hW0
  have d3 : W0.cell? ⟨fr, 0, none⟩ = some (.slice ad fs.length c) := (hB0.cell (p := ⟨fr, 0, none⟩) hfr).trans hc0
  have hmx : Tryz.prog.follows .mixedOrders = true := by kernel_rfl
  refine wpIn_rangeFunc_ownF rfl (by omega) (gf := 130) (lb := #[.pointer (some ⟨w.heap.size + 1 + 1, 0, none⟩)]) rfl trivial (enters_of Tryz.func130 (by kernel_rfl) rfl)
    (down_stops 2 (by omega) (w.heap.size + 1 + 1) (w.heap.size + 3) fr g fs.length c _ hga hl (by omega) (by omega) W0 (by omega) d2 d3) belowK_t (belowK_b (by omega)) (Below.refl _ _) (fun _ => rfl)
    (fun pre W => (∀ x ∈ pre, ∃ f, fs[min x (fs.length - 1)]? = some f ∧ f.thin) ∧ Below (w.heap.size + 3) W0 W)
    (fun c pre W => (c = .ret ∧ (∃ pre0 x, pre = pre0 ++ [x] ∧ (∀ y ∈ pre0, ∃ f, fs[min y (fs.length - 1)]? = some f ∧ f.thin) ∧ ∃ f, fs[min x (fs.length - 1)]? = some f ∧ ¬ f.thin ∧
      W.cell? ⟨w.heap.size + 1, 0, none⟩ = some (locPtr fs i (if f.k = 4 ∧ 0 ≤ i ∧ i < f.l.length then some (min x (fs.length - 1)) else none))) ∧ Below w.heap.size w W))
    ?hI ?hIx ⟨(fun x hx => by cases hx), Below.refl _ _⟩
    (fun x => { tmps := #[.pointer (some ⟨fr, 0, none⟩), .int .i64 i, undef, .pointer (some ⟨w.heap.size, 0, none⟩), .pointer (some ⟨w.heap.size + 1, 0, none⟩), undef, .pointer (some ⟨g, min x (fs.length - 1) * 6, none⟩), .pointer (some ⟨fr, 0, none⟩), .func (.func 130) #[] #[.pointer (some ⟨w.heap.size + 1 + 1, 0, none⟩)], .int .i64 ((min x (fs.length - 1) : Nat) : Int), .pointer (some ⟨g, min x (fs.length - 1) * 6, none⟩), undef, undef, undef, undef, undef, undef, undef, undef, undef, undef, undef, undef, undef, undef, undef, undef, undef, undef, undef, undef, undef, undef, undef, undef, undef, undef, undef, undef, undef, undef, undef, undef, undef, undef, undef, undef, undef, undef], defers := [] }) ?assign ?body ?done ?stop
  case hI => exact OwnFrom.and (ownFrom_pure _ (fun pre => ∀ x ∈ pre, ∃ f, fs[min x (fs.length - 1)]? = some f ∧ f.thin)) (ownFrom_below (by omega) (by omega))
  case hIx =>
    intro c s A B row hs hg hr
    obtain ⟨rfl, ⟨pre0, x, h1, h2, f, h3, h5, h4⟩, hb⟩ := hs
    exact ⟨rfl, ⟨pre0, x, h1, h2, f, h3, h5, cell_kept h4 hg (fun r e => (hr r e).2)⟩, ownFrom_below (β := Unit) (Nat.le_refl _) (by omega) () A B row hb hg hr⟩
  case assign =>
    intro l x W K hK
    have he : encD g fs.length x = #[.int .i64 ((min x (fs.length - 1) : Nat) : Int), .pointer (some ⟨g, min x (fs.length - 1) * 6, none⟩)] := by simp [encD]
    rw [he]
    gi_wp2
    exact hK
  case body =>
    rintro l pre x W ⟨hpre, hB⟩ hlen
    obtain ⟨f, hf, hkc, hlc, hglt, hgl⟩ := HK0.out (min x (fs.length - 1)) (by omega)
    have HF := Lib.hid hf
    have HP := Lib.hid hpre
    have HGL := Lib.hid hgl
    clear hf hpre hgl hlen hga
    have a0 := (hB.cell (p := ⟨w.heap.size, 0, none⟩) (by show w.heap.size < _; omega)).trans d0
    have a1 := (hB.cell (p := ⟨w.heap.size + 1, 0, none⟩) (by show w.heap.size + 1 < _; omega)).trans d1
    have a2 := (hB.frozen (p := ⟨w.heap.size + 1, 0, none⟩) (by show w.heap.size + 1 < _; omega)).trans e1
    have a3 := (hB.cell (p := ⟨g, min x (fs.length - 1) * 6, none⟩) (by show g < _; omega)).trans ((hB0.cell (p := ⟨g, min x (fs.length - 1) * 6, none⟩) hglt).trans hkc)
    have a4 := (hB.cell (p := ⟨g, min x (fs.length - 1) * 6 + 5, none⟩) (by show g < _; omega)).trans ((hB0.cell (p := ⟨g, min x (fs.length - 1) * 6 + 5, none⟩) hglt).trans hlc)
    have hwb := hB0.trans (hB.mono (by omega))
    clear hkc hlc
    by_cases hk4 : f.k = 4
    · have hb4 : (f.k == 4) = true := by simp [hk4]
      have HK := Lib.hid hk4
      clear hk4
      have hnt : Hid (¬ f.thin) := fun ht => ht.1 HK.out
      by_cases hi0 : 0 ≤ i
      · have hbi : decide (0 ≤ i) = true := by simp [hi0]
        by_cases hi1 : i < f.l.length
        · have hbl : decide (i < (f.l.length : Int)) = true := by simp [hi1]
          obtain ⟨gl, hgl⟩ := HGL.out (by omega)
          have hfin : locPtr fs i (if f.k = 4 ∧ 0 ≤ i ∧ i < f.l.length then some (min x (fs.length - 1)) else none) = .pointer (some ⟨gl, i.toNat, none⟩) := by
            rw [if_pos ⟨HK.out, hi0, hi1⟩]; simp only [locPtr]; rw [HF.out]; simp [hgl]
          rw [hgl] at a4
          have HFIN := Lib.hid hfin
          clear hfin hgl
          gi_wp2
          gi_region_o
          all_goals gi_wp2
          all_goals gi_region_o
          all_goals gi_wp2
          all_goals exact ⟨(KeepsOthers.drew _).trans ((KeepsOthers.drew _).trans (KeepsOthers.setCell _ _ _)), rfl, ⟨pre, x, rfl, HP.out, f, HF.out, hnt.out, by rw [HFIN.out]; exact World.cell?_setCell_same' _ _ _ (by show (W.cell? _).isSome = true; rw [a1]; rfl)⟩, hwb.drew.drew.setCell (p := ⟨w.heap.size + 1, 0, none⟩) (by simp) _⟩
        · have hbl : decide (i < (f.l.length : Int)) = false := by simp; omega
          have HI := Lib.hid hi1
          clear hi1
          gi_wp2
          gi_region_o
          all_goals gi_wp2
          all_goals exact ⟨(KeepsOthers.drew _).trans (KeepsOthers.setCell _ _ _), rfl, ⟨pre, x, rfl, HP.out, f, HF.out, hnt.out, by rw [if_neg (fun h => by have := HI.out; omega)]; exact World.cell?_setCell_same' _ _ _ (by show (W.cell? _).isSome = true; rw [a1]; rfl)⟩, hwb.drew.setCell (p := ⟨w.heap.size + 1, 0, none⟩) (by simp) _⟩
      · have hbi : decide (0 ≤ i) = false := by simp; omega
        have HI := Lib.hid hi0
        clear hi0
        gi_wp2
        gi_region_o
        all_goals gi_wp2
        all_goals exact ⟨(KeepsOthers.drew _).trans (KeepsOthers.setCell _ _ _), rfl, ⟨pre, x, rfl, HP.out, f, HF.out, hnt.out, by rw [if_neg (fun h => by have := HI.out; omega)]; exact World.cell?_setCell_same' _ _ _ (by show (W.cell? _).isSome = true; rw [a1]; rfl)⟩, hwb.drew.setCell (p := ⟨w.heap.size + 1, 0, none⟩) (by simp) _⟩
    · have hb4 : (f.k == 4) = false := by simp [hk4]
      have HK := Lib.hid hk4
      clear hk4
      by_cases hk1 : f.k = 1
      · have hb1 : (f.k == 1) = true := by simp [hk1]
        have hnt : Hid (¬ f.thin) := fun ht => ht.2 hk1
        clear hk1
        gi_wp2
        gi_region_o
        all_goals gi_wp2
        all_goals exact ⟨(KeepsOthers.drew _).trans (KeepsOthers.setCell _ _ _), rfl, ⟨pre, x, rfl, HP.out, f, HF.out, hnt.out, by rw [if_neg (fun h => HK.out h.1)]; exact World.cell?_setCell_same' _ _ _ (by show (W.cell? _).isSome = true; rw [a1]; rfl)⟩, hwb.drew.setCell (p := ⟨w.heap.size + 1, 0, none⟩) (by simp) _⟩
      · have hb1 : (f.k == 1) = false := by simp [hk1]
        have ht : Hid f.thin := ⟨HK.out, hk1⟩
        clear hk1
        gi_wp2
        gi_region_o
        all_goals gi_wp2
        all_goals exact ⟨KeepsOthers.drew _, (Below.refl _ _).drew, fun y hy => by rcases List.mem_append.1 hy with h | h; exact HP.out y h; rw [List.mem_singleton] at h; subst h; exact ⟨f, HF.out, ht.out⟩, hB.drew⟩
  case done =>
    rintro D ys W hD rfl ⟨h0, hb⟩ hK
    have hres : locGo fs i fs.length = none := by
      rw [locGo_dn fs i fs.length fs.length (Nat.le_refl _) (fun x hx => by
        obtain ⟨f, hf, ht⟩ := h0 x hx
        have hxm : x < fs.length := by
          simp only [dn, List.mem_map, List.mem_range] at hx
          obtain ⟨j, hj, rfl⟩ := hx
          omega
        rw [Nat.min_eq_left (by omega)] at hf
        exact ⟨f, hf, ht⟩)]
      simp [locGo]
    have HRES := Lib.hid hres
    have hwb := hB0.trans (hb.mono (by omega))
    have a1 := (hb.cell (p := ⟨w.heap.size + 1, 0, none⟩) (by show w.heap.size + 1 < _; omega)).trans d1
    have a2 := (hb.frozen (p := ⟨w.heap.size + 1, 0, none⟩) (by show w.heap.size + 1 < _; omega)).trans e1
    clear h0 hres hga
    gi_wp2
    have hK' := (KeepsOthers.setCell W ⟨w.heap.size + 1, 0, none⟩ (.pointer none)).same D _ hK rfl
    refine ⟨by simp, .inl ⟨_, _, rfl, run_takeDeferred hK', ?_⟩⟩
    have hc5 := cell_kept (World.cell?_setCell_same' W ⟨w.heap.size + 1, 0, none⟩ (.pointer none) (by rw [a1]; rfl)) (grownBy_putObj' _ D (.deferred none)) (fun r e => by cases e; exact ⟨_, hK', rfl⟩)
    refine ⟨.pointer none, ?_, by rw [HRES.out]; rfl, (hwb.setCell (p := ⟨w.heap.size + 1, 0, none⟩) (by simp) _).trans (belowK_b (w := w) (Nat.le_refl _) _ D _ _ (by omega) hK' rfl rfl)⟩
    simp [results, Tryz.f132, go_sem, hc5]
  case stop =>
    rintro D c pre W hD hpre ⟨rfl, ⟨pre0, x, hpx, hp0, f, hf, hnt, hcell⟩, hb⟩ hK
    obtain ⟨k', hk', hpk⟩ := hpre
    have hsp : pre0 = dn fs.length k' ∧ x = fs.length - 1 - k' := by
      have := hpk.symm.trans hpx
      rw [dn_succ] at this
      have h2 := List.append_inj' this rfl
      simp only [List.cons.injEq, and_true] at h2
      exact ⟨h2.1.symm, h2.2.symm⟩
    obtain ⟨rfl, rfl⟩ := hsp
    rw [Nat.min_eq_left (by omega)] at hf hcell
    have hres : locGo fs i fs.length = if f.k = 4 ∧ 0 ≤ i ∧ i < f.l.length then some (fs.length - 1 - k') else none := by
      rw [locGo_dn fs i fs.length k' (by omega) (fun x hx => by
        obtain ⟨f, hf, ht⟩ := hp0 x hx
        have hxm : x < fs.length := by
          simp only [dn, List.mem_map, List.mem_range] at hx
          obtain ⟨j, hj, rfl⟩ := hx
          omega
        rw [Nat.min_eq_left (by omega)] at hf
        exact ⟨f, hf, ht⟩)]
      rw [show fs.length - k' = (fs.length - 1 - k') + 1 from by omega]
      simp only [locGo, hf]
      split
      · rfl
      · rw [if_pos]
        by_cases h4 : f.k = 4
        · exact .inl h4
        · by_cases h1 : f.k = 1
          · exact .inr h1
          · exact absurd ⟨h4, h1⟩ hnt
    rw [← hres] at hcell
    obtain ⟨R, hR⟩ : ∃ R, locPtr fs i (locGo fs i fs.length) = R := ⟨_, rfl⟩
    rw [hR] at hcell
    have HR := Lib.hid hR
    clear hpk hpx hp0 hf hnt hres hR hga
    gi_wp2
    refine ⟨by simp, .inl ⟨_, _, rfl, run_takeDeferred hK, ?_⟩⟩
    have hc5 := cell_kept hcell (grownBy_putObj' _ D (.deferred none)) (fun r e => by cases e; exact ⟨_, hK, rfl⟩)
    refine ⟨R, ?_, by rw [HR.out], hb.trans (belowK_b (w := w) (Nat.le_refl _) W D _ _ (by omega) hK rfl rfl)⟩
    simp [results, Tryz.f132, go_sem, hc5]
end Go.Proofs.YtgomjcnefadenaaGreatDoor
