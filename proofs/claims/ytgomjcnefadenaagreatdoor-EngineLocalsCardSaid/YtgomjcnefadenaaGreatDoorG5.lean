/- lay: a definition is laid down. Conditions: the contract's own premises. -/
import Derived.Test.YtgomjcnefadenaaGreatDoorG4
import Derived.Deep.LoopGhost
namespace Go.Proofs.YtgomjcnefadenaaGreatDoor
open Go Go.RowKit

def I3.cells (x : I3) : List Value := [.int .u8 x.op, .int .i64 x.a, .int .i64 x.w]
theorem icells_len (l : List I3) : (l.flatMap I3.cells).length = l.length * 3 := by
  induction l with
  | nil => rfl
  | cons x l ih => simp only [List.flatMap_cons, List.length_append, ih, List.length_cons, I3.cells, List.length_nil]; omega
theorem icells_at (l : List I3) (i : Nat) (x : I3) (hx : l[i]? = some x) : (l.flatMap I3.cells)[i * 3]? = some (.int .u8 x.op) ∧ (l.flatMap I3.cells)[i * 3 + 1]? = some (.int .i64 x.a) ∧ (l.flatMap I3.cells)[i * 3 + 2]? = some (.int .i64 x.w) := by
  induction l generalizing i with
  | nil => simp at hx
  | cons y l ih =>
    have e : (y :: l).flatMap I3.cells = [.int .u8 y.op, .int .i64 y.a, .int .i64 y.w] ++ l.flatMap I3.cells := rfl
    rw [e]
    cases i with
    | zero =>
      simp only [List.getElem?_cons_zero, Option.some.injEq] at hx
      subst hx
      exact ⟨rfl, rfl, rfl⟩
    | succ i =>
      simp only [List.getElem?_cons_succ] at hx
      obtain ⟨h1, h2, h3⟩ := ih i hx
      refine ⟨?_, ?_, ?_⟩
      · rw [List.getElem?_append_right (by simp; omega)]
        simpa [show (i + 1) * 3 - 3 = i * 3 from by omega] using h1
      · rw [List.getElem?_append_right (by simp; omega)]
        simpa [show (i + 1) * 3 + 1 - 3 = i * 3 + 1 from by omega] using h2
      · rw [List.getElem?_append_right (by simp; omega)]
        simpa [show (i + 1) * 3 + 2 - 3 = i * 3 + 2 from by omega] using h3
theorem info3 : (Tryz.prog.info? 3).map (fun i => (i.zero, i.size, i.bytes)) = some (some (.int .i64 0), 1, 8) := by kernel_rfl
theorem info35 : (Tryz.prog.info? 35).map (fun i => (i.zero, i.size, i.bytes)) = some (some (.agg #[.int .i64 0, .int .i64 0, .int .i64 0]), 3, 24) := by kernel_rfl
theorem codeOf_snoc (ds : List (List I3)) (d : List I3) : codeOf (ds ++ [d]) = codeOf ds ++ d.flatMap insCells := by
  simp [codeOf]
theorem endsFrom_snoc (b : Int) (ds : List (List I3)) (d : List I3) : endsFrom b (ds ++ [d]) = endsFrom b ds ++ [b + 2 * tot ds + 2 * d.length] := by
  induction ds generalizing b with
  | nil => simp [endsFrom, tot]
  | cons e ds ih =>
    simp only [List.cons_append, endsFrom, ih, tot, List.cons.injEq, true_and, List.append_cancel_left_eq, and_true]
    omega
theorem endsOf_snoc (ds : List (List I3)) (d : List I3) : endsOf (ds ++ [d]) = endsOf ds ++ [2 * tot ds + 2 * (d.length : Int)] := by
  unfold endsOf
  rw [endsFrom_snoc]
  simp
theorem insCells_len (l : List I3) : (l.flatMap insCells).length = 2 * l.length := by
  induction l with
  | nil => rfl
  | cons x l ih => simp only [List.flatMap_cons, List.length_append, ih, List.length_cons, insCells, List.length_nil]; omega
theorem op_or (a o : Int) (h0 : 0 ≤ o) (h1 : o < 256) (h2 : 0 ≤ a) (h3 : a ≤ 1000) : bits .or .i64 (a * 256) o = a * 256 + o := by
  obtain ⟨A, rfl⟩ := Int.eq_ofNat_of_zero_le h2
  obtain ⟨o, rfl⟩ := Int.eq_ofNat_of_zero_le h0
  have h := (bits_nat .i64 62 (by decide) (fun n _ h => IntWalk.i64_in n (by omega)) (A * 256) o (by omega) (by omega)).2
  have e : A * 256 ||| o = A * 256 + o := by
    have := Nat.shiftLeft_add_eq_or_of_lt (i := 8) (b := o) (by omega) A
    rw [Nat.shiftLeft_eq] at this
    exact this.symm
  rw [e] at h
  rw [show ((A * 256 : Nat) : Int) = (A : Int) * 256 from by omega, show ((A * 256 + o : Nat) : Int) = (A : Int) * 256 + o from by omega] at h
  exact h

/-- What holds at the head of a round: k instructions are laid. -/
def LayI (w : World) (B : Blks) (s : St) (h : Gh) (d : List I3) (k : Nat) (wr : World) (cad : Option Addr) (N cc : Nat) : Prop :=
  N = 2 * (tot s.ds + k) ∧ Row wr 33 1 cad N cc (ints (codeOf s.ds ++ (d.take k).flatMap insCells)) ∧ Blk wr B.g 74 ((engCells B s h).setIfInBounds 0 (.slice cad N cc)) ∧
    Chg (fun k => k = B.g ∨ inB h.cad k) w wr ∧ ∀ k, inB cad k → inB h.cad k ∨ w.heap.size ≤ k

theorem take_snoc (d : List I3) (k : Nat) (x : I3) (hx : d[k]? = some x) : (d.take (k + 1)).flatMap insCells = (d.take k).flatMap insCells ++ [x.a * 256 + x.op, x.w] := by
  have hk : k < d.length := by
    rcases Nat.lt_or_ge k d.length with h | h
    · exact h
    · rw [List.getElem?_eq_none h] at hx; cases hx
  rw [List.getElem?_eq_getElem hk] at hx
  injection hx with hx
  rw [List.take_succ_eq_append_getElem hk, List.flatMap_append, hx]
  simp [insCells]

theorem LayI.step {w : World} {B : Blks} {s : St} {h : Gh} {d : List I3} {k : Nat} {wr w1 w2 : World} {cad ad2 : Option Addr} {N cc c2 : Nat} {x : I3} {V : Int} (H : LayI w B s h d k wr cad N cc) (hx : d[k]? = some x) (hV : x.a * 256 + x.op = V)
    (h1 : Chg none_ wr w1) (h2 : Chg (inB cad) w1 w2) (hr : Row w2 33 1 ad2 (N + 2) c2 (ints (codeOf s.ds ++ (d.take k).flatMap insCells) ++ [.int .i64 V, .int .i64 x.w]))
    (hb : Blk w2 B.g 74 ((engCells B s h).setIfInBounds 0 (.slice cad N cc))) (ha : ∀ i, inB ad2 i → inB cad i ∨ i = w1.heap.size) :
    LayI w B s h d (k + 1) (w2.setCell ⟨B.g, 0, none⟩ (.slice ad2 (N + 2) c2)) ad2 (N + 2) c2 := by
  obtain ⟨hN, hrow, hblk, hchg, hat⟩ := H
  have hs := hchg.size
  have hs1 := h1.size
  have hgl := hblk.lt
  have hne : ¬ inB ad2 B.g := fun hk => by
    rcases ha _ hk with h3 | h3
    · exact hrow.neBlk hblk (by decide) h3 rfl
    · omega
  refine ⟨by omega, ?_, ?_, ?_, ?_⟩
  · have e : ints (codeOf s.ds ++ (d.take (k + 1)).flatMap insCells) = ints (codeOf s.ds ++ (d.take k).flatMap insCells) ++ [.int .i64 V, .int .i64 x.w] := by
      rw [take_snoc d k x hx, hV]
      simp [ints]
    rw [e]
    exact hr.set_far 0 hne _
  · have := hb.set_ 0 (.slice ad2 (N + 2) c2)
    simpa [engCells] using this
  · refine ((hchg.trans' h1 (fun i hi => hi.elim)).trans' h2 (fun i hi => ?_)).setL 0 (.inl rfl) _
    rcases hat i hi with h3 | h3
    · exact .inl (.inr h3)
    · exact .inr h3
  · intro i hi
    rcases ha i hi with h3 | h3
    · exact hat i h3
    · exact .inr (by omega)

theorem LayI.done {w : World} {B : Blks} {s : St} {h : Gh} {O : Nat → Prop} {d : List I3} {L : Nat} {wr w1 w2 : World} {cad ad2 : Option Addr} {N cc c2 M : Nat} (H : LayI w B s h d L wr cad N cc) (HG : EngG w B s h) (HO : ∀ k, engF B h k → O k)
    (hd : d.length ≤ 500 ∧ ∀ i ∈ d, 0 ≤ i.op ∧ i.op < 256 ∧ 0 ≤ i.a ∧ i.a ≤ 1000) (hn : s.ds.length < 300) (hL : d.length = L) (hM : (endsOf s.ds).length = M) (h1 : Chg none_ wr w1) (h2 : Chg (inB h.ead) w1 w2)
    (hr : Row w2 3 1 ad2 (M + 1) c2 (ints (endsOf s.ds) ++ [.int .i64 (N : Int)])) (hb : Blk w2 B.g 74 ((engCells B s h).setIfInBounds 0 (.slice cad N cc))) (ha : ∀ i, inB ad2 i → inB h.ead i ∨ i = w1.heap.size) :
    Goes B w O (w2.setCell ⟨B.g, 1, none⟩ (.slice ad2 (M + 1) c2)) { s with ds := s.ds ++ [d] } := by
  obtain ⟨hN, hrow, hblk, hchg, hat⟩ := H
  have hs := hchg.size
  have hs1 := h1.size
  have hg0 := HG.blk.lt
  obtain ⟨mv, hmv⟩ := HG.stb
  have hCg : ∀ k, inB h.cad k → k ≠ B.g := fun k hk => HG.code.neBlk HG.blk (by decide) hk
  have hEg : ∀ k, inB h.ead k → k ≠ B.g := fun k hk => HG.ends.neBlk HG.blk (by decide) hk
  have hCE : ∀ k, inB h.cad k → ¬ inB h.ead k := fun k hk => row_far HG.code HG.ends (by decide) hk
  have hC : Chg (fun k => k = B.g ∨ inB h.cad k ∨ inB h.ead k) w (w2.setCell ⟨B.g, 1, none⟩ (.slice ad2 (M + 1) c2)) :=
    (((hchg.mono (fun i hi => hi.elim (fun e => .inl e) (fun e => .inr (.inl e)))).trans' h1 (fun i hi => hi.elim)).trans' h2 (fun i hi => .inl (.inr (.inr hi)))).setL 1 (.inl rfl) _
  have hT : d.take L = d := List.take_of_length_le (by omega)
  rw [hT] at hrow
  have hcl : (codeOf (s.ds ++ [d])).length = N := by rw [codeOf_snoc, List.length_append, codeOf_len, insCells_len]; omega
  have hel : (endsOf (s.ds ++ [d])).length = M + 1 := by rw [endsOf_snoc, List.length_append, hM]; rfl
  have hcad : ∀ k, inB cad k → ¬ inB h.ead k := fun k hk he => by
    rcases hat k hk with h3 | h3
    · exact hCE k h3 he
    · have := HG.ends.lt he; omega
  refine ⟨⟨{ h with cad := cad, cc := cc, ead := ad2, ec := c2 }, ⟨?_, ?_, ?_, ?_, ?_, HG.log, ⟨mv, hmv.chg hC ?_⟩, HG.stk.chg hC ?_, ?_, ?_, ?_, HG.wws⟩, ?_⟩, hC.mono ?_⟩
  · have := hb.set_ 1 (.slice ad2 (M + 1) c2)
    unfold engCells at this ⊢
    simp only [hcl, hel]
    simpa using this
  · show Row _ 33 1 cad (codeOf (s.ds ++ [d])).length cc (ints (codeOf (s.ds ++ [d])))
    rw [hcl, codeOf_snoc]
    refine ((hrow.chg h1 (fun k _ h => h)).chg h2 hcad).set_far 1 (fun hk => ?_) _
    rcases hat _ hk with h3 | h3
    · exact hCg _ h3 rfl
    · omega
  · show Row _ 3 1 ad2 (endsOf (s.ds ++ [d])).length c2 (ints (endsOf (s.ds ++ [d])))
    rw [hel, endsOf_snoc]
    have e : (2 * tot s.ds + 2 * (d.length : Int)) = (N : Int) := by omega
    rw [e]
    have e2 : ints (endsOf s.ds ++ [(N : Int)]) = ints (endsOf s.ds) ++ [.int .i64 (N : Int)] := by simp [ints]
    rw [e2]
    refine hr.set_far 1 (fun hk => ?_) _
    rcases ha _ hk with h3 | h3
    · exact hEg _ h3 rfl
    · omega
  · refine HG.words.chg hC (fun k hk => ?_)
    rintro (e | e | e)
    · exact HG.words.neBlk HG.blk (by decide) hk e
    · exact row_far HG.words HG.code (by decide) hk e
    · exact row_far HG.words HG.ends (by decide) hk e
  · refine HG.frs.chg hC ?_
    rintro k (rfl | hk | ⟨f, hf, hk⟩) (e | e | e)
    · exact HG.frs.blk.ne HG.blk (by decide) e
    · exact row_blk HG.code HG.frs.blk (by decide) e
    · exact row_blk HG.ends HG.frs.blk (by decide) e
    · exact HG.frs.row.neBlk HG.blk (by decide) hk e
    · exact row_far HG.frs.row HG.code (by decide) hk e
    · exact row_far HG.frs.row HG.ends (by decide) hk e
    · exact (HG.frs.loc f hf).1.neBlk HG.blk (by decide) hk e
    · exact (HG.lcs f hf k hk).1 e
    · exact row_far (HG.frs.loc f hf).1 HG.ends (by decide) hk e
  · rintro (e | e | e)
    · exact hmv.ne HG.blk (by decide) e
    · exact row_blk HG.code hmv (by decide) e
    · exact row_blk HG.ends hmv (by decide) e
  · rintro k (rfl | hk) (e | e | e)
    · exact HG.stk.blk.ne HG.blk (by decide) e
    · exact row_blk HG.code HG.stk.blk (by decide) e
    · exact row_blk HG.ends HG.stk.blk (by decide) e
    · exact HG.stk.row.neBlk HG.blk (by decide) hk e
    · exact HG.cs k e hk
    · exact row_far HG.stk.row HG.ends (by decide) hk e
  · intro k hk hk2
    rcases hat k hk with h3 | h3
    · exact HG.cs k h3 hk2
    · have := HG.stk.row.lt hk2; omega
  · intro f hf k hk
    refine ⟨fun hk2 => ?_, (HG.lcs f hf k hk).2⟩
    rcases hat k hk2 with h3 | h3
    · exact (HG.lcs f hf k hk).1 h3
    · have := (HG.frs.loc f hf).1.lt hk; omega
  · refine ⟨by simp; omega, fun e he => ?_⟩
    rcases List.mem_append.1 he with h3 | h3
    · exact HG.wds.2 e h3
    · simp only [List.mem_singleton] at h3
      subst h3
      exact hd
  · rintro k (rfl | hk | hk | hk | hk | hk)
    · exact .inl (HO _ (.inl rfl))
    · rcases hat k hk with h3 | h3
      · exact .inl (HO _ (.inr (.inl h3)))
      · exact .inr h3
    · rcases ha k hk with h3 | h3
      · exact .inl (HO _ (.inr (.inr (.inl h3))))
      · exact .inr (by omega)
    · exact .inl (HO _ (.inr (.inr (.inr (.inl hk)))))
    · exact .inl (HO _ (.inr (.inr (.inr (.inr (.inl hk))))))
    · exact .inl (HO _ (.inr (.inr (.inr (.inr (.inr hk))))))
  · rintro k (rfl | hk | hk)
    · exact HO _ (.inl rfl)
    · exact HO _ (.inr (.inl hk))
    · exact HO _ (.inr (.inr (.inl hk)))

set_option maxRecDepth 100000 in
set_option maxHeartbeats 4000000 in
theorem lay_ok (w : World) (B : Blks) (s : St) (O : Nat → Prop) (H : Eng w B s O) (d : List I3) (hd : d.length ≤ 500 ∧ ∀ i ∈ d, 0 ≤ i.op ∧ i.op < 256 ∧ 0 ≤ i.a ∧ i.a ≤ 1000) (hn : s.ds.length < 300) (b lc : Nat)
    (hr : Rd w (some ⟨b, 0, none⟩) (d.flatMap I3.cells)) (hb : ¬ O b) :
    Calls Tryz.prog 27 #[ptr B.g, .slice (some ⟨b, 0, none⟩) d.length lc] w fun e w' => e = .returned (.tuple #[]) ∧ Goes B w O w' { s with ds := s.ds ++ [d] } := by
  obtain ⟨h, hg, ho⟩ := H
  have ht := tot_le s.ds hg.wds
  have hbg : b ≠ B.g := fun e => hb (by rw [e]; exact ho _ (.inl rfl))
  have hbc : ¬ inB h.cad b := fun e => hb (ho _ (.inr (.inl e)))
  have h0 : LayI w B s h d 0 w h.cad (2 * tot s.ds) h.cc := by
    refine ⟨rfl, ?_, ?_, Chg.refl _ _, fun k hk => .inl hk⟩
    · have := hg.code
      rw [codeOf_len] at this
      simpa using this
    · have := hg.blk
      have hl := codeOf_len s.ds
      unfold engCells at this ⊢
      rw [hl] at this ⊢
      exact this
  obtain ⟨L, hL⟩ : ∃ L, d.length = L := ⟨_, rfl⟩
  obtain ⟨T, hT⟩ : ∃ T, tot s.ds = T := ⟨_, rfl⟩
  have hl500 : L ≤ 500 := by omega
  have hTl : T ≤ 150000 := by omega
  have HC : ∀ k < L, ∃ x, d[k]? = some x := fun k hk => ⟨d[k]'(by omega), List.getElem?_eq_getElem (by omega)⟩
  have HNL := Lib.hid hn
  have HR := Lib.hid hr
  have HG := Lib.hid hg
  have HO := Lib.hid ho
  have HD := Lib.hid hd
  have HL := Lib.hid hL
  have HT := Lib.hid hT
  have H0 := Lib.hid h0
  have HHC := Lib.hid HC
  have HBG := Lib.hid hbg
  have HBC := Lib.hid hbc
  rw [hL]
  clear hr hg ho hd hn hb h0 hL hT HC ht hbg hbc
  unfold ptr
  go_enter Tryz.func27, Tryz.ntmps27
  go_wp2
  go_loopg [8] L (fun m i wr => ∃ k : Nat, k + m = L ∧ i = .int .i64 k ∧ ∃ cad N cc, Hid (LayI w B s h d k wr cad N cc))
  case atStart =>
    exact ⟨0, by omega, rfl, _, _, _, H0⟩
  case round =>
    obtain ⟨k, hk, rfl, cad, N, cc, HI⟩ := hrel
    obtain ⟨hN, hrow, hblk, hchg, hat⟩ := HI.out
    have c0 : wr.cell? ⟨B.g, 0, none⟩ = some (.slice cad N cc) := hblk.cell 0
    have g0 : wr.frozen? ⟨B.g, 0, none⟩ = false := hblk.frozen 0
    have n1 : B.g < wr.heap.size := hblk.lt
    rw [HT.out] at hN
    rcases Nat.lt_or_ge k L with hkL | hkL
    · obtain ⟨x, hx⟩ := HHC.out k hkL
      obtain ⟨o0, o1, a0, a1⟩ := (HD.out).2 x (List.mem_of_getElem? hx)
      obtain ⟨e0, e1, e2⟩ := icells_at d k x hx
      have hcs : ∀ j u, (d.flatMap I3.cells)[j]? = some u → wr.cell? ⟨b, j, none⟩ = some u := fun j u hu => by
        obtain ⟨a, ha, hh⟩ := HR.out (by rintro he; rw [he] at hu; simp at hu)
        injection ha with ha
        have h1 := hh j u hu
        rw [← ha] at h1
        have h2 : (⟨b, 0, none⟩ : Addr).add j = ⟨b, j, none⟩ := by unfold Addr.add; split <;> simp_all
        rw [h2] at h1
        exact hchg.cell_some h1 (fun hk => hk.elim HBG.out HBC.out)
      have x0 := hcs _ _ e0
      have x1 := hcs _ _ e1
      have x2 := hcs _ _ e2
      have hlt : decide ((k : Int) < (L : Int)) = true := by simp; omega
      have hk0 : 0 ≤ (k : Int) := by omega
      have hk1 : (k : Int) < (L : Int) := by omega
      have iw1 : IntKind.i64.wrap ((k : Int) + 1) = (k : Int) + 1 := IntWalk.i64_in _ (by omega)
      have iw2 : IntKind.i64.wrap (x.a * 256) = x.a * 256 := IntWalk.i64_in _ (by omega)
      have iw3 : IntKind.i64.wrap x.op = x.op := IntWalk.i64_in _ (by omega)
      have HX := Lib.hid hx
      have hor := op_or x.a x.op o0 o1 a0 a1
      obtain ⟨V, hV⟩ : ∃ V, x.a * 256 + x.op = V := ⟨_, rfl⟩
      rw [hV] at hor
      have HV := Lib.hid hV
      have HRow := Lib.hid hrow
      have HBlk := Lib.hid hblk
      have HN := Lib.hid hN
      have hNb : N ≤ 302000 := by omega
      obtain ⟨i0, hi0, hz0, hz1, hz2⟩ := info_parts info33
      clear hrow hblk hchg hat e0 e1 e2 hcs hx hN hV c0 g0
      have H0i := Lib.hid (And.intro hi0 (And.intro hz0 (And.intro hz1 hz2)))
      clear hi0 hz0 hz1 hz2
      go_wp2
      obtain ⟨W, hW⟩ : ∃ W, wr.alloc (.cells #[.int .u8 x.op, .int .i64 x.a, .int .i64 x.w] 56) = W := ⟨_, rfl⟩
      have hBx : Blk W wr.heap.size 56 #[.int .u8 x.op, .int .i64 x.a, .int .i64 x.w] := by rw [← hW]; exact Blk.new wr _ _
      have hBg := (HBlk.out).alloc (.cells #[.int .u8 x.op, .int .i64 x.a, .int .i64 x.w] 56)
      rw [hW] at hBg
      have hRw : Row W 33 1 cad N cc (ints (codeOf s.ds ++ (d.take k).flatMap insCells)) := by rw [← hW]; exact (HRow.out).alloc _
      have hCw : Chg none_ wr W := by rw [← hW]; exact Chg.new _ _ _
      rw [hW]
      clear hW
      have x0 : W.cell? ⟨wr.heap.size, 0, none⟩ = some (.int .u8 x.op) := hBx.cell 0
      have x1 : W.cell? ⟨wr.heap.size, 1, none⟩ = some (.int .i64 x.a) := hBx.cell 1
      have x2 : W.cell? ⟨wr.heap.size, 2, none⟩ = some (.int .i64 x.w) := hBx.cell 2
      have c0 : W.cell? ⟨B.g, 0, none⟩ = some (.slice cad N cc) := hBg.cell 0
      have g0 : W.frozen? ⟨B.g, 0, none⟩ = false := hBg.frozen 0
      have n1 : B.g < W.heap.size := hBg.lt
      have n2 : wr.heap.size < W.heap.size := hBx.lt
      have HNE := Lib.hid (show ¬ inB cad B.g from fun hk => hRw.neBlk hBg (by decide) hk rfl)
      have HBg := Lib.hid hBg
      have HRw := Lib.hid hRw
      have HCw := Lib.hid hCw
      clear hBx hBg hRw hCw
      go_region_law
        (have _t := HBg; refine step_append_row (o := ⟨some 27, _, _, _, _, _⟩) _ (by rfl) _ _ 25 (by rfl) 33 i0 _ 1 8 Tryz.underlying25 (H0i.out).1 (H0i.out).2.1 (H0i.out).2.2.1 (H0i.out).2.2.2 (by rfl) (by decide) cad N cc (ints (codeOf s.ds ++ (d.take k).flatMap insCells)) (by rfl) (((HRw.out).alloc _).drew) (some ⟨W.heap.size, 0, none⟩) 2 2 [.int .i64 V, .int .i64 x.w] (by rfl) (Rd.of_blk (Blk.new W.drew 33 _)) (by rfl) (by simp [Value.oneCell']) (by unfold maxLen; omega) (by omega) ?_
         intro ad2 c2 w2 hrow2 hch2 hat2
         have HF2 := Lib.hid ((((HBg.out).alloc _).drew).chg hch2 HNE.out)
         have y0 : w2.cell? ⟨B.g, 0, none⟩ = some (.slice cad N cc) := HF2.out.cell 0
         have ff2 : w2.frozen? ⟨B.g, 0, none⟩ = false := HF2.out.frozen 0
         have HR2 := Lib.hid hrow2; have HC2 := Lib.hid hch2; have HA2 := Lib.hid hat2; clear hrow2 hch2 hat2)
      all_goals go_wp2
      all_goals (go_roundg (gk - 1))
      all_goals first | omega | skip
      all_goals exact ⟨k + 1, by omega, by simp, ad2, N + 2, c2, Lib.hid (HI.out.step HX.out HV.out (HCw.out.alloc _).drew HC2.out HR2.out HF2.out HA2.out)⟩
    · obtain rfl : k = L := by omega
      have HCW := Lib.hid (show Chg none_ wr wr from Chg.refl _ _)
      have hlt : decide ((k : Int) < (k : Int)) = false := by simp
      have g1 : wr.frozen? ⟨B.g, 1, none⟩ = false := hblk.frozen 1
      obtain ⟨M, hM⟩ : ∃ M, (endsOf s.ds).length = M := ⟨_, rfl⟩
      have c1 : wr.cell? ⟨B.g, 1, none⟩ = some (.slice h.ead M h.ec) := by have := hblk.cell 1; rw [← hM]; exact this
      have hMl : M < 300 := by rw [← hM, endsOf_len]; exact HNL.out
      have hE : Row wr 3 1 h.ead M h.ec (ints (endsOf s.ds)) := by
        have := (HG.out).ends
        rw [hM] at this
        exact this.chg hchg (fun i hi hk => hk.elim (HG.out.ends.neBlk HG.out.blk (by decide) hi) (fun hc => row_far HG.out.ends HG.out.code (by decide) hi hc))
      have HNE := Lib.hid (show ¬ inB h.ead B.g from fun hi => HG.out.ends.neBlk HG.out.blk (by decide) hi rfl)
      have HE := Lib.hid hE
      have HBlk := Lib.hid hblk
      have HM := Lib.hid hM
      have HN := Lib.hid hN
      have hNb : N ≤ 302000 := by omega
      obtain ⟨i0, hi0, hz0, hz1, hz2⟩ := info_parts info3
      have H0i := Lib.hid (And.intro hi0 (And.intro hz0 (And.intro hz1 hz2)))
      clear hi0 hz0 hz1 hz2 hrow hblk hchg hat hE hM hN
      go_wp2
      go_region_law
        (have _t := HE; refine step_append_row (o := ⟨some 42, _, _, _, _, _⟩) _ (by rfl) _ _ 68 (by rfl) 3 i0 _ 1 8 Tryz.underlying68 (H0i.out).1 (H0i.out).2.1 (H0i.out).2.2.1 (H0i.out).2.2.2 (by rfl) (by decide) h.ead M h.ec (ints (endsOf s.ds)) (by rfl) (((HE.out).alloc _).drew) (some ⟨wr.heap.size, 0, none⟩) 1 1 [.int .i64 (N : Int)] (by rfl) (Rd.of_blk (Blk.new wr.drew 3 _)) (by rfl) (by simp [Value.oneCell']) (by unfold maxLen; omega) (by omega) ?_
         intro ad2 c2 w2 hrow2 hch2 hat2
         have HF2 := Lib.hid ((((HBlk.out).alloc _).drew).chg hch2 HNE.out)
         have y0 : w2.cell? ⟨B.g, 1, none⟩ = some (.slice h.ead M h.ec) := by have := HF2.out.cell 1; rw [← HM.out]; exact this
         have ff2 : w2.frozen? ⟨B.g, 1, none⟩ = false := HF2.out.frozen 1
         have HR2 := Lib.hid hrow2; have HC2 := Lib.hid hch2; have HA2 := Lib.hid hat2; clear hrow2 hch2 hat2)
      all_goals go_end0
      all_goals exact ⟨rfl, HI.out.done HG.out HO.out HD.out HNL.out HL.out HM.out ((HCW.out.alloc _).drew) HC2.out HR2.out HF2.out HA2.out⟩
end Go.Proofs.YtgomjcnefadenaaGreatDoor
