/- The stack's own functions and slices.Clone at cells: what they return and what they change. Conditions: each contract's own premises; lengths are small. -/
import Derived.Test.YtgomjcnefadenaaGreatDoorProg
import Derived.Test.YtgomjcnefadenaaGreatDoorB0
import Derived.WalkSpells
import Derived.WalkLawsBesides
import Derived.Lib.SliceRun
import Derived.Lib.Hide
import Derived.KernelRfl
import Derived.Outline
namespace Go.Proofs.YtgomjcnefadenaaGreatDoor
open Go Go.RowKit

/-- Cells of numbers. -/
def ints (l : List Int) : List Value := l.map (Value.int .i64)
theorem ints_len (l : List Int) : (ints l).length = l.length := by simp [ints]
theorem ints_one (l : List Int) : ∀ u ∈ ints l, u.oneCell' = true := by
  intro u hu
  simp only [ints, List.mem_map] at hu
  obtain ⟨x, _, rfl⟩ := hu
  rfl
theorem ints_app (a b : List Int) : ints (a ++ b) = ints a ++ ints b := by simp [ints]
theorem ints_take (a : List Int) (n : Nat) : ints (a.take n) = (ints a).take n := by simp [ints]
theorem ints_drop (a : List Int) (n : Nat) : ints (a.drop n) = (ints a).drop n := by simp [ints]

theorem info33 : (Tryz.prog.info? 33).map (fun i => (i.zero, i.size, i.bytes)) = some (some (.int .i64 0), 1, 8) := by kernel_rfl

theorem eqnil25 (w : World) (a : Option Addr) (n c n' c' : Nat) : (binOp .eql 25 (.slice a n c) (.slice none n' c')).run Tryz.prog w = .ok (.bool a.isNone) w :=
  Lib.run_eql_slice_nil w _ _ a n c n' c' Tryz.underlying25

theorem clone_any (lad : Option Addr) (m lc : Nat) (xs : List Value) (w : World) (hr : Rd w lad xs) (hl : xs.length = m) (h1 : ∀ u ∈ xs, u.oneCell' = true) (hm : m ≤ 65536) :
    Calls Tryz.prog 31 #[.slice lad m lc] w fun e w' => ∃ ad c, e = .returned (.slice ad m c) ∧ Row w' 33 1 ad m c xs ∧ Chg none_ w w' ∧ ∀ k, inB ad k → w.heap.size ≤ k := by
  obtain ⟨i0, hi0, hz0, hz1, hz2⟩ := info_parts info33
  have q := eqnil25
  rcases lad with _ | a
  · have hx : xs = [] := by
      by_cases hx : xs = []
      · exact hx
      · obtain ⟨a, h, _⟩ := hr hx; cases h
    subst hx
    obtain rfl : m = 0 := by simpa using hl.symm
    go_enter Tryz.func31, Tryz.ntmps31
    go_wp2
    go_ret
    exact ⟨none, 0, rfl, Row.nil _ _ _, Chg.refl _ _, fun k hk => by obtain ⟨a, h, _⟩ := hk; cases h⟩
  · have hrow : ∀ w : World, Row (w.alloc (.cells #[] 33)) 33 1 (some ⟨w.heap.size, 0, none⟩) 0 0 [] := fun w => Row.mk (Blk.new _ _ _) (Nat.le_refl _) (by unfold maxLen; omega) rfl rfl
    have hR2 : Rd (w.alloc (.cells #[] 33)) (some a) xs := hr.chg (S := none_) ((Chg.refl _ _).alloc _) (fun _ _ h => h)
    have HL := Lib.hid hl
    clear hr hl
    go_enter Tryz.func31, Tryz.ntmps31
    go_wp2_with (at_builtin; refine wpList_append_row _ rfl _ _ 25 rfl 33 i0 _ 1 8 Tryz.underlying25 hi0 hz0 hz1 hz2 rfl (by decide) (some ⟨w.heap.size, 0, none⟩) 0 0 [] rfl (hrow w) (some a) m lc xs rfl hR2 (by rw [HL.out]; simp) h1 (by unfold maxLen; omega) (by omega) ?_; intro ad' c' w' hrow' hchg hat)
    simp only [Nat.zero_add, List.nil_append] at hrow'
    go_ret
    refine ⟨ad', c', by simp, hrow', ?_, ?_⟩
    · exact (((Chg.refl none_ w).alloc _)).trans' hchg (fun i hi => by obtain ⟨a, h, rfl⟩ := hi; injection h with h; subst h; exact .inr (Nat.le_refl _))
    · intro k hk
      rcases hat k hk with ⟨a, h, rfl⟩ | rfl
      · injection h with h; subst h; exact Nat.le_refl _
      · simp

/-- The stack at block sk: its cells, the uppermost last, in the row at ad. -/
structure Stk (w : World) (sk : Nat) (ad : Option Addr) (c : Nat) (xs : List Int) : Prop where
  blk : Blk w sk 83 #[.slice ad xs.length c]
  row : Row w 33 1 ad xs.length c (ints xs)
  le : xs.length ≤ 128

theorem Stk.ne {w : World} {sk : Nat} {ad : Option Addr} {c : Nat} {xs : List Int} (h : Stk w sk ad c xs) {k : Nat} (hk : inB ad k) : k ≠ sk := by
  rcases h.row.form with ⟨rfl, _⟩ | ⟨g, cur, rfl, hg, _⟩
  · obtain ⟨a, h, _⟩ := hk; cases h
  · obtain ⟨a, he, rfl⟩ := hk
    injection he with he; subst he
    exact hg.ne h.blk (by decide)

theorem depth_ok (w : World) (sk : Nat) (ad : Option Addr) (c : Nat) (xs : List Int) (h : Stk w sk ad c xs) :
    Calls Tryz.prog 19 #[.pointer (some ⟨sk, 0, none⟩)] w fun e w' => e = .returned (.int .i64 xs.length) ∧ w = w' := by
  have hc : w.cell? ⟨sk, 0, none⟩ = some (.slice ad xs.length c) := h.blk.cell 0
  clear h
  go_enter Tryz.func19, Tryz.ntmps19
  go_wp2
  go_ret
  exact ⟨rfl, rfl⟩

/-- What a stack's function changes: the stack, and its row. -/
def stkS (sk : Nat) (ad : Option Addr) : Nat → Prop := fun k => k = sk ∨ inB ad k

theorem put_ok (w : World) (sk : Nat) (ad : Option Addr) (c : Nat) (xs : List Int) (h : Stk w sk ad c xs) (lad : Option Addr) (m lc : Nat) (l : List Int) (hr : Rd w lad (ints l)) (hl : l.length = m) (hm : xs.length + m ≤ 128) :
    Calls Tryz.prog 12 #[.pointer (some ⟨sk, 0, none⟩), .slice lad m lc] w fun e w' => ∃ ad' c', e = .returned (.int .i64 0) ∧ Stk w' sk ad' c' (xs ++ l) ∧ Chg (stkS sk ad) w w' ∧ ∀ k, inB ad' k → inB ad k ∨ w.heap.size ≤ k := by
  obtain ⟨i0, hi0, hz0, hz1, hz2⟩ := info_parts info33
  have hne := fun k hk => h.ne (k := k) hk
  have HNE := Lib.hid hne
  have HB := Lib.hid h.blk
  have HRow := Lib.hid h.row
  have hc : w.cell? ⟨sk, 0, none⟩ = some (.slice ad xs.length c) := h.blk.cell 0
  have HL := Lib.hid hl
  have H := Lib.hid hr
  have hd : decide ((128 : Int) - (xs.length : Int) < (m : Int)) = false := by simp; omega
  clear h hl hr hne
  go_enter Tryz.func12, Tryz.ntmps12
  go_wp2_with (at_builtin; refine wpList_append_row _ rfl _ _ 25 rfl 33 i0 _ 1 8 Tryz.underlying25 hi0 hz0 hz1 hz2 rfl (by decide) ad xs.length c (ints xs) rfl HRow.out lad m lc (ints l) rfl H.out (by rw [ints_len, HL.out]; simp) (ints_one _) (by unfold maxLen; omega) (by omega) ?_; intro ad' c' w' hrow' hchg hat; have hc' : w'.cell? ⟨sk, 0, none⟩ = some (.slice ad xs.length c) := hchg.cell_some hc (fun hk => HNE.out _ hk rfl); have hf' : w'.frozen? ⟨sk, 0, none⟩ = false := (HB.out.chg hchg (fun hk => HNE.out _ hk rfl)).frozen 0; have HROW := Lib.hid hrow'; have HCHG := Lib.hid hchg; have HAT := Lib.hid hat; clear hrow' hchg hat)
  go_ret
  have hb' : Blk w' sk 83 #[.slice ad xs.length c] := HB.out.chg HCHG.out (fun hk => HNE.out _ hk rfl)
  have hlen : (xs ++ l).length = xs.length + m := by rw [List.length_append, HL.out]
  refine ⟨ad', c', rfl, ⟨?_, ?_, ?_⟩, ?_, ?_⟩
  · rw [hlen]
    exact hb'.set_ 0 _
  · rw [hlen, ints_app]
    refine (HROW.out).set_far 0 (fun hk => ?_) _
    rcases HAT.out _ hk with h | h
    · exact HNE.out _ h rfl
    · have := HB.out.lt; omega
  · omega
  · exact (HCHG.out.mono (fun i hi => Or.inr hi)).trans (Chg.set _ _ _ _ (.inl rfl) _)
  · intro k hk
    rcases HAT.out k hk with h | h
    · exact .inl h
    · exact .inr (by omega)

theorem put_over (w : World) (sk : Nat) (ad : Option Addr) (c : Nat) (xs : List Int) (h : Stk w sk ad c xs) (lad : Option Addr) (m lc : Nat) (hm : 128 < xs.length + m) :
    Calls Tryz.prog 12 #[.pointer (some ⟨sk, 0, none⟩), .slice lad m lc] w fun e w' => e = .returned (.int .i64 (-3)) ∧ w = w' := by
  have hle := h.le
  have hc : w.cell? ⟨sk, 0, none⟩ = some (.slice ad xs.length c) := h.blk.cell 0
  have hd : decide ((128 : Int) - (xs.length : Int) < (m : Int)) = true := by simp; omega
  clear h hm
  go_enter Tryz.func12, Tryz.ntmps12
  go_wp2
  go_ret
  exact ⟨rfl, rfl⟩

/-- One cell in a block of its own. -/
theorem rd_one (w : World) (x : Int) : Rd (w.alloc (.cells #[.int .i64 x] 33)) (some ⟨w.heap.size, 0, none⟩) (ints [x]) := Rd.of_blk (Blk.new w 33 #[.int .i64 x])

theorem Stk.chg {S : Nat → Prop} {w w' : World} {sk : Nat} {ad : Option Addr} {c : Nat} {xs : List Int} (h : Stk w sk ad c xs) (hc : Chg S w w') (hn : ∀ k, stkS sk ad k → ¬ S k) : Stk w' sk ad c xs :=
  ⟨h.blk.chg hc (hn sk (.inl rfl)), h.row.chg hc (fun k hk => hn k (.inr hk)), h.le⟩
theorem Stk.alloc {w : World} {sk : Nat} {ad : Option Addr} {c : Nat} {xs : List Int} (h : Stk w sk ad c xs) (o : Obj) : Stk (w.alloc o) sk ad c xs := ⟨h.blk.alloc o, h.row.alloc o, h.le⟩
theorem Stk.lt {w : World} {sk : Nat} {ad : Option Addr} {c : Nat} {xs : List Int} (h : Stk w sk ad c xs) : ∀ k, stkS sk ad k → k < w.heap.size := fun k hk => by
  rcases hk with rfl | hk
  · exact h.blk.lt
  · exact h.row.lt hk

theorem push_ok (w : World) (sk : Nat) (ad : Option Addr) (c : Nat) (xs : List Int) (h : Stk w sk ad c xs) (x : Int) (hm : xs.length < 128) :
    Calls Tryz.prog 66 #[.pointer (some ⟨sk, 0, none⟩), .int .i64 x] w fun e w' => ∃ ad' c', e = .returned (.int .i64 0) ∧ Stk w' sk ad' c' (xs ++ [x]) ∧ Chg (stkS sk ad) w w' ∧ ∀ k, inB ad' k → inB ad k ∨ w.heap.size ≤ k := by
  have H := Lib.hid (put_ok (w.alloc (.cells #[.int .i64 x] 33)) sk ad c xs (h.alloc _) (some ⟨w.heap.size, 0, none⟩) 1 1 [x] (rd_one w x) rfl (by omega))
  clear h hm
  go_enter Tryz.func66, Tryz.ntmps66
  go_wp2_with (go_at_call 12; refine (H.out).mono ?_; rintro e w' ⟨ad', c', rfl, hs, hch, hat⟩; have HS := Lib.hid hs; have HC := Lib.hid hch; have HA := Lib.hid hat; clear hs hch hat)
  go_ret
  refine ⟨ad', c', rfl, HS.out, ?_, ?_⟩
  · exact ((Chg.refl _ _).alloc _).trans HC.out
  · intro k hk
    rcases HA.out k hk with h | h
    · exact .inl h
    · simp at h; exact .inr (by omega)

theorem push_over (w : World) (sk : Nat) (ad : Option Addr) (c : Nat) (xs : List Int) (h : Stk w sk ad c xs) (x : Int) (hm : 128 ≤ xs.length) :
    Calls Tryz.prog 66 #[.pointer (some ⟨sk, 0, none⟩), .int .i64 x] w fun e w' => e = .returned (.int .i64 (-3)) ∧ Chg none_ w w' := by
  have H := Lib.hid (put_over (w.alloc (.cells #[.int .i64 x] 33)) sk ad c xs (h.alloc _) (some ⟨w.heap.size, 0, none⟩) 1 1 (by omega))
  clear h hm
  go_enter Tryz.func66, Tryz.ntmps66
  go_wp2_with (go_at_call 12; refine (H.out).mono ?_; rintro e w' ⟨rfl, rfl⟩)
  go_ret
  exact ⟨rfl, (Chg.refl _ _).alloc _⟩

/-- 's[k:]' under one name for its address. -/
theorem slice_from25 (A X : Option Addr) (n c k : Nat) (hk : k ≤ n) (hX : (if c = k then A else A.map (·.add (k * 1))) = X) (w : World) :
    (Instr.slice 25 (.slice A n c) (some (.int .i64 (k : Int))) none none).run Tryz.prog w = .ok (.slice X (n - k) (c - k)) w := by
  obtain ⟨i0, hi0, hz0, hz1, hz2⟩ := info_parts info33
  have he : Tryz.prog.elem 25 = 33 := by kernel_rfl
  have hu := Tryz.underlying25
  rw [run_slice_l w 25 A n c (by rw [he]; exact hu) .i64 k (by omega) (by omega)]
  rw [← hX]
  simp [he, sizeOf, typeInfo, hi0, hz1, sliced, Result.andThen]

theorem take_ok (w : World) (sk : Nat) (ad : Option Addr) (c : Nat) (a l : List Int) (h : Stk w sk ad c (a ++ l)) :
    Calls Tryz.prog 86 #[.pointer (some ⟨sk, 0, none⟩), .int .i64 l.length] w fun e w' => ∃ lad lc, e = .returned (.tuple #[.slice lad l.length lc, .int .i64 0]) ∧ Stk w' sk ad c a ∧ Row w' 33 1 lad l.length lc (ints l) ∧
      Chg (fun k => k = sk) w w' ∧ ∀ k, inB lad k → w.heap.size ≤ k := by
  have hc : w.cell? ⟨sk, 0, none⟩ = some (.slice ad (a.length + l.length) c) := by have := h.blk.cell 0; simpa using this
  have hle : a.length + l.length ≤ 128 := by have := h.le; simpa using this
  have hcap : a.length + l.length ≤ c := by have := h.row.le; simpa using this
  have hd0 : decide ((l.length : Int) < 0) = false := by simp
  have hd1 : decide ((a.length : Int) < 0) = false := by simp
  obtain ⟨X, hX⟩ : ∃ X, (if c = a.length then ad else ad.map (·.add (a.length * 1))) = X := ⟨_, rfl⟩
  have hcut : Rd w X (ints l) := by
    have := h.row.rd.cut a.length 1 c (fun e => by have := h.row.le; simp at this; rw [ints_len]; simp; omega)
    rw [hX, Nat.mul_one, ← ints_drop, List.drop_left] at this
    exact this
  have hsl : ∀ W : World, (Instr.slice 25 (.slice ad (a.length + l.length) c) (some (.int .i64 (a.length : Int))) none none).run Tryz.prog W = .ok (.slice X l.length (c - a.length)) W := fun W => by
    rw [slice_from25 ad X _ c a.length (by omega) hX W, Nat.add_sub_cancel_left]
  have HD := Lib.hid (depth_ok w sk ad c _ h)
  have HC := Lib.hid (clone_any X l.length (c - a.length) (ints l) w hcut (by rw [ints_len]) (ints_one _) (by omega))
  have H := Lib.hid h
  clear h hcut hX
  go_enter Tryz.func86, Tryz.ntmps86
  go_wp2_with (first | (go_at_call 19; refine (HD.out).mono ?_; rintro e w' ⟨rfl, rfl⟩) | (go_at_call 31; refine (HC.out).mono ?_; rintro e w' ⟨lad, lc, rfl, hr, hch, hat⟩; have hc2 := hch.cell_some hc (fun h => h); have hf2 := ((H.out).blk.chg hch (fun h => h)).frozen 0; have HR := Lib.hid hr; have HCH := Lib.hid hch; have HAT := Lib.hid hat; clear hr hch hat))
  go_ret2
  have hs' : Stk w' sk ad c (a ++ l) := (H.out).chg HCH.out (fun _ _ h => h)
  refine ⟨lad, lc, rfl, ⟨?_, ?_, by omega⟩, ?_, ?_, HAT.out⟩
  · exact hs'.blk.set_ 0 _
  · have := (hs'.row).front (k := a.length) (by simp)
    rw [Nat.mul_one, ← ints_take, List.take_left] at this
    exact this.set_far 0 (fun hk => hs'.ne hk rfl) _
  · exact (HR.out).set_far 0 (fun hk => by have h1 := HAT.out _ hk; have h2 := (H.out).blk.lt; omega) _
  · exact ((HCH.out).mono (fun _ h => h.elim)).trans (Chg.set (fun k => k = sk) w' sk 0 rfl _)

theorem take_under (w : World) (sk : Nat) (ad : Option Addr) (c : Nat) (xs : List Int) (h : Stk w sk ad c xs) (n : Int) (hn : (xs.length : Int) < n) (hn2 : n ≤ 65536) :
    Calls Tryz.prog 86 #[.pointer (some ⟨sk, 0, none⟩), .int .i64 n] w fun e w' => e = .returned (.tuple #[.slice none 0 0, .int .i64 (-4)]) ∧ w = w' := by
  have hd0 : decide (n < 0) = false := by simp; omega
  have hd1 : decide ((xs.length : Int) - n < 0) = true := by simp; omega
  have hle := h.le
  have HD := Lib.hid (depth_ok w sk ad c _ h)
  clear h
  go_enter Tryz.func86, Tryz.ntmps86
  go_wp2_with (first | (go_at_call 19; refine (HD.out).mono ?_; rintro e w' ⟨rfl, rfl⟩))
  go_ret2
  exact ⟨rfl, rfl⟩

theorem all_ok (w : World) (sk : Nat) (ad : Option Addr) (c : Nat) (xs : List Int) (h : Stk w sk ad c xs) :
    Calls Tryz.prog 22 #[.pointer (some ⟨sk, 0, none⟩)] w fun e w' => ∃ lad lc, e = .returned (.slice lad xs.length lc) ∧ Row w' 33 1 lad xs.length lc (ints xs) ∧ Chg none_ w w' ∧ ∀ k, inB lad k → w.heap.size ≤ k := by
  have hc : w.cell? ⟨sk, 0, none⟩ = some (.slice ad xs.length c) := h.blk.cell 0
  have hle := h.le
  have HC := Lib.hid (clone_any ad xs.length c (ints xs) w h.row.rd (by rw [ints_len]) (ints_one _) (by omega))
  clear h
  go_enter Tryz.func22, Tryz.ntmps22
  go_wp2_with (first | (go_at_call 31; refine (HC.out).mono ?_; rintro e w' ⟨lad, lc, rfl, hr, hch, hat⟩))
  go_ret
  exact ⟨lad, lc, rfl, hr, hch, hat⟩
end Go.Proofs.YtgomjcnefadenaaGreatDoor
