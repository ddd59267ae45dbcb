/- The memory: what its functions do where they may. Conditions: each contract's own premises. -/
import Derived.Test.YtgomjcnefadenaaGreatDoorE2
import Derived.Deep.LoopGhost
import Derived.Deep.OwnRows
namespace Go.Proofs.YtgomjcnefadenaaGreatDoor
open Go Go.RowKit Go.Deep

/-- The memory at block mm: N bytes in block bb, of which so many are given out. -/
structure MemI (w : World) (mm bb N : Nat) (here : Int) : Prop where
  blk : Blk w mm 141 #[.slice (some ⟨bb, 0, none⟩) N N, .int .i64 here]
  byt : ∃ l : List Int, Blk w bb 5 (l.map (Value.int .u8)).toArray ∧ l.length = N ∧ ∀ c ∈ l, 0 ≤ c ∧ c < 256
  n0 : 1024 ≤ N
  n1 : N ≤ 65536
  h0 : 0 ≤ here
  h1 : here ≤ N - 512

theorem MemI.chg {S : Nat → Prop} {w w' : World} {mm bb N : Nat} {here : Int} (h : MemI w mm bb N here) (hc : Chg S w w') (h1 : ¬ S mm) (h2 : ¬ S bb) : MemI w' mm bb N here := by
  obtain ⟨l, hl, hn, hb⟩ := h.byt
  exact ⟨h.blk.chg hc h1, ⟨l, hl.chg hc h2, hn, hb⟩, h.n0, h.n1, h.h0, h.h1⟩

theorem msize_ok (w : World) (mm bb N : Nat) (here : Int) (h : MemI w mm bb N here) : Calls Tryz.prog 237 #[ptr mm] w fun e w' => e = .returned (.int .i64 N) ∧ w = w' := by
  have c0 : w.cell? ⟨mm, 0, none⟩ = some (.slice (some ⟨bb, 0, none⟩) N N) := h.blk.cell 0
  clear h
  unfold ptr
  go_enter Tryz.func237, Tryz.ntmps237
  go_wp2
  go_ret
  exact ⟨rfl, rfl⟩
theorem mhere_ok (w : World) (mm bb N : Nat) (here : Int) (h : MemI w mm bb N here) : Calls Tryz.prog 81 #[ptr mm] w fun e w' => e = .returned (.int .i64 here) ∧ w = w' := by
  have c0 : w.cell? ⟨mm, 1, none⟩ = some (.int .i64 here) := h.blk.cell 1
  have iw : IntKind.i64.wrap here = here := IntWalk.i64_in _ (by have := h.h0; have := h.h1; have := h.n1; omega)
  clear h
  unfold ptr
  go_enter Tryz.func81, Tryz.ntmps81
  go_wp2
  go_ret
  exact ⟨rfl, rfl⟩

theorem allot_ok (w : World) (mm bb N : Nat) (here : Int) (h : MemI w mm bb N here) (n : Int) (hn0 : 0 ≤ n) (hn : n ≤ (N : Int) - 512 - here) :
    Calls Tryz.prog 82 #[ptr mm, .int .i64 n] w fun e w' => e = .returned (.int .i64 0) ∧ MemI w' mm bb N (here + n) ∧ Chg (fun k => k = mm) w w' := by
  have H := Lib.hid h
  have c0 : w.cell? ⟨mm, 0, none⟩ = some (.slice (some ⟨bb, 0, none⟩) N N) := h.blk.cell 0
  have c1 : w.cell? ⟨mm, 1, none⟩ = some (.int .i64 here) := h.blk.cell 1
  have f1 : w.frozen? ⟨mm, 1, none⟩ = false := h.blk.frozen 1
  obtain ⟨hh0, hh1, hm0, hm1⟩ : 0 ≤ here ∧ here ≤ (N : Int) - 512 ∧ 1024 ≤ N ∧ N ≤ 65536 := ⟨h.h0, h.h1, h.n0, h.n1⟩
  have iw1 : IntKind.i64.wrap ((N : Int) - 512) = (N : Int) - 512 := IntWalk.i64_in _ (by omega)
  have iw2 : IntKind.i64.wrap ((N : Int) - 512 - here) = (N : Int) - 512 - here := IntWalk.i64_in _ (by omega)
  have iw3 : IntKind.i64.wrap (-here) = -here := IntWalk.i64_in _ (by omega)
  have iw4 : IntKind.i64.wrap (here + n) = here + n := IntWalk.i64_in _ (by omega)
  have iw5 : IntKind.i64.wrap n = n := IntWalk.i64_in _ (by omega)
  have iw6 : IntKind.i64.wrap here = here := IntWalk.i64_in _ (by omega)
  have d1 : decide ((N : Int) - 512 - here < n) = false := by simp; omega
  have d2 : decide (n < -here) = false := by simp; omega
  clear h
  unfold ptr
  go_enter Tryz.func82, Tryz.ntmps82
  go_wp2
  go_quiet (fail)
  go_wp2
  go_ret
  have hc : Chg (fun k => k = mm) w ((w.drewN nq).setCell ⟨mm, 1, none⟩ (.int .i64 (here + n))) := ((Chg.refl (fun k => k = mm) w).drewN nq).setL (S := fun k => k = mm) 1 (by rfl) _
  obtain ⟨l, hl, hln, hlb⟩ := (H.out).byt
  have hne : bb ≠ mm := fun e => by
    have := (H.out).blk
    rw [e] at hl
    exact hl.ne this (by decide) rfl
  refine ⟨rfl, ⟨?_, ⟨l, hl.chg hc hne, hln, hlb⟩, hm0, hm1, by omega, by omega⟩, hc⟩
  have := Blk.set_ (w := w.drewN nq) (H.out).blk 1 (.int .i64 (here + n))
  simpa using this

theorem info5 : (Tryz.prog.info? 5).map (fun i => (i.zero, i.size, i.bytes)) = some (some (.int .u8 0), 1, 1) := by kernel_rfl
theorem run_slice79 (bb N : Nat) (a n : Nat) (hn : 0 < n) (h : a + n ≤ N) (w : World) :
    (Instr.slice 79 (.slice (some ⟨bb, 0, none⟩) N N) (some (.int .i64 (a : Int))) (some (.int .i64 ((a : Int) + (n : Int)))) (some (.int .i64 ((a : Int) + (n : Int))))).run Tryz.prog w = .ok (.slice (some ⟨bb, a, none⟩) n n) w := by
  obtain ⟨i0, hi0, hz0, hz1, hz2⟩ := info_parts info5
  have he : Tryz.prog.elem 79 = 5 := by kernel_rfl
  have hu := Tryz.underlying79
  rw [run_slice_lhm w 79 _ _ _ (by rw [he]; exact hu) .i64 .i64 .i64 (a : Int) ((a : Int) + (n : Int)) ((a : Int) + (n : Int)) (by omega) (by omega) (by omega) (by omega)]
  have e : ((a : Int) + (n : Int)).toNat = a + n := by omega
  have hn0 : n ≠ 0 := by omega
  have ea : (⟨bb, 0, none⟩ : Addr).add a = ⟨bb, a, none⟩ := by unfold Addr.add; split <;> simp_all
  simp [he, sizeOf, typeInfo, hi0, hz1, sliced, Result.andThen, e, hn0, ea]

theorem piece_ok (w : World) (mm bb N : Nat) (here : Int) (h : MemI w mm bb N here) (a n : Nat) (hn : 0 < n) (ha : a + n ≤ N) :
    Calls Tryz.prog 136 #[ptr mm, .int .i64 a, .int .i64 n] w fun e w' => e = .returned (.tuple #[.slice (some ⟨bb, a, none⟩) n n, .int .i64 0]) ∧ w = w' := by
  have HS := Lib.hid (msize_ok w mm bb N here h)
  have c0 : w.cell? ⟨mm, 0, none⟩ = some (.slice (some ⟨bb, 0, none⟩) N N) := h.blk.cell 0
  have hm1 := h.n1
  have hsl := run_slice79 bb N a n hn ha
  have d1 : decide ((a : Int) < 0) = false := by simp
  have d2 : decide ((N : Int) < (a : Int)) = false := by simp; omega
  have d2' : decide (N < a) = false := by simp; omega
  have d3 : decide ((n : Int) < 0) = false := by simp
  have iw1 : IntKind.i64.wrap ((N : Int) - (a : Int)) = (N : Int) - (a : Int) := IntWalk.i64_in _ (by omega)
  have iw2 : IntKind.i64.wrap ((a : Int) + (n : Int)) = (a : Int) + (n : Int) := IntWalk.i64_in _ (by omega)
  have iw3 : IntKind.i64.wrap (N : Int) = (N : Int) := IntWalk.i64_in _ (by omega)
  have d4 : decide ((N : Int) - (a : Int) < (n : Int)) = false := by simp; omega
  clear h hn ha hm1
  unfold ptr at *
  go_enter Tryz.func136, Tryz.ntmps136
  go_wp2_with (go_at_call 237; refine (HS.out).mono ?_; rintro e w' ⟨rfl, rfl⟩)
  go_ret2
  exact ⟨rfl, rfl⟩

theorem mcell_ok (w : World) (mm bb N : Nat) (here : Int) (h : MemI w mm bb N here) (a : Nat) (ha : a + 8 ≤ N) (h8 : a % 8 = 0) :
    Calls Tryz.prog 108 #[ptr mm, .int .i64 a] w fun e w' => e = .returned (.tuple #[.slice (some ⟨bb, a, none⟩) 8 8, .int .i64 0]) ∧ w = w' := by
  have HP := Lib.hid (piece_ok w mm bb N here h a 8 (by omega) ha)
  have hm1 := h.n1
  have d1 : ((a : Int).tmod 8 != 0) = false := by
    have : (a : Int).tmod 8 = 0 := by rw [Int.tmod_eq_emod_of_nonneg (by omega)]; omega
    simp [this]
  have d2 : ((a : Int) % 8 != 0) = false := by
    have : (a : Int) % 8 = 0 := by omega
    simp [this]
  have a0 : 0 ≤ (a : Int) := by omega
  have a1 : (a : Int) ≤ 70000 := by omega
  clear h ha hm1 h8
  unfold ptr at *
  go_enter Tryz.func108, Tryz.ntmps108
  go_wp2_with (go_at_call 136; refine (HP.out).mono ?_; rintro e w' ⟨rfl, rfl⟩)
  go_ret2
  exact ⟨rfl, rfl⟩

set_option maxRecDepth 100000 in
theorem mput_ok (w : World) (mm bb N : Nat) (here : Int) (h : MemI w mm bb N here) (a : Nat) (ha : a + 8 ≤ N) (h8 : a % 8 = 0) (x : Int) :
    Calls Tryz.prog 83 #[ptr mm, .int .i64 a, .int .i64 x] w fun e w' => e = .returned (.int .i64 0) ∧ MemI w' mm bb N here ∧ Chg (fun k => k = bb) w w' := by
  have HP := Lib.hid (mcell_ok w mm bb N here h a ha h8)
  have HM := Lib.hid h
  have hm1 := h.n1
  clear h
  unfold ptr at *
  go_enter Tryz.func83, Tryz.ntmps83
  go_wp2_with (go_at_call 108; refine (HP.out).mono ?_; rintro e w' ⟨rfl, rfl⟩)
  go_loopg [18] 8 (fun m i wr => ∃ k : Nat, k + m = 8 ∧ i = .int .i64 k ∧ Hid (MemI wr mm bb N here) ∧ Hid (Chg (fun k => k = bb) w wr))
  case atStart => exact ⟨0, by omega, rfl, HM, Lib.hid (Chg.refl _ _)⟩
  case round =>
    obtain ⟨k, hk, rfl, HI, HC⟩ := hrel
    rcases Nat.lt_or_ge k 8 with hlt | hge
    · have iwk : IntKind.i64.wrap ((k : Int) + 1) = (k : Int) + 1 := IntWalk.i64_in _ (by omega)
      have iw8 : IntKind.i64.wrap (8 * (k : Int)) = 8 * (k : Int) := IntWalk.i64_in _ (by omega)
      obtain ⟨l, hl, hln, hlb⟩ := HI.out.byt
      have hcell : wr.cell? ⟨bb, a + k, none⟩ = some (.int .u8 (l[a + k]?.getD 0)) := by
        rw [hl.cell, List.getElem?_toArray]
        simp [List.getElem?_eq_getElem (show a + k < l.length by omega)]
      have hfz : wr.frozen? ⟨bb, a + k, none⟩ = false := hl.frozen _
      have p0 : 0 ≤ (k : Int) := by omega
      have p1 : (k : Int) < 8 := by omega
      have q0 : 0 ≤ 8 * (k : Int) := by omega
      have HL := Lib.hid (And.intro hl (And.intro hln hlb))
      have HK := Lib.hid hk
      clear hl hln hlb hk
      go_wp2
      go_roundg (gk - 1)
      all_goals first | (have := HK.out; omega) | skip
      obtain ⟨hl, hln, hlb⟩ := HL.out
      have hv : 0 ≤ x / 2 ^ (8 * k) % 256 ∧ x / 2 ^ (8 * k) % 256 < 256 := by omega
      obtain ⟨V, hV⟩ : ∃ V, x / 2 ^ (8 * k) % 256 = V := ⟨_, rfl⟩
      rw [hV] at hv ⊢
      have hne : mm ≠ bb := fun e => by
        have := HI.out.blk
        rw [e] at this
        exact this.ne hl (by decide) rfl
      have hc : Chg (fun i => i = bb) wr (wr.setCell ⟨bb, a + k, none⟩ (.int .u8 V)) := Chg.set (fun i => i = bb) wr bb (a + k) rfl _
      refine ⟨k + 1, by have := HK.out; omega, by simp, Lib.hid ⟨HI.out.blk.chg hc hne, ⟨l.set (a + k) V, ?_, by rw [List.length_set]; exact hln, fun c hc => ?_⟩, HI.out.n0, HI.out.n1, HI.out.h0, HI.out.h1⟩, Lib.hid (HC.out.trans hc)⟩
      · have := hl.set_ (a + k) (.int .u8 V)
        simpa [List.map_set] using this
      · rcases List.mem_or_eq_of_mem_set hc with h1 | h1
        · exact hlb c h1
        · subst h1; exact hv
    · obtain rfl : k = 8 := by omega
      clear hk hge
      go_wp2
      go_ret
      exact ⟨rfl, HI.out, HC.out⟩

theorem comma_ok (w : World) (mm bb N : Nat) (here : Nat) (h : MemI w mm bb N here) (h8 : here % 8 = 0) (hn : (here : Int) + 8 ≤ (N : Int) - 512) (x : Int) :
    Calls Tryz.prog 48 #[ptr mm, .int .i64 x] w fun e w' => e = .returned (.int .i64 0) ∧ MemI w' mm bb N ((here : Int) + 8) ∧ Chg (fun k => k = mm ∨ k = bb) w w' := by
  have HH := Lib.hid (mhere_ok w mm bb N here h)
  have HA := Lib.hid (allot_ok w mm bb N here h 8 (by omega) (by omega))
  have hm1 := h.n1
  have HP := Lib.hid (fun W (hW : MemI W mm bb N ((here : Int) + 8)) => mput_ok W mm bb N _ hW here (by omega) h8 x)
  have d1 : ((here : Int).tmod 8 != 0) = false := by
    have : (here : Int).tmod 8 = 0 := by rw [Int.tmod_eq_emod_of_nonneg (by omega)]; omega
    simp [this]
  have d2 : ((here : Int) % 8 != 0) = false := by
    have : (here : Int) % 8 = 0 := by omega
    simp [this]
  have a0 : 0 ≤ (here : Int) := by omega
  have a1 : (here : Int) ≤ 70000 := by omega
  clear h hm1 hn h8
  unfold ptr at *
  go_enter Tryz.func48, Tryz.ntmps48
  go_wp2_with (first
    | (go_at_call 81; refine (HH.out).mono ?_; rintro e w' ⟨rfl, rfl⟩)
    | (go_at_call 82; refine (HA.out).mono ?_; rintro e w1 ⟨rfl, hM, hC⟩; have HM := Lib.hid hM; have HC := Lib.hid hC; clear hM hC)
    | (go_at_call 83; refine (HP.out _ HM.out).mono ?_; rintro e w2 ⟨rfl, hM, hC⟩; have HM2 := Lib.hid hM; have HC2 := Lib.hid hC; clear hM hC))
  go_ret
  exact ⟨rfl, HM2.out, (HC.out.mono (fun _ h => .inl h)).trans (HC2.out.mono (fun _ h => .inr h))⟩

theorem memnew_ok (w : World) (N : Nat) (h0 : 1024 ≤ N) (h1 : N ≤ 65536) (h8 : N % 8 = 0) : Calls Tryz.prog 47 #[.int .i64 N] w fun e w' => ∃ mm bb, e = .returned (.tuple #[ptr mm, .int .i64 0]) ∧ MemI w' mm bb N 0 ∧ Chg none_ w w' ∧ w.heap.size ≤ mm ∧ w.heap.size ≤ bb := by
  have hmk := run_make_row' (P := Tryz.prog) 79 5 (.int .u8 0) 1 Tryz.underlying79 info5 rfl .i64 .i64 N (by omega) (by omega)
  have d0 : decide ((N : Int) < 1024) = false := by simp; omega
  have d1 : decide ((65536 : Int) < (N : Int)) = false := by simp; omega
  have d2 : ((N : Int).tmod 8 != 0) = false := by
    have : (N : Int).tmod 8 = 0 := by rw [Int.tmod_eq_emod_of_nonneg (by omega)]; omega
    simp [this]
  have d3 : ((N : Int) % 8 != 0) = false := by
    have : (N : Int) % 8 = 0 := by omega
    simp [this]
  have a0 : 0 ≤ (N : Int) := by omega
  have a1 : (N : Int) ≤ 70000 := by omega
  have HN := Lib.hid (And.intro h0 (And.intro h1 h8))
  clear h0 h1 h8
  go_enter Tryz.func47, Tryz.ntmps47
  go_wp2
  refine bodyPost_ret (v := .tuple #[.pointer (some ⟨w.heap.size + 1, 0, none⟩), .int .i64 0]) (by simp [results, Tryz.results47, go_sem]) rfl ?_
  have e : (madeCells #[.int .u8 0] N) = ((List.replicate N (0 : Int)).map (Value.int .u8)).toArray := by
    apply Array.toList_inj.1
    simp only [madeCells]
    apply List.ext_getElem
    · simp
    · intro i h1 h2
      simp [Nat.mod_one]
  rw [e]
  obtain ⟨h0, h1, h8⟩ := HN.out
  refine ⟨w.heap.size + 1, w.heap.size, rfl, ⟨?_, ⟨List.replicate N 0, (Blk.new w 5 _).alloc _, by simp, fun c hc => ?_⟩, h0, h1, by omega, by omega⟩, (Chg.new _ _ _).alloc _, by omega, Nat.le_refl _⟩
  · have := Blk.new (w.alloc (.cells ((List.replicate N (0 : Int)).map (Value.int .u8)).toArray 5)) 141 #[.slice (some ⟨w.heap.size, 0, none⟩) N N, .int .i64 0]
    rw [World.size_alloc] at this
    exact this
  · have := (List.mem_replicate.1 hc).2
    omega
end Go.Proofs.YtgomjcnefadenaaGreatDoor
