/- EngineLocals: the calls of the law. Conditions: each contract's own premises. -/
import Derived.Test.YtgomjcnefadenaaGreatDoorZ1
namespace Go.Proofs.YtgomjcnefadenaaGreatDoor
open Go Go.RowKit

/-- 's[:k]' of a []Cell. -/
theorem slice_to25 (A : Option Addr) (n c k : Nat) (hk : k ≤ c) (w : World) :
    (Instr.slice 25 (.slice A n c) none (some (.int .i64 (k : Int))) none).run Tryz.prog w = .ok (.slice A k c) w := by
  obtain ⟨i0, hi0, hz0, hz1, hz2⟩ := info_parts info33
  have he : Tryz.prog.elem 25 = 33 := by kernel_rfl
  have hu := Tryz.underlying25
  rw [run_slice_h w 25 A n c (by rw [he]; exact hu) .i64 k (by omega) (by omega)]
  simp [he, sizeOf, typeInfo, hi0, sliced, Result.andThen, Addr.add]

def s0L : St := ⟨[], tableWords, [], [], 0, 0, 0⟩
def s1L : St := ⟨[dI], tableWords, [], [], 0, 0, 0⟩
def s2L : St := ⟨[dI], tableWords ++ [⟨5, 1, 0⟩], [], [], 0, 0, 0⟩
def s3L (n k : Nat) (x : Int) : St := ⟨[dI, dL n k x], tableWords ++ [⟨5, 1, 0⟩], [], [], 0, 0, 0⟩

theorem def1 (W : World) (B : Blks) (E : Nat → Prop) (H : Eng W B s0L E) (b : Nat) (hr : Rd W (some ⟨b, 0, none⟩) (dI.flatMap I3.cells)) (hb : ¬ E b) :
    Calls Tryz.prog 8 #[ptr B.g, .agg #[.slice (some ⟨b, 0, none⟩) 4 4]] W fun e w' => e = .returned (.tuple #[.int .i64 1, .int .i64 0]) ∧ Goes B W E w' s1L :=
  define_ok W B s0L E H dI 1 (List.replicate 4 0) (by rw [show s0L.ws.length = 180 from tw_len]; exact dI_may) (by show (0 : Nat) < 300; omega) b 4 hr hb
theorem add1 (W : World) (B : Blks) (E : Nat → Prop) (H : Eng W B s1L E) :
    Calls Tryz.prog 9 #[ptr B.g, .agg #[.int .i64 5, .int .i64 1, .int .i64 0]] W fun e w' => e = .returned (.tuple #[.int .i64 181, .int .i64 0]) ∧ Goes B W E w' s2L := by
  have := add_ok W B s1L E H ⟨5, 1, 0⟩ (by rw [show s1L.ws.length = 180 from tw_len]; omega) (fun W' hW' => mayColon W' B _ E (H.keep hW') 1 (by omega) (by show (1 : Nat) ≤ 1; omega) 0)
  rw [show s1L.ws.length = 180 from tw_len] at this
  exact this
theorem def2 (n k : Nat) (x : Int) (h1 : 1 ≤ n) (h16 : n ≤ 16) (hk : k < n) (W : World) (B : Blks) (E : Nat → Prop) (H : Eng W B s2L E) (b lc : Nat) (hr : Rd W (some ⟨b, 0, none⟩) ((dL n k x).flatMap I3.cells)) (hb : ¬ E b) :
    Calls Tryz.prog 8 #[ptr B.g, .agg #[.slice (some ⟨b, 0, none⟩) (n + 6) lc]] W fun e w' => e = .returned (.tuple #[.int .i64 2, .int .i64 0]) ∧ Goes B W E w' (s3L n k x) := by
  have hl : s2L.ws.length = 181 := by show (tableWords ++ [_]).length = 181; rw [List.length_append, tw_len]; rfl
  have := define_ok W B s2L E H (dL n k x) n (List.replicate (n + 6) 0) (by rw [hl]; exact dL_may n k x h1 h16 hk) (by show (1 : Nat) < 300; omega) b lc hr hb
  rw [dL_len] at this
  exact this
theorem add2 (n k : Nat) (x : Int) (W : World) (B : Blks) (E : Nat → Prop) (H : Eng W B (s3L n k x) E) :
    Calls Tryz.prog 9 #[ptr B.g, .agg #[.int .i64 5, .int .i64 2, .int .i64 0]] W fun e w' => e = .returned (.tuple #[.int .i64 182, .int .i64 0]) ∧ Goes B W E w' (sL n k x [] [] 0 0 0) := by
  have hl : (s3L n k x).ws.length = 181 := by show (tableWords ++ [_]).length = 181; rw [List.length_append, tw_len]; rfl
  have := add_ok W B (s3L n k x) E H ⟨5, 2, 0⟩ (by rw [hl]; omega) (fun W' hW' => mayColon W' B _ E (H.keep hW') 2 (by omega) (by show (2 : Nat) ≤ 2; omega) 0)
  rw [hl] at this
  have e : ((s3L n k x).ws ++ [⟨5, 2, 0⟩] : List Wrd) = wsL := by
    show (tableWords ++ [⟨5, 1, 0⟩]) ++ [⟨5, 2, 0⟩] = wsL
    unfold wsL
    rw [List.append_assoc]
    rfl
  rw [e] at this
  exact this
theorem put1 (n k : Nat) (x : Int) (W : World) (B : Blks) (E : Nat → Prop) (H : Eng W B (sL n k x [] [] 0 0 0) E) (lad : Option Addr) (lc : Nat) (y : List Int) (hr : Rd W lad (ints y)) (hy : y.length = n) (h16 : n ≤ 16) :
    Calls Tryz.prog 12 #[ptr B.sk, .slice lad n lc] W fun e w' => e = .returned (.int .i64 0) ∧ Goes B W E w' (sL n k x [] y 0 0 0) :=
  eput_ok W B (sL n k x [] [] 0 0 0) E H lad n lc y hr hy (by show 0 + n ≤ 128; omega)
theorem exec1 (n k : Nat) (x : Int) (y : List Int) (W : World) (B : Blks) (E : Nat → Prop) (H : Eng W B (sL n k x [] y 0 0 0) E) :
    Calls Tryz.prog 15 #[ptr B.g, .int .i64 182] W fun e w' => e = .returned (.int .i64 0) ∧ Goes B W E w' (sL n k x [] y 0 0 182) :=
  exec_ok W B _ E H 181 ⟨5, 2, 0⟩ wsL_181
theorem run1 (n k : Nat) (x : Int) (y : List Int) (hy : y.length = n) (h1 : 1 ≤ n) (h16 : n ≤ 16) (hk : k < n) (W : World) (B : Blks) (E : Nat → Prop) (H : Eng W B (sL n k x [] y 0 0 182) E) :
    Calls Tryz.prog 16 #[ptr B.g, .int .i64 200] W fun e w' => e = .returned (.agg #[.int .i64 5, .int .i64 0, .int .i64 0]) ∧ Goes B W E w' (sL n k x [] (y.set k x) 0 0 0) := by
  obtain ⟨m, hm, hr⟩ := locals_runs y n k x hy h1 h16 hk
  exact run_ok m _ _ hr (locals_halt n k x _) 200 hm (by omega) W B E H
theorem efdepth_ok (w : World) (B : Blks) (s : St) (O : Nat → Prop) (H : Eng w B s O) : Calls Tryz.prog 18 #[ptr B.fr] w fun e w' => e = .returned (.int .i64 s.fs.length) ∧ w = w' := by
  obtain ⟨h, hg, ho⟩ := H
  have hl : h.fs.length = s.fs.length := by rw [← hg.log, List.length_map]
  rw [← hl]
  exact fdepth_ok w B.fr h.fad h.fc h.fs hg.frs
theorem info56 : (Tryz.prog.info? 56).map (fun i => (i.zero, i.size, i.bytes)) = some (some (.agg #[.int .u8 0, .int .i64 0, .int .i64 0]), 3, 24) := by kernel_rfl
theorem icells_one (x : I3) : ∀ u ∈ x.cells, u.oneCell' = true := by
  intro u hu
  simp only [I3.cells, List.mem_cons, List.not_mem_nil, or_false] at hu
  rcases hu with rfl | rfl | rfl <;> rfl

theorem eall1 (n k : Nat) (x : Int) (y : List Int) (hy : y.length = n) (W : World) (B : Blks) (E : Nat → Prop) (H : Eng W B (sL n k x [] y 0 0 0) E) :
    Calls Tryz.prog 22 #[ptr B.sk] W fun e w' => ∃ lad lc, e = .returned (.slice lad n lc) ∧ Row w' 33 1 lad n lc (ints y) ∧ Chg none_ W w' := by
  have := eall_ok W B _ E H
  rw [show (sL n k x [] y 0 0 0).xs.length = n from hy] at this
  exact this
theorem same1 (w : World) (l : List Int) (n : Nat) (hn : l.length = n) (aa ab : Option Addr) (ca cb : Nat) (ha : Row w 33 1 aa n ca (ints l)) (hb : Row w 33 1 ab n cb (ints l)) (hl : n ≤ 1000) :
    Calls Tryz.prog 21 #[.slice aa n ca, .slice ab n cb] w fun e w' => e = .returned (.bool true) ∧ Chg none_ w w' := by
  subst hn
  exact same_rows w l aa ab ca cb ha hb hl
theorem depth1 (n k : Nat) (x : Int) (y : List Int) (W : World) (B : Blks) (E : Nat → Prop) (H : Eng W B (sL n k x [] y 0 0 0) E) :
    Calls Tryz.prog 18 #[ptr B.fr] W fun e w' => e = .returned (.int .i64 0) ∧ W = w' := efdepth_ok W B _ E H
end Go.Proofs.YtgomjcnefadenaaGreatDoor
