/- built: an engine that has the words of the table. Conditions: each contract's own premises. -/
import Derived.Test.YtgomjcnefadenaaGreatDoorR2
import Derived.Test.YtgomjcnefadenaaGreatDoorT2
import Derived.Test.YtgomjcnefadenaaGreatDoorH3
namespace Go.Proofs.YtgomjcnefadenaaGreatDoor
open Go Go.RowKit

def allK : List (List UInt8 × Int × Int) := keysTo 5
def wordOf (x : List UInt8 × Int × Int) : Wrd := ⟨x.2.1, x.2.2, 0⟩
def tableWords : List Wrd := allK.map wordOf
theorem allK_len : allK.length = 180 := by kernel_rfl
theorem tw_len : tableWords.length = 180 := by rw [tableWords, List.length_map, allK_len]
def keyOk (x : List UInt8 × Int × Int) : Bool := decide (1 ≤ x.2.1 ∧ x.2.1 ≤ 4 ∧ 1 ≤ x.2.2 ∧ x.2.2 ≤ many x.2.1.toNat)
theorem allK_ok : allK.all keyOk = true := by kernel_rfl

theorem bcells_at (l : List Bt) (i j : Nat) (x : Bt) (h : l[i]? = some x) (hj : j < 5) : (l.flatMap Bt.cells)[i * 5 + j]? = x.cells[j]? := by
  induction l generalizing i with
  | nil => simp at h
  | cons g l ih =>
    have hl : g.cells.length = 5 := rfl
    rw [List.flatMap_cons]
    cases i with
    | zero =>
      simp only [List.getElem?_cons_zero, Option.some.injEq] at h
      subst h
      rw [Nat.zero_mul, Nat.zero_add, List.getElem?_append_left (by rw [hl]; exact hj)]
    | succ i =>
      simp only [List.getElem?_cons_succ] at h
      rw [List.getElem?_append_right (by rw [hl]; omega), hl, show (i + 1) * 5 + j - 5 = i * 5 + j from by omega]
      exact ih i h

/-- What an engine with the table's words is. -/
structure BuiltAt (w w' : World) (B : Blks) (bb : Nat) (s : St) : Prop where
  eng : Eng w' B s (fun k => (k = B.g ∨ k = B.fr ∨ k = B.sk) ∨ (w.heap.size ≤ k ∧ k ≠ B.st ∧ k ≠ B.tl ∧ k ≠ B.mm ∧ k ≠ bb))
  chg : Chg none_ w w'
  st : Blk w' B.st 81 #[ptr B.tl, ptr B.sk, ptr B.mm, .slice none 0 0]
  tl : Blk w' B.tl 115 #[.slice none 0 0]
  mem : MemI w' B.mm bb 1024 8
  new : ∀ k, (k = B.g ∨ k = B.fr ∨ k = B.sk) → w.heap.size ≤ k

theorem MadeAt.built {w w1 w2 : World} {B : Blks} {bb : Nat} {s : St} (H : MadeAt w w1 B bb) (hg : Goes B w1 (fun k => k = B.g ∨ k = B.fr ∨ k = B.sk) w2 s) : BuiltAt w w2 B bb s := by
  have s1 := H.chg.size
  have l1 := H.st.lt
  have l2 := H.tl.lt
  have l3 := H.mem.blk.lt
  obtain ⟨l, hl, hln, hlb⟩ := H.mem.byt
  have l4 := hl.lt
  obtain ⟨h, hG, _⟩ := H.eng
  have n1 : ∀ k, (k = B.st ∨ k = B.tl ∨ k = B.mm ∨ k = bb) → ¬ (k = B.g ∨ k = B.fr ∨ k = B.sk) := by
    rintro k (rfl | rfl | rfl | rfl) (e | e | e)
    · exact H.st.ne hG.blk (by decide) e
    · exact H.st.ne hG.frs.blk (by decide) e
    · exact H.st.ne hG.stk.blk (by decide) e
    · exact H.tl.ne hG.blk (by decide) e
    · exact H.tl.ne hG.frs.blk (by decide) e
    · exact H.tl.ne hG.stk.blk (by decide) e
    · exact H.mem.blk.ne hG.blk (by decide) e
    · exact H.mem.blk.ne hG.frs.blk (by decide) e
    · exact H.mem.blk.ne hG.stk.blk (by decide) e
    · exact hl.ne hG.blk (by decide) e
    · exact hl.ne hG.frs.blk (by decide) e
    · exact hl.ne hG.stk.blk (by decide) e
  have hnew : ∀ k, (k = B.g ∨ k = B.fr ∨ k = B.sk) → w.heap.size ≤ k := fun k hk => by
    rcases hk with h | h | h <;> subst h
    · exact H.ng
    · exact H.nf
    · exact H.nk
  refine ⟨hg.eng.mono (fun k hk => hk.imp id (fun h => ⟨by omega, by omega, by omega, by omega, by omega⟩)), H.chg.trans' hg.chg (fun i hi => ?_), H.st.chg hg.chg (n1 _ (.inl rfl)), H.tl.chg hg.chg (n1 _ (.inr (.inl rfl))), H.mem.chg hg.chg (n1 _ (.inr (.inr (.inl rfl)))) (n1 _ (.inr (.inr (.inr rfl)))), hnew⟩
  exact .inr (hnew i hi)

theorem tw_succ (i : Nat) (x : List UInt8 × Int × Int) (h : allK[i]? = some x) : tableWords.take (i + 1) = tableWords.take i ++ [wordOf x] := by
  have hi : i < allK.length := by
    rcases Nat.lt_or_ge i allK.length with h1 | h1
    · exact h1
    · rw [List.getElem?_eq_none h1] at h; cases h
  rw [List.getElem?_eq_getElem hi] at h
  injection h with h
  unfold tableWords
  rw [← List.map_take, List.take_succ_eq_append_getElem hi, h, List.map_append, List.map_take]
  rfl

/-- One word is added. -/
theorem addKey_ok (w : World) (B : Blks) (O : Nat → Prop) (i : Nat) (x : List UInt8 × Int × Int) (hx : allK[i]? = some x) (hM : MaxL w) (H : Eng w B { st0 with ws := tableWords.take i } O) :
    Calls Tryz.prog 9 #[ptr B.g, .agg #[.int .i64 x.2.1, .int .i64 x.2.2, .int .i64 0]] w fun e w' => e = .returned (.tuple #[.int .i64 ((i : Int) + 1), .int .i64 0]) ∧ Goes B w O w' { st0 with ws := tableWords.take (i + 1) } := by
  have hi : i < 180 := by
    rcases Nat.lt_or_ge i allK.length with h1 | h1
    · rw [allK_len] at h1; exact h1
    · rw [List.getElem?_eq_none h1] at hx; cases hx
  have hl : (tableWords.take i).length = i := by rw [List.length_take, tw_len]; omega
  have hok := List.all_eq_true.1 allK_ok x (List.mem_of_getElem? hx)
  unfold keyOk at hok
  have hok := of_decide_eq_true hok
  obtain ⟨k1, k2, n1, n2⟩ := hok
  obtain ⟨k, hk⟩ : ∃ k : Nat, x.2.1 = (k : Int) := ⟨x.2.1.toNat, by omega⟩
  obtain ⟨n, hn⟩ : ∃ n : Nat, x.2.2 = (n : Int) := ⟨x.2.2.toNat, by omega⟩
  rw [hk] at k1 k2 n2
  rw [hn] at n1 n2
  rw [Int.toNat_natCast] at n2
  have := add_ok w B { st0 with ws := tableWords.take i } O H (wordOf x) (by rw [hl]; omega) (fun W hW => by
    unfold wordOf
    rw [hk, hn]
    exact mayTable W (hM.chg hW (fun h => h)) (ptr B.g) k (by omega) (by omega) n (by omega) (by omega) 0)
  simp only [hl] at this
  rw [tw_succ i x hx]
  exact this

set_option maxRecDepth 100000 in
set_option maxHeartbeats 1000000 in
theorem built_ok (w : World) (hM : MaxL w) : Calls Tryz.prog 7 #[] w fun e w' => ∃ B bb, e = .returned (ptr B.g) ∧ BuiltAt w w' B bb { st0 with ws := tableWords } := by
  have HMD := Lib.hid (made_ok w)
  have HALL := Lib.hid rall_ok
  have HM := Lib.hid hM
  clear hM
  unfold ptr at *
  go_enter Tryz.func7, Tryz.ntmps7
  go_wp2_with fail
  refine (HMD.out).mono ?_
  rintro e W1 ⟨B, bb, rfl, hmade⟩
  have HMA := Lib.hid hmade
  clear hmade
  go_wp2_with fail
  refine (HALL.out _).mono ?_
  rintro e W2 ⟨L, ad, c, rfl, hall⟩
  have HA := Lib.hid hall
  have hEng2 := HMA.out.eng.keep hall.chg
  have HG0 := Lib.hid (Goes.same hEng2 (Chg.refl none_ W2))
  obtain ⟨ga, hga⟩ : ∃ ga, ad = some ⟨ga, 0, none⟩ := by
    rcases hall.row.form with ⟨_, h, _⟩ | ⟨ga, _, h, _⟩
    · omega
    · exact ⟨ga, h⟩
  subst hga
  have HM2 := Lib.hid ((HM.out.chg HMA.out.chg (fun h => h)).chg hall.chg (fun h => h))
  clear hall hEng2
  go_wp2_with fail
  go_loopg [9] 180 (fun m iv wr => ∃ i : Nat, i + m = 180 ∧ iv = .int .i64 i ∧ Hid (Goes B W2 (fun k => k = B.g ∨ k = B.fr ∨ k = B.sk) wr { st0 with ws := tableWords.take i }))
  case atStart => exact ⟨0, by omega, rfl, Lib.hid HG0.out⟩
  case round =>
    obtain ⟨i, hi, rfl, HG⟩ := hrel
    have hE : ∀ q, W1.heap.size ≤ q → ¬ (q = B.g ∨ q = B.fr ∨ q = B.sk) := fun q hq hk => by
      obtain ⟨h, hG, _⟩ := HMA.out.eng
      have l1 := hG.blk.lt
      have l2 := hG.frs.blk.lt
      have l3 := hG.stk.blk.lt
      rcases hk with h | h | h <;> omega
    rcases Nat.lt_or_ge i 180 with hlt | hge
    · have hil : i < L.length := by rw [HA.out.len]; exact hlt
      obtain ⟨b, hb⟩ : ∃ b, L[i]? = some b := ⟨L[i], List.getElem?_eq_getElem hil⟩
      have hkey : allK[i]? = some b.key := by
        have := HA.out.key
        unfold allK
        rw [← this, List.getElem?_map, hb]
        rfl
      have hrow := HA.out.row.chg HG.out.chg (fun q hq => hE q (HA.out.new q hq))
      have hcell : ∀ j, j < 5 → wr.cell? ⟨ga, i * 5 + j, none⟩ = b.cells[j]? := fun j hj => by
        obtain ⟨g', hg', hc, _⟩ := hrow.cell (j := i * 5 + j) (by rw [bcells_len, HA.out.len]; omega)
        injection hg' with hg'; injection hg' with hg' _ _; subst hg'
        rw [hc, ← bcells_at L i j b hb hj, List.getElem?_eq_getElem]
      have y0 := hcell 0 (by omega)
      have y1 := hcell 1 (by omega)
      have y2 := hcell 2 (by omega)
      have y3 := hcell 3 (by omega)
      have y4 := hcell 4 (by omega)
      simp only [Bt.cells, strV, List.getElem?_cons_zero, List.getElem?_cons_succ, Nat.add_zero] at y0 y1 y2 y3 y4
      have HADD := Lib.hid (fun W (hW : Chg none_ wr W) => addKey_ok W B _ i b.key hkey ((HM2.out.chg HG.out.chg (fun h => by obtain ⟨m, hm⟩ := HM.out; have h1 := block_lt_of_cell hm; simp only at h1; have := HMA.out.ng; have := HMA.out.nf; have := HMA.out.nk; rcases h with h | h | h <;> omega)).chg hW (fun h => h)) (HG.out.eng.keep hW))
      obtain ⟨nm, bk, bn, now, only⟩ := b
      simp only [Bt.key] at HADD
      obtain ⟨sv, hsv⟩ : ∃ sv : ByteArray, (⟨nm.toArray⟩ : ByteArray) = sv := ⟨_, rfl⟩
      simp only at y0 y1 y2 y3 y4
      rw [hsv] at y0
      have p0 : 0 ≤ (i : Int) := by omega
      have p1 : (i : Int) < 180 := by omega
      have iwi : IntKind.i64.wrap ((i : Int) + 1) = (i : Int) + 1 := IntWalk.i64_in _ (by omega)
      have HI := Lib.hid hi
      clear hi hil hb hkey hrow hcell hsv hE
      unfold ptr at *
      go_wp2_with (go_at_call 9; refine (HADD.out _ (Chg.new none_ wr _)).mono ?_; rintro e w3 ⟨rfl, hgo⟩; have HGO := Lib.hid (Goes.pre (Chg.new none_ wr _) hgo); clear hgo)
      go_roundg (gk - 1)
      all_goals first | (have := HI.out; omega) | skip
      all_goals exact ⟨i + 1, by have := HI.out; omega, by simp, Lib.hid (HG.out.trans HGO.out)⟩
    · obtain rfl : i = 180 := by omega
      go_wp2
      go_ret
      have hG := HG.out
      rw [List.take_of_length_le (by rw [tw_len]; omega)] at hG
      exact ⟨B, rfl, bb, HMA.out.built (Goes.pre HA.out.chg hG)⟩
end Go.Proofs.YtgomjcnefadenaaGreatDoor
