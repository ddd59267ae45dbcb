/- A new engine. Conditions: each contract's own premises. -/
import Derived.Test.YtgomjcnefadenaaGreatDoorT1
namespace Go.Proofs.YtgomjcnefadenaaGreatDoor
open Go Go.RowKit

theorem stacknew_ok (w : World) : Calls Tryz.prog 49 #[] w fun e w' => e = .returned (ptr w.heap.size) ∧ w' = w.alloc (.cells #[.slice none 0 0] 83) := by
  unfold ptr
  go_enter Tryz.func49, Tryz.ntmps49
  go_wp2
  go_ret
  exact ⟨rfl, rfl⟩
theorem framenew_ok (w : World) : Calls Tryz.prog 50 #[] w fun e w' => e = .returned (ptr w.heap.size) ∧ w' = w.alloc (.cells #[.slice none 0 0] 86) := by
  unfold ptr
  go_enter Tryz.func50, Tryz.ntmps50
  go_wp2
  go_ret
  exact ⟨rfl, rfl⟩
def inpCells : Array Value := #[.string ByteArray.empty, .int .i64 0, .int .i64 0, .slice none 0 0, .int .i64 0, .int .i64 0]
theorem sourcenew_ok (w : World) : Calls Tryz.prog 35 #[] w fun e w' => e = .returned (ptr w.heap.size) ∧ Chg none_ w w' ∧ w.heap.size < w'.heap.size := by
  unfold ptr
  go_enter Tryz.func35, Tryz.ntmps35
  go_wp2
  go_ret
  exact ⟨rfl, Chg.new _ _ _, by simp⟩

theorem primnew_ok (w : World) : Calls Tryz.prog 32 #[.int .i64 1024] w fun e w' => ∃ tl sk mm bb st, e = .returned (.tuple #[ptr st, .int .i64 0]) ∧ Blk w' st 81 #[ptr tl, ptr sk, ptr mm, .slice none 0 0] ∧ Blk w' tl 115 #[.slice none 0 0] ∧
    Blk w' sk 83 #[.slice none 0 0] ∧ MemI w' mm bb 1024 8 ∧ Chg none_ w w' ∧ w.heap.size ≤ tl ∧ w.heap.size ≤ sk ∧ w.heap.size ≤ mm ∧ w.heap.size ≤ bb ∧ w.heap.size ≤ st := by
  have HM := Lib.hid (memnew_ok w 1024 (by omega) (by omega) (by omega))
  have HC := Lib.hid (fun W mm bb (hW : MemI W mm bb 1024 0) => comma_ok W mm bb 1024 0 hW (by omega) (by omega) 10)
  have HS := Lib.hid stacknew_ok
  unfold ptr at *
  go_enter Tryz.func32, Tryz.ntmps32
  go_wp2_with fail
  refine (HM.out).mono ?_
  rintro e W1 ⟨mm, bb, rfl, hm, hc, h1, h2⟩
  have H1 := Lib.hid (And.intro hm (And.intro hc (And.intro h1 h2)))
  clear hm hc h1 h2
  go_wp2_with fail
  refine (HC.out _ _ _ H1.out.1).mono ?_
  rintro e W2 ⟨rfl, hm2, hc2⟩
  have H2 := Lib.hid (And.intro hm2 hc2)
  clear hm2 hc2
  go_wp2_with fail
  refine (HS.out _).mono ?_
  rintro e W3 ⟨rfl, rfl⟩
  go_wp2
  refine bodyPost_ret (v := .tuple #[.pointer (some ⟨W2.heap.size + 1 + 1, 0, none⟩), .int .i64 0]) (by simp [results, Tryz.results32, go_sem]) rfl ?_
  obtain ⟨hm, hc, h1, h2⟩ := H1.out
  obtain ⟨hm2, hc2⟩ := H2.out
  have hcw : Chg none_ w W2 := hc.trans' hc2 (fun i hi => by rcases hi with rfl | rfl <;> exact .inr (by assumption))
  have hs := hcw.size
  refine ⟨W2.heap.size, W2.heap.size + 1, mm, bb, W2.heap.size + 1 + 1, rfl, ?_, ((Blk.new W2 115 _).alloc _).alloc _, ?_, ((hm2.chg (Chg.new none_ W2 _) (fun h => h) (fun h => h)).chg (Chg.new none_ _ _) (fun h => h) (fun h => h)).chg (Chg.new none_ _ _) (fun h => h) (fun h => h), ((hcw.alloc _).alloc _).alloc _, hs, by omega, h1, h2, by omega⟩
  · have := Blk.new ((W2.alloc (.cells #[.slice none 0 0] 115)).alloc (.cells #[.slice none 0 0] 83)) 81 #[.pointer (some ⟨W2.heap.size, 0, none⟩), .pointer (some ⟨W2.heap.size + 1, 0, none⟩), .pointer (some ⟨mm, 0, none⟩), .slice none 0 0]
    simp only [World.size_alloc] at this
    exact this
  · have := (Blk.new (W2.alloc (.cells #[.slice none 0 0] 115)) 83 #[.slice none 0 0]).alloc (.cells #[.pointer (some ⟨W2.heap.size, 0, none⟩), .pointer (some ⟨W2.heap.size + 1, 0, none⟩), .pointer (some ⟨mm, 0, none⟩), .slice none 0 0] 81)
    simp only [World.size_alloc] at this
    exact this

def st0 : St := ⟨[], [], [], [], 0, 0, 0⟩

theorem engnew_ok (w : World) (st inp tl sk mm : Nat) (hst : ∃ mv, Blk w st 81 #[ptr tl, ptr sk, ptr mm, mv]) (hsk : Blk w sk 83 #[.slice none 0 0]) :
    Calls Tryz.prog 34 #[ptr st, ptr inp] w fun e w' => ∃ g fr, e = .returned (ptr g) ∧ Chg none_ w w' ∧ w.heap.size ≤ g ∧ w.heap.size ≤ fr ∧ EngG w' ⟨g, fr, st, sk, inp, tl, mm⟩ st0 ⟨none, 0, none, 0, none, 0, none, 0, [], none, 0⟩ := by
  have HF := Lib.hid framenew_ok
  have HH := Lib.hid (And.intro hst hsk)
  clear hst hsk
  unfold ptr at *
  go_enter Tryz.func34, Tryz.ntmps34
  go_wp2_with fail
  refine (HF.out _).mono ?_
  rintro e W1 ⟨rfl, rfl⟩
  go_wp2
  refine bodyPost_ret (v := ptr (w.heap.size + 1)) (by simp [results, Tryz.results34, go_sem, ptr]) rfl ?_
  obtain ⟨⟨mv, hst⟩, hsk⟩ := HH.out
  have hc : Chg none_ w ((w.alloc (.cells #[.slice none 0 0] 86)).alloc (.cells #[.slice none 0 0, .slice none 0 0, .slice none 0 0, .pointer (some ⟨w.heap.size, 0, none⟩), .int .i64 0, .int .i64 0, .int .i64 0, .pointer (some ⟨st, 0, none⟩), .pointer (some ⟨inp, 0, none⟩)] 74)) := (Chg.new _ _ _).alloc _
  have hb := Blk.new (w.alloc (.cells #[.slice none 0 0] 86)) 74 #[.slice none 0 0, .slice none 0 0, .slice none 0 0, .pointer (some ⟨w.heap.size, 0, none⟩), .int .i64 0, .int .i64 0, .int .i64 0, .pointer (some ⟨st, 0, none⟩), .pointer (some ⟨inp, 0, none⟩)]
  rw [World.size_alloc] at hb
  refine ⟨w.heap.size + 1, w.heap.size, rfl, hc, by omega, Nat.le_refl _, ⟨hb, Row.nil _ _ _, Row.nil _ _ _, Row.nil _ _ _, ⟨(Blk.new w 86 _).alloc _, Row.nil _ _ _, by simp, by simp, List.Pairwise.nil⟩, rfl, ⟨mv, hst.chg hc (fun h => h)⟩, ⟨hsk.chg hc (fun h => h), Row.nil _ _ _, by simp [st0]⟩, ?_, by simp, ⟨by simp [st0], by simp [st0]⟩, by simp [st0]⟩⟩
  rintro k ⟨a, ha, _⟩
  cases ha

theorem stk_cell (w : World) (st tl sk mm : Nat) (mv : Value) (h : Blk w st 81 #[ptr tl, ptr sk, ptr mm, mv]) : Calls Tryz.prog 11 #[ptr st] w fun e w' => e = .returned (ptr sk) ∧ w = w' := by
  have c1 : w.cell? ⟨st, 1, none⟩ = some (ptr sk) := h.cell 1
  clear h
  unfold ptr at *
  go_enter Tryz.func11, Tryz.ntmps11
  go_wp2
  go_ret
  exact ⟨rfl, rfl⟩
theorem mem_cell (w : World) (st tl sk mm : Nat) (mv : Value) (h : Blk w st 81 #[ptr tl, ptr sk, ptr mm, mv]) : Calls Tryz.prog 33 #[ptr st] w fun e w' => e = .returned (ptr mm) ∧ w = w' := by
  have c1 : w.cell? ⟨st, 2, none⟩ = some (ptr mm) := h.cell 2
  clear h
  unfold ptr at *
  go_enter Tryz.func33, Tryz.ntmps33
  go_wp2
  go_ret
  exact ⟨rfl, rfl⟩

/-- What a new engine is. -/
structure MadeAt (w w' : World) (B : Blks) (bb : Nat) : Prop where
  eng : Eng w' B st0 (fun k => k = B.g ∨ k = B.fr ∨ k = B.sk)
  chg : Chg none_ w w'
  st : Blk w' B.st 81 #[ptr B.tl, ptr B.sk, ptr B.mm, .slice none 0 0]
  tl : Blk w' B.tl 115 #[.slice none 0 0]
  mem : MemI w' B.mm bb 1024 8
  ng : w.heap.size ≤ B.g
  nf : w.heap.size ≤ B.fr
  nk : w.heap.size ≤ B.sk
  ns : w.heap.size ≤ B.st
  nt : w.heap.size ≤ B.tl
  nm : w.heap.size ≤ B.mm
  nb : w.heap.size ≤ bb
  ni : w.heap.size ≤ B.inp

set_option maxRecDepth 100000 in
theorem made_ok (w : World) : Calls Tryz.prog 23 #[] w fun e w' => ∃ B bb, e = .returned (ptr B.g) ∧ MadeAt w w' B bb := by
  have HP := Lib.hid (primnew_ok w)
  have HI := Lib.hid sourcenew_ok
  have HS := Lib.hid stk_cell
  have HM := Lib.hid mem_cell
  have HE := Lib.hid engnew_ok
  have HGS := Lib.hid getState_ok
  have HGF := Lib.hid getFrames_ok
  unfold ptr at *
  go_enter Tryz.func23, Tryz.ntmps23
  go_wp2_with fail
  refine (HP.out).mono ?_
  rintro e W1 ⟨tl, sk, mm, bb, st, rfl, h1, h2, h3, h4, h5, h6⟩
  have H1 := Lib.hid (And.intro h1 (And.intro h2 (And.intro h3 (And.intro h4 (And.intro h5 h6)))))
  clear h1 h2 h3 h4 h5 h6
  go_wp2_with (first
    | (go_at_call 11; refine (HS.out _ st tl sk mm _ H1.out.1).mono ?_; rintro e w' ⟨rfl, rfl⟩)
    | (go_at_call 33; refine (HM.out _ st tl sk mm _ H1.out.1).mono ?_; rintro e w' ⟨rfl, rfl⟩)
    | (go_at_call 35; refine (HI.out _).mono ?_; rintro e W2 ⟨rfl, hc, hlt⟩; have H2 := Lib.hid (And.intro hc hlt); clear hc hlt)
    | (go_at_call 34; refine (HE.out _ st W1.heap.size tl sk mm ⟨_, H1.out.1.chg H2.out.1 (fun h => h)⟩ (H1.out.2.2.1.chg H2.out.1 (fun h => h))).mono ?_; rintro e W3 ⟨g, fr, rfl, hc, hg, hf, hE⟩; have H3 := Lib.hid (And.intro hc (And.intro hg (And.intro hf hE))); clear hc hg hf hE)
    | (go_at_call 10; refine (HGS.out _ ⟨g, fr, st, sk, W1.heap.size, tl, mm⟩ st0 _ ⟨_, H3.out.2.2.2, fun _ h => h⟩).mono ?_; rintro e w' ⟨rfl, rfl⟩)
    | (go_at_call 13; refine (HGF.out _ ⟨g, fr, st, sk, W1.heap.size, tl, mm⟩ st0 _ ⟨_, H3.out.2.2.2, fun _ h => h⟩).mono ?_; rintro e w' ⟨rfl, rfl⟩))
  go_ret
  obtain ⟨h1, h2, h3, h4, h5, h6, h7, h8, h9, h10⟩ := H1.out
  obtain ⟨k1, k2⟩ := H2.out
  obtain ⟨l1, l2, l3, l4⟩ := H3.out
  have s1 := h5.size
  have s2 := k1.size
  have hc := k1.trans l1
  refine ⟨⟨g, fr, st, sk, W1.heap.size, tl, mm⟩, bb, rfl, ⟨⟨_, l4, ?_⟩, (h5.trans k1).trans l1, h1.chg hc (fun h => h), h2.chg hc (fun h => h), h4.chg hc (fun h => h) (fun h => h), Nat.le_trans (Nat.le_trans s1 s2) l2, Nat.le_trans (Nat.le_trans s1 s2) l3, h7, h10, h6, h8, h9, s1⟩⟩
  rintro k (h | ⟨a, ha, _⟩ | ⟨a, ha, _⟩ | ⟨a, ha, _⟩ | (h | ⟨a, ha, _⟩ | ⟨f, hf, _⟩) | (h | ⟨a, ha, _⟩))
  · exact .inl h
  · cases ha
  · cases ha
  · cases ha
  · exact .inr (.inl h)
  · cases ha
  · cases hf
  · exact .inr (.inr h)
  · cases ha
end Go.Proofs.YtgomjcnefadenaaGreatDoor
