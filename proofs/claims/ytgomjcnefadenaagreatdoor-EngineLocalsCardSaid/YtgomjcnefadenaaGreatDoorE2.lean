/- (*Engine).call; what a body does beside the engine. Conditions: each contract's own premises. -/
import Derived.Test.YtgomjcnefadenaaGreatDoorE1
import Derived.Test.YtgomjcnefadenaaGreatDoorG4
namespace Go.Proofs.YtgomjcnefadenaaGreatDoor
open Go Go.RowKit

/-- Of the blocks O those that are there already. -/
def Tt (O : Nat → Prop) (n : Nat) : Nat → Prop := fun k => O k ∧ k < n

section
variable {w W W' W'' : World} {B : Blks} {s s' : St} {O : Nat → Prop}
theorem Eng.tight (H : Eng w B s O) : Eng w B s (Tt O w.heap.size) := by
  obtain ⟨h, hg, ho⟩ := H
  exact ⟨h, hg, fun k hk => ⟨ho k hk, hg.lt k hk⟩⟩
theorem Eng.st_lt (H : Eng w B s O) : B.st < w.heap.size := by
  obtain ⟨h, hg, ho⟩ := H
  obtain ⟨mv, hm⟩ := hg.stb
  exact hm.lt
/-- A body's own blocks (laid first) are written at the end. -/
theorem Goes.fin (hst : B.st < w.heap.size) (hW : Chg none_ w W) (hg : Goes B W (Tt O w.heap.size) W' s') (hc : Chg (fun k => w.heap.size ≤ k ∧ k < W.heap.size) W' W'') : Goes B w O W'' s' := by
  obtain ⟨h, hG, hO⟩ := hg.eng
  have hs := hW.size
  have hs2 := hg.chg.size
  refine ⟨⟨h, hG.chg hc ?_ ?_, ?_⟩, ?_⟩
  · rintro k hk ⟨h1, h2⟩
    rcases hO k hk with ⟨_, h3⟩ | h3 <;> omega
  · rintro ⟨h1, _⟩; omega
  · intro k hk
    rcases hO k hk with ⟨h3, _⟩ | h3
    · exact .inl h3
    · exact .inr (by omega)
  · exact ((hW.weak _).trans' hg.chg (fun i hi => .inl hi.1)).trans' hc (fun i hi => .inr hi.1)
/-- New blocks are laid first. -/
theorem Goes.pre (hW : Chg none_ w W) (hg : Goes B W O W' s') : Goes B w O W' s' := by
  have hs := hW.size
  refine ⟨hg.eng.mono (fun k hk => hk.imp id (fun h => by omega)), (hW.weak _).trans' hg.chg (fun i hi => .inl hi)⟩
/-- New blocks are laid behind. -/
theorem Goes.post (hg : Goes B W O W' s') (hc : Chg none_ W' W'') : Goes B W O W'' s' := ⟨hg.eng.keep hc, hg.chg.trans (hc.weak _)⟩
theorem Goes.tightened (hg : Goes B W (Tt O W.heap.size) W' s') : Goes B W O W' s' := ⟨hg.eng.mono (fun _ hk => hk.imp And.left id), hg.chg.mono (fun _ h => h.1)⟩
end

set_option maxRecDepth 100000 in
theorem call_ok (w : World) (B : Blks) (s : St) (O : Nat → Prop) (H : Eng w B s O) (p : Nat) (hp : p < s.ds.length) (n : Int) (hn : n = (p : Int) + 1) (hfs : s.fs.length < 128) :
    Calls Tryz.prog 53 #[ptr B.g, .int .i64 n] w fun e w' => e = .returned (.int .i64 0) ∧ Goes B w O w' { s with fs := s.fs ++ [⟨1, s.df, s.on, 0, 0, []⟩], df := n, on := 0 } := by
  have HP := Lib.hid (fun W (hW : Chg none_ w W) => efpush_ok W B s O (H.keep hW) ⟨1, s.df, s.on, 0, 0, none, 0, []⟩ (Rd.nil _ _) (by simp) hfs)
  obtain ⟨h, hg, ho⟩ := H
  have c1 := hg.c1
  have c3 := hg.c3
  have c4 := hg.c4
  have c5 := hg.c5
  have hl := hg.wds.1
  rw [endsOf_len] at c1
  obtain ⟨m, hm⟩ : ∃ m, s.ds.length = m := ⟨_, rfl⟩
  rw [hm] at c1 hp hl
  have d1 : decide (n < 1) = false := by simp; omega
  have d2 : decide ((m : Int) < n) = false := by simp; omega
  clear hg ho hm hp hn hfs
  simp only [Frm.val, List.length_nil] at HP
  unfold ptr at *
  go_enter Tryz.func53, Tryz.ntmps53
  go_wp2
  go_region_law
    (go_simp; go_at_call 14; refine (HP.out _ (by (repeat (first | exact Chg.refl _ _ | apply Chg.drewN | apply Chg.alloc | apply Chg.drew)))).mono ?_; rintro e w1 ⟨rfl, hgo⟩; have HGO := Lib.hid hgo; clear hgo)
  all_goals go_wp2_with (go_at_call 61; refine (place_ok _ B _ _ HGO.out.eng n 0).mono ?_; rintro e w2 ⟨rfl, hgo2⟩; have HGO2 := Lib.hid hgo2; clear hgo2)
  all_goals go_ret
  all_goals exact ⟨rfl, Goes.pre (by (repeat (first | exact Chg.refl _ _ | apply Chg.drewN | apply Chg.alloc | apply Chg.drew))) ((HGO.out).trans HGO2.out)⟩
end Go.Proofs.YtgomjcnefadenaaGreatDoor
