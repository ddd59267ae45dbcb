/- The bodies that 'with' is given. Conditions: each contract's own premises. -/
import Derived.Test.YtgomjcnefadenaaGreatDoorE3
namespace Go.Proofs.YtgomjcnefadenaaGreatDoor
open Go Go.RowKit

/-- The box of the engine's pointer, and of an instruction. -/
def gBox (w : World) (B : Blks) (b : Nat) : Prop := Blk w b 27 #[ptr B.g]
def xBox (w : World) (x : I3) (b : Nat) : Prop := Blk w b 56 #[.int .u8 x.op, .int .i64 x.a, .int .i64 x.w]

theorem do101 (w : World) (B : Blks) (O : Nat → Prop) (s : St) (l : List Int) : DoOk w B O 101 #[] #[] s s l := by
  intro W lad lc H hC hR
  have HH := Lib.hid H
  clear H hC hR
  show Calls Tryz.prog 101 #[.slice lad l.length lc] W _
  go_enter Tryz.func101, Tryz.ntmps101
  go_wp2
  go_ret
  exact ⟨rfl, Goes.same HH.out (Chg.refl _ _)⟩

theorem do102 (w : World) (B : Blks) (O : Nat → Prop) (s : St) (l : List Int) (gb : Nat) (hg : gBox w B gb) (hn : ¬ O gb) (hfs : s.fs.length < 128) (hl : l.length ≤ 128) :
    DoOk w B O 102 #[] #[.pointer (some ⟨gb, 0, none⟩)] s { s with fs := s.fs ++ [⟨4, 0, 0, 0, 0, l⟩] } l := by
  intro W lad lc H hC hR
  have c0 : W.cell? ⟨gb, 0, none⟩ = some (.pointer (some ⟨B.g, 0, none⟩)) := (Blk.chg hg hC hn).cell 0
  have HP := Lib.hid (efpush_ok W B s _ H ⟨4, 0, 0, 0, 0, lad, lc, l⟩ hR.rd hl hfs)
  obtain ⟨h, hG, ho⟩ := H
  have c3 := hG.c3
  clear hG ho hC hR hg hn hfs hl
  simp only [Frm.val] at HP
  show Calls Tryz.prog 102 #[.slice lad l.length lc, .pointer (some ⟨gb, 0, none⟩)] W _
  unfold ptr at *
  go_enter Tryz.func102, Tryz.ntmps102
  go_wp2_with (go_at_call 14; refine (HP.out).mono ?_; rintro e w1 ⟨rfl, hgo⟩; have HGO := Lib.hid hgo; clear hgo)
  go_ret
  exact ⟨rfl, HGO.out⟩

theorem do104 (w : World) (B : Blks) (O : Nat → Prop) (s : St) (v : Int) (gb xb : Nat) (x : I3) (hg : gBox w B gb) (hx : xBox w x xb) (hn : ¬ O gb) (hm : ¬ O xb) (m : Nat) (f : LF) (hl : locF s.fs x.a s.fs.length = some m) (hf : s.fs[m]? = some f) :
    DoOk w B O 104 #[] #[.pointer (some ⟨gb, 0, none⟩), .pointer (some ⟨xb, 0, none⟩)] s { s with fs := s.fs.set m { f with l := f.l.set x.a.toNat v } } [v] := by
  intro W lad lc H hC hR
  have c0 : W.cell? ⟨gb, 0, none⟩ = some (.pointer (some ⟨B.g, 0, none⟩)) := (Blk.chg hg hC hn).cell 0
  have c1 : W.cell? ⟨xb, 1, none⟩ = some (.int .i64 x.a) := (Blk.chg hx hC hm).cell 1
  obtain ⟨g, rfl, hcl, _⟩ := hR.cell (j := 0) (by simp [ints])
  have c2 : W.cell? ⟨g, 0, none⟩ = some (.int .i64 v) := by rw [hcl]; simp [ints]
  have HP := Lib.hid (fun W' (hW : Chg none_ W W') => efset_ok W' B s _ (H.keep hW) x.a v m f hl hf)
  obtain ⟨h, hG, ho⟩ := H
  have c3 := hG.c3
  clear hG ho hC hR hg hn hx hm hl hf hcl
  show Calls Tryz.prog 104 #[.slice (some ⟨g, 0, none⟩) 1 lc, .pointer (some ⟨gb, 0, none⟩), .pointer (some ⟨xb, 0, none⟩)] W _
  unfold ptr at *
  go_enter Tryz.func104, Tryz.ntmps104
  go_wp2
  go_region_law
    (go_simp; go_at_call 105; refine (HP.out _ (by (repeat (first | exact Chg.refl _ _ | apply Chg.drewN | apply Chg.alloc | apply Chg.drew)))).mono ?_; rintro e w1 ⟨rfl, hgo⟩; have HGO := Lib.hid hgo; clear hgo)
  all_goals go_wp2
  all_goals go_ret
  all_goals exact ⟨rfl, Goes.pre (by (repeat (first | exact Chg.refl _ _ | apply Chg.drewN | apply Chg.alloc | apply Chg.drew))) HGO.out⟩
end Go.Proofs.YtgomjcnefadenaaGreatDoor
