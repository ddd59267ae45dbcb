/- The frames' functions, at the engine. Conditions: each contract's own premises. -/
import Derived.Test.YtgomjcnefadenaaGreatDoorG4
import Derived.Test.YtgomjcnefadenaaGreatDoorP1
import Derived.Test.YtgomjcnefadenaaGreatDoorL2
namespace Go.Proofs.YtgomjcnefadenaaGreatDoor
open Go Go.RowKit

theorem log_snoc {l : List Frm} {fs : List LF} {f : LF} (h : l.map Frm.log = fs ++ [f]) : ∃ a b, l = a ++ [b] ∧ a.map Frm.log = fs ∧ b.log = f := by
  obtain ⟨a, b, rfl, ha, hb⟩ := List.map_eq_append_iff.1 h
  rcases b with _ | ⟨b, _ | ⟨c, b⟩⟩
  · simp at hb
  · simp only [List.map_cons, List.map_nil, List.cons.injEq, and_true] at hb
    exact ⟨a, b, rfl, ha, hb⟩
  · simp at hb
theorem Frm.log_at (f : Frm) (la : Option Addr) (lc : Nat) : ({ f with la := la, lc := lc } : Frm).val = (f.log.at_ la lc).val := rfl

theorem efpush_ok (w : World) (B : Blks) (s : St) (O : Nat → Prop) (H : Eng w B s O) (f : Frm) (hr : Rd w f.la (ints f.l)) (hl : f.l.length ≤ 128) (hn : s.fs.length < 128) :
    Calls Tryz.prog 14 #[ptr B.fr, f.val] w fun e w' => e = .returned (.int .i64 0) ∧ Goes B w O w' { s with fs := s.fs ++ [f.log] } := by
  obtain ⟨h, hg, ho⟩ := H
  have hlog := hg.log
  have hlen : h.fs.length = s.fs.length := by rw [← hlog, List.length_map]
  refine (fpush_ok w B.fr h.fad h.fc h.fs hg.frs f hr hl (by omega)).mono ?_
  rintro e w' ⟨ad', c', la, lc, rfl, hF, hC, hat, hla⟩
  refine ⟨rfl, ?_⟩
  have hgo := hg.goes_frs ho hF hC (fun k hk => hk.elim .inl (fun h => .inr (.inl h))) hat (fun g hgm k hk => by
    rcases List.mem_append.1 hgm with h1 | h1
    · exact .inl ⟨g, h1, hk⟩
    · rw [List.mem_singleton] at h1
      subst h1
      exact .inr (hla k hk))
  rw [List.map_append, hlog] at hgo
  exact hgo

theorem eftop_some (w : World) (B : Blks) (s : St) (O : Nat → Prop) (H : Eng w B s O) (fs : List LF) (f : LF) (hf : s.fs = fs ++ [f]) :
    Calls Tryz.prog 17 #[ptr B.fr] w fun e w' => ∃ la lc, e = .returned (.tuple #[(f.at_ la lc).val, .bool true]) ∧ Chg none_ w w' := by
  obtain ⟨h, hg, ho⟩ := H
  obtain ⟨a, b, he, ha, hb⟩ := log_snoc (hg.log.trans hf)
  have hF := hg.frs
  rw [he] at hF
  refine (ftop_some w B.fr h.fad h.fc a b hF).mono ?_
  rintro e w' ⟨la, lc, rfl, _, hC, _⟩
  refine ⟨la, lc, ?_, hC⟩
  rw [Frm.log_at, hb]

theorem eftop_none (w : World) (B : Blks) (s : St) (O : Nat → Prop) (H : Eng w B s O) (hf : s.fs = []) :
    Calls Tryz.prog 17 #[ptr B.fr] w fun e w' => e = .returned (.tuple #[(⟨0, 0, 0, 0, 0, none, 0, []⟩ : Frm).val, .bool false]) ∧ Chg none_ w w' := by
  obtain ⟨h, hg, ho⟩ := H
  have he : h.fs = [] := by
    have := hg.log.trans hf
    simpa using this
  have hF := hg.frs
  rw [he] at hF
  exact ftop_none w B.fr h.fad h.fc hF

theorem efpop_ok (w : World) (B : Blks) (s : St) (O : Nat → Prop) (H : Eng w B s O) (fs : List LF) (f : LF) (hf : s.fs = fs ++ [f]) :
    Calls Tryz.prog 60 #[ptr B.fr, .int .i64 f.k] w fun e w' => ∃ la lc, e = .returned (.tuple #[(f.at_ la lc).val, .int .i64 0]) ∧ Row w' 33 1 la f.l.length lc (ints f.l) ∧ (∀ k, inB la k → w.heap.size ≤ k) ∧ Goes B w O w' { s with fs := fs } := by
  obtain ⟨h, hg, ho⟩ := H
  obtain ⟨a, b, he, ha, hb⟩ := log_snoc (hg.log.trans hf)
  have hF := hg.frs
  rw [he] at hF
  have hk : b.k = f.k := by rw [← hb]; rfl
  rw [← hk]
  refine (fpop_ok w B.fr h.fad h.fc a b hF).mono ?_
  rintro e w' ⟨la, lc, rfl, hF', hR, hC, hat⟩
  have hl : b.l = f.l := by rw [← hb]; rfl
  rw [hl] at hR
  refine ⟨la, lc, by rw [Frm.log_at, hb], hR, hat, ?_⟩
  have hgo := hg.goes_frs ho hF' hC (fun k hk => .inl hk) (fun k hk => .inl hk) (fun g hgm k hk => .inl ⟨g, by rw [he]; exact List.mem_append_left _ hgm, hk⟩)
  rw [ha] at hgo
  exact hgo

/-- Which frame holds the local i. -/
def locF (fs : List LF) (i : Int) : Nat → Option Nat
  | 0 => none
  | m + 1 => match fs[m]? with
    | some f => if f.k = 4 ∧ 0 ≤ i ∧ i < f.l.length then some m else if f.k = 4 ∨ f.k = 1 then none else locF fs i m
    | none => none
theorem locF_eq (fs : List Frm) (i : Int) (n : Nat) : locF (fs.map Frm.log) i n = locGo fs i n := by
  induction n with
  | zero => rfl
  | succ n ih =>
    simp only [locF, locGo, List.getElem?_map, ih]
    cases fs[n]? with
    | none => rfl
    | some f => rfl

theorem eflocal_ok (w : World) (B : Blks) (s : St) (O : Nat → Prop) (H : Eng w B s O) (i : Int) (m : Nat) (f : LF) (hn : locF s.fs i s.fs.length = some m) (hf : s.fs[m]? = some f) :
    Calls Tryz.prog 103 #[ptr B.fr, .int .i64 i] w fun e w' => e = .returned (.tuple #[.int .i64 (f.l[i.toNat]?.getD 0), .int .i64 0]) ∧ Chg none_ w w' := by
  obtain ⟨h, hg, ho⟩ := H
  have hlog := hg.log
  rw [← hlog, locF_eq, List.length_map] at hn
  rw [← hlog, List.getElem?_map] at hf
  obtain ⟨b, hb, hbf⟩ := Option.map_eq_some_iff.1 hf
  have hl : b.l = f.l := by rw [← hbf]; rfl
  rw [← hl]
  exact local_some w B.fr h.fad h.fc h.fs hg.frs i m b hn hb

theorem efset_ok (w : World) (B : Blks) (s : St) (O : Nat → Prop) (H : Eng w B s O) (i x : Int) (m : Nat) (f : LF) (hn : locF s.fs i s.fs.length = some m) (hf : s.fs[m]? = some f) :
    Calls Tryz.prog 105 #[ptr B.fr, .int .i64 i, .int .i64 x] w fun e w' => e = .returned (.int .i64 0) ∧ Goes B w O w' { s with fs := s.fs.set m { f with l := f.l.set i.toNat x } } := by
  obtain ⟨h, hg, ho⟩ := H
  have hlog := hg.log
  rw [← hlog, locF_eq, List.length_map] at hn
  rw [← hlog, List.getElem?_map] at hf
  obtain ⟨b, hb, hbf⟩ := Option.map_eq_some_iff.1 hf
  have hbm := List.mem_of_getElem? hb
  refine (setlocal_some w B.fr h.fad h.fc h.fs hg.frs i x m b hn hb).mono ?_
  rintro e w' ⟨rfl, hF, hC⟩
  refine ⟨rfl, ?_⟩
  have hgo := hg.goes_frs ho hF hC (fun k hk => .inr (.inr ⟨b, hbm, hk⟩)) (fun k hk => .inl hk) (fun g hgm k hk => by
    rcases List.mem_or_eq_of_mem_set hgm with h1 | h1
    · exact .inl ⟨g, h1, hk⟩
    · subst h1
      exact .inl ⟨b, hbm, hk⟩)
  rw [List.map_set, hlog] at hgo
  rw [← hbf]
  exact hgo
end Go.Proofs.YtgomjcnefadenaaGreatDoor
