/- rhytonref06.Same. Conditions: each contract's own premises. -/
import Derived.Test.YtgomjcnefadenaaGreatDoorE2
import Derived.Deep.LoopGhost
namespace Go.Proofs.YtgomjcnefadenaaGreatDoor
open Go Go.RowKit

theorem rd_at {w : World} {ad : Option Addr} {l : List Int} (h : Rd w ad (ints l)) {i : Nat} {v : Int} (hi : l[i]? = some v) : ∃ a, ad = some a ∧ w.cell? (a.add i) = some (.int .i64 v) := by
  obtain ⟨a, ha, hh⟩ := h (by rintro he; have : (ints l).length = 0 := by rw [he]; rfl
                              rw [ints_len] at this
                              rw [List.eq_nil_of_length_eq_zero this] at hi
                              cases hi)
  exact ⟨a, ha, hh i _ (by simp [ints, hi])⟩

set_option maxRecDepth 100000 in
theorem same_ok (w : World) (l : List Int) (ga gb : Nat) (ca cb : Nat) (ha : l ≠ [] → Rd w (some ⟨ga, 0, none⟩) (ints l)) (aa ab : Option Addr) (ea : l ≠ [] → aa = some ⟨ga, 0, none⟩) (eb : l ≠ [] → ab = some ⟨gb, 0, none⟩) (hb : l ≠ [] → Rd w (some ⟨gb, 0, none⟩) (ints l)) (hl : l.length ≤ 1000) :
    Calls Tryz.prog 21 #[.slice aa l.length ca, .slice ab l.length cb] w fun e w' => e = .returned (.bool true) ∧ Chg none_ w w' := by
  obtain ⟨N, hN⟩ : ∃ N, l.length = N := ⟨_, rfl⟩
  have d0 : ((N : Int) != (N : Int)) = false := by simp
  have HA := Lib.hid (And.intro ha (And.intro hb (And.intro ea (And.intro eb hN))))
  rw [hN] at hl ⊢
  clear ha hb ea eb hN
  go_enter Tryz.func21, Tryz.ntmps21
  go_wp2
  go_loopg [5] N (fun m iv wr => ∃ i : Nat, i + m = N ∧ iv = .int .i64 i ∧ Hid (Chg none_ w wr))
  case atStart => exact ⟨0, by omega, rfl, Lib.hid (Chg.refl _ _)⟩
  case round =>
    obtain ⟨i, hi, rfl, HC⟩ := hrel
    rcases Nat.lt_or_ge i N with hlt | hge
    · obtain ⟨ha, hb, ea, eb, hN⟩ := HA.out
      have hne : l ≠ [] := by rintro rfl; simp at hN; omega
      obtain rfl := ea hne
      obtain rfl := eb hne
      obtain ⟨v, hv⟩ : ∃ v, l[i]? = some v := ⟨l[i]'(by omega), List.getElem?_eq_getElem (by omega)⟩
      obtain ⟨a1, h1, c1⟩ := rd_at (ha hne) hv
      obtain ⟨a2, h2, c2⟩ := rd_at (hb hne) hv
      injection h1 with h1; subst h1
      injection h2 with h2; subst h2
      have e1 : ∀ g : Nat, (⟨g, 0, none⟩ : Addr).add i = ⟨g, i, none⟩ := fun g => by unfold Addr.add; split <;> simp_all
      rw [e1] at c1 c2
      have c1 := HC.out.cell_some c1 (fun h => h)
      have c2 := HC.out.cell_some c2 (fun h => h)
      have iwi : IntKind.i64.wrap ((i : Int) + 1) = (i : Int) + 1 := IntWalk.i64_in _ (by omega)
      have p0 : 0 ≤ (i : Int) := by omega
      have p1 : (i : Int) < (N : Int) := by omega
      have dv : (v != v) = false := by simp
      have HI := Lib.hid hi
      clear ha hb ea eb hN hv e1 hi
      go_wp2
      go_quiet (fail)
      go_wp2
      go_roundg (gk - 1)
      all_goals first | (have := HI.out; omega) | skip
      all_goals exact ⟨i + 1, by have := HI.out; omega, by simp, Lib.hid (HC.out.drewN _)⟩
    · obtain rfl : i = N := by omega
      go_wp2
      go_ret
      exact ⟨rfl, HC.out⟩
end Go.Proofs.YtgomjcnefadenaaGreatDoor
