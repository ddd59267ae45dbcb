/- How definitions lie in the row of code: plain lists. No program is named here. -/
import Derived.Test.YtgomjcnefadenaaGreatDoorG1
namespace Go.Proofs.YtgomjcnefadenaaGreatDoor
open Go

/-- How many instructions there are. -/
def tot : List (List I3) → Nat
  | [] => 0
  | d :: ds => d.length + tot ds
theorem tot_append (a b : List (List I3)) : tot (a ++ b) = tot a + tot b := by
  induction a with
  | nil => simp [tot]
  | cons d a ih => simp only [List.cons_append, tot, ih]; omega
theorem codeOf_len (ds : List (List I3)) : (codeOf ds).length = 2 * tot ds := by
  unfold codeOf
  induction ds with
  | nil => rfl
  | cons d ds ih =>
    have h1 : ∀ l : List I3, (l.flatMap insCells).length = 2 * l.length := fun l => by
      induction l with
      | nil => rfl
      | cons x l ih => simp only [List.flatMap_cons, List.length_append, ih, List.length_cons, insCells, List.length_nil]; omega
    rw [List.flatten_cons, List.flatMap_append, List.length_append, ih, h1, tot]
    omega
theorem endsFrom_len (b : Int) (ds : List (List I3)) : (endsFrom b ds).length = ds.length := by
  induction ds generalizing b with
  | nil => rfl
  | cons d ds ih => simp [endsFrom, ih]
theorem endsOf_len (ds : List (List I3)) : (endsOf ds).length = ds.length := endsFrom_len 0 ds
theorem endsFrom_at (b : Int) (ds : List (List I3)) (p : Nat) (hp : p < ds.length) : (endsFrom b ds)[p]? = some (b + 2 * tot (ds.take (p + 1))) := by
  induction ds generalizing b p with
  | nil => simp at hp
  | cons d ds ih =>
    cases p with
    | zero => simp [endsFrom, tot]
    | succ p =>
      simp only [endsFrom, List.getElem?_cons_succ]
      rw [ih _ _ (by simpa using hp)]
      simp only [List.take_succ_cons, tot]
      congr 1
      omega
theorem endsOf_at (ds : List (List I3)) (p : Nat) (hp : p < ds.length) : (endsOf ds)[p]? = some ((2 * tot (ds.take (p + 1)) : Nat) : Int) := by
  have := endsFrom_at 0 ds p hp
  unfold endsOf
  rw [this]
  congr 1
  omega
theorem tot_take_succ (ds : List (List I3)) (p : Nat) (d : List I3) (hd : ds[p]? = some d) : tot (ds.take (p + 1)) = tot (ds.take p) + d.length := by
  have hp : p < ds.length := by
    rcases Nat.lt_or_ge p ds.length with h | h
    · exact h
    · rw [List.getElem?_eq_none h] at hd; cases hd
  rw [List.take_succ_eq_append_getElem hp, tot_append]
  rw [List.getElem?_eq_getElem hp] at hd
  injection hd with hd
  simp [tot, hd]
theorem tot_take_le (ds : List (List I3)) (p : Nat) : tot (ds.take p) ≤ tot ds := by
  have := tot_append (ds.take p) (ds.drop p)
  rw [List.take_append_drop] at this
  omega
theorem tot_le (ds : List (List I3)) (h : okDs ds) : tot ds ≤ 500 * ds.length := by
  have h2 := h.2
  clear h
  induction ds with
  | nil => simp [tot]
  | cons d ds ih =>
    have h1 := (h2 d (by simp)).1
    have := ih (fun d hd => h2 d (List.mem_cons_of_mem _ hd))
    simp only [tot, List.length_cons]
    omega
theorem ins_at (l : List I3) (i : Nat) (x : I3) (hx : l[i]? = some x) : (l.flatMap insCells)[2 * i]? = some (x.a * 256 + x.op) ∧ (l.flatMap insCells)[2 * i + 1]? = some x.w := by
  induction l generalizing i with
  | nil => simp at hx
  | cons y l ih =>
    cases i with
    | zero =>
      simp only [List.getElem?_cons_zero, Option.some.injEq] at hx
      subst hx
      simp [insCells]
    | succ i =>
      simp only [List.getElem?_cons_succ] at hx
      obtain ⟨h1, h2⟩ := ih i hx
      have e : insCells y ++ l.flatMap insCells = [y.a * 256 + y.op, y.w] ++ l.flatMap insCells := rfl
      rw [List.flatMap_cons, e]
      constructor
      · rw [List.getElem?_append_right (by simp; omega)]
        simpa [show 2 * (i + 1) - 2 = 2 * i from by omega] using h1
      · rw [List.getElem?_append_right (by simp; omega)]
        simpa [show 2 * (i + 1) + 1 - 2 = 2 * i + 1 from by omega] using h2
theorem flatten_at (ds : List (List I3)) (p i : Nat) (d : List I3) (x : I3) (hd : ds[p]? = some d) (hx : d[i]? = some x) : ds.flatten[tot (ds.take p) + i]? = some x := by
  induction ds generalizing p with
  | nil => simp at hd
  | cons e ds ih =>
    have hi : i < d.length := by
      rcases Nat.lt_or_ge i d.length with h | h
      · exact h
      · rw [List.getElem?_eq_none h] at hx; cases hx
    cases p with
    | zero =>
      simp only [List.getElem?_cons_zero, Option.some.injEq] at hd
      subst hd
      simp only [List.take_zero, tot, Nat.zero_add, List.flatten_cons]
      rw [List.getElem?_append_left hi, hx]
    | succ p =>
      simp only [List.getElem?_cons_succ] at hd
      simp only [List.take_succ_cons, tot, List.flatten_cons]
      rw [List.getElem?_append_right (by omega), show e.length + tot (ds.take p) + i - e.length = tot (ds.take p) + i from by omega]
      exact ih p hd
theorem code_at (ds : List (List I3)) (p i : Nat) (d : List I3) (x : I3) (hd : ds[p]? = some d) (hx : d[i]? = some x) :
    (codeOf ds)[2 * (tot (ds.take p) + i)]? = some (x.a * 256 + x.op) ∧ (codeOf ds)[2 * (tot (ds.take p) + i) + 1]? = some x.w :=
  ins_at ds.flatten _ x (flatten_at ds p i d x hd hx)
end Go.Proofs.YtgomjcnefadenaaGreatDoor
