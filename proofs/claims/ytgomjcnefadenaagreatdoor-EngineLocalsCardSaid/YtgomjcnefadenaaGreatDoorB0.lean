/- Plain words for memory: a change that touches the blocks of S alone, a block that is known whole, a slice that reads as a list, a row that a slice owns. Conditions: none; no program is named here. -/
import Derived.WalkKit
import Derived.Maps.AppendAt
import Derived.Deep.AppendLies
import Derived.Deep.Draws
namespace Go.Proofs.YtgomjcnefadenaaGreatDoor
open Go Go.RowKit

/-- w' is w but for new blocks and what became of the blocks of S. -/
structure Chg (S : Nat → Prop) (w w' : World) : Prop where
  os : w'.os = w.os
  tape : w'.tape = w.tape
  output : w'.output = w.output
  size : w.heap.size ≤ w'.heap.size
  block : ∀ k, k < w.heap.size → ¬ S k → w'.heap[k]? = w.heap[k]?

def none_ : Nat → Prop := fun _ => False

section
variable {S T : Nat → Prop} {a w w' : World}
theorem Chg.refl (S : Nat → Prop) (w : World) : Chg S w w := ⟨rfl, rfl, rfl, Nat.le_refl _, fun _ _ _ => rfl⟩
theorem Chg.trans {b c : World} (h : Chg S a b) (k : Chg S b c) : Chg S a c :=
  ⟨k.os.trans h.os, k.tape.trans h.tape, k.output.trans h.output, Nat.le_trans h.size k.size, fun i hi hn => (k.block i (Nat.lt_of_lt_of_le hi h.size) hn).trans (h.block i hi hn)⟩
/-- The second change may touch what is new, too. -/
theorem Chg.trans' {b c : World} (h : Chg S a b) (k : Chg T b c) (hT : ∀ i, T i → S i ∨ a.heap.size ≤ i) : Chg S a c :=
  ⟨k.os.trans h.os, k.tape.trans h.tape, k.output.trans h.output, Nat.le_trans h.size k.size, fun i hi hn =>
    (k.block i (Nat.lt_of_lt_of_le hi h.size) (fun ht => by rcases hT i ht with h1 | h1; exact hn h1; omega)).trans (h.block i hi hn)⟩
theorem Chg.mono (h : Chg S a w) (hS : ∀ i, S i → T i) : Chg T a w := ⟨h.os, h.tape, h.output, h.size, fun i hi hn => h.block i hi (fun hs => hn (hS i hs))⟩
theorem Chg.mono' (h : Chg S a w) (hS : ∀ i, i < a.heap.size → S i → T i) : Chg T a w := ⟨h.os, h.tape, h.output, h.size, fun i hi hn => h.block i hi (fun hs => hn (hS i hi hs))⟩
theorem Chg.drew (h : Chg S a w) : Chg S a w.drew := ⟨h.os, h.tape, h.output, h.size, h.block⟩
theorem Chg.drewN (h : Chg S a w) (n : Nat) : Chg S a (w.drewN n) := ⟨h.os, h.tape, h.output, h.size, h.block⟩
theorem Chg.alloc (h : Chg S a w) (o : Obj) : Chg S a (w.alloc o) :=
  h.trans ⟨rfl, rfl, rfl, by simp, fun k hk _ => Below.heap_alloc _ _ _ hk⟩
theorem Chg.setCell (h : Chg S a w) {p : Addr} (hp : S p.block ∨ a.heap.size ≤ p.block) (u : Value) : Chg S a (w.setCell p u) :=
  h.trans' (T := fun k => k = p.block) ⟨rfl, rfl, rfl, by simp [World.setCell], fun k _ hn => Below.heap_setCell _ _ _ _ hn⟩ (fun i hi => by subst hi; exact hp)
theorem Chg.set (S : Nat → Prop) (w : World) (g i : Nat) (hp : S g) (u : Value) : Chg S w (w.setCell ⟨g, i, none⟩ u) := (Chg.refl S w).setCell (p := ⟨g, i, none⟩) (.inl hp) u
theorem Chg.new (S : Nat → Prop) (w : World) (o : Obj) : Chg S w (w.alloc o) := (Chg.refl S w).alloc o
theorem Chg.setR (h : Chg S a w) {g : Nat} (i : Nat) (hp : a.heap.size ≤ g) (u : Value) : Chg S a (w.setCell ⟨g, i, none⟩ u) := h.setCell (p := ⟨g, i, none⟩) (.inr hp) u
theorem Chg.setL (h : Chg S a w) {g : Nat} (i : Nat) (hp : S g) (u : Value) : Chg S a (w.setCell ⟨g, i, none⟩ u) := h.setCell (p := ⟨g, i, none⟩) (.inl hp) u
theorem Chg.weak (h : Chg none_ a w) (S : Nat → Prop) : Chg S a w := h.mono (fun _ h => h.elim)
theorem Chg.of_grown {row : Option Nat} (h : a.grownBy w row) : Chg (fun k => row = some k) a w :=
  ⟨h.os, h.tape, h.output, h.size, fun k hk hn => h.block k hk (fun e => hn e.symm)⟩
theorem Chg.below {B : Nat} (h : Chg S a w) (hB : B ≤ a.heap.size) (hS : ∀ k, S k → B ≤ k) : Below B a w :=
  ⟨h.os, h.tape, h.output, h.size, fun k hk => h.block k (by omega) (fun hs => by have := hS k hs; omega)⟩
theorem Chg.of_below {B : Nat} (h : Below B a w) (hB : a.heap.size ≤ B) : Chg S a w := ⟨h.os, h.tape, h.output, h.size, fun k hk _ => h.block k (by omega)⟩
theorem Chg.cell (h : Chg S a w) {p : Addr} (hp : p.block < a.heap.size) (hn : ¬ S p.block) : w.cell? p = a.cell? p := World.cell?_of_block (h.block p.block hp hn)
theorem Chg.frozen (h : Chg S a w) {p : Addr} (hp : p.block < a.heap.size) (hn : ¬ S p.block) : w.frozen? p = a.frozen? p := World.frozen?_of_block (h.block p.block hp hn)
theorem Chg.cell_some (h : Chg S a w) {p : Addr} {v : Value} (hc : a.cell? p = some v) (hn : ¬ S p.block) : w.cell? p = some v := (h.cell (block_lt_of_cell hc) hn).trans hc
end

/-- Block g is just the cells cs of element type t; none is frozen. -/
def Blk (w : World) (g : Nat) (t : TypeId) (cs : Array Value) : Prop := w.heap[g]? = some (.cells cs t (0, 0))

section
variable {S : Nat → Prop} {w w' : World} {g : Nat} {t : TypeId} {cs : Array Value}
theorem Blk.lt (h : Blk w g t cs) : g < w.heap.size := lt_of_block h
theorem Blk.cell (h : Blk w g t cs) (i : Nat) : w.cell? ⟨g, i, none⟩ = cs[i]? := cell_of_row w g i cs t (0, 0) h
theorem Blk.frozen (h : Blk w g t cs) (i : Nat) : w.frozen? ⟨g, i, none⟩ = false := frozen_of_row w g i cs t h
theorem Blk.new (w : World) (t : TypeId) (cs : Array Value) : Blk (w.alloc (.cells cs t)) w.heap.size t cs := heap_alloc_new w _
theorem Blk.drew (h : Blk w g t cs) : Blk w.drew g t cs := h
theorem Blk.alloc (h : Blk w g t cs) (o : Obj) : Blk (w.alloc o) g t cs := (Below.heap_alloc w o g h.lt).trans h
theorem Blk.set_ (h : Blk w g t cs) (i : Nat) (u : Value) : Blk (w.setCell ⟨g, i, none⟩ u) g t (cs.setIfInBounds i u) := by
  unfold Blk at h ⊢
  simp [World.setCell, Array.getElem?_modify, h]
theorem Blk.setR (h : Blk w g t cs) {g' : Nat} (i : Nat) (hp : g ≠ g') (u : Value) : Blk (w.setCell ⟨g', i, none⟩ u) g t cs := (Below.heap_setCell w ⟨g', i, none⟩ u g hp).trans h
theorem Blk.far (h : Blk w g t cs) {p : Addr} (hp : g ≠ p.block) (u : Value) : Blk (w.setCell p u) g t cs := (Below.heap_setCell w p u g hp).trans h
theorem Blk.chg (h : Blk w g t cs) (hc : Chg S w w') (hn : ¬ S g) : Blk w' g t cs := (hc.block g h.lt hn).trans h
theorem Blk.ne {g' : Nat} {t' : TypeId} {cs' : Array Value} (h : Blk w g t cs) (h' : Blk w g' t' cs') (hne : t ≠ t') : g ≠ g' := by
  rintro rfl
  unfold Blk at h h'
  rw [h] at h'
  injection h' with h'
  injection h' with _ ht
  exact hne ht
end

theorem addr_add (a : Addr) (n : Nat) : (a.add n).block = a.block := by unfold Addr.add; split <;> rfl
theorem addr_add2 (a : Addr) (i j : Nat) : (a.add i).add j = a.add (i + j) := by
  unfold Addr.add
  by_cases hi : i = 0 <;> by_cases hj : j = 0 <;> simp [hi, hj, Nat.add_assoc]

/-- From the address ad on the cells xs lie (where there are any). -/
def Rd (w : World) (ad : Option Addr) (xs : List Value) : Prop := xs ≠ [] → ∃ a, ad = some a ∧ ∀ j u, xs[j]? = some u → w.cell? (a.add j) = some u

section
variable {S : Nat → Prop} {w w' : World} {ad : Option Addr} {xs : List Value}
theorem Rd.nil (w : World) (ad : Option Addr) : Rd w ad [] := fun h => absurd rfl h
theorem Rd.chg (h : Rd w ad xs) (hc : Chg S w w') (hn : ∀ a, ad = some a → ¬ S a.block) : Rd w' ad xs := fun hx => by
  obtain ⟨a, e, hh⟩ := h hx
  exact ⟨a, e, fun j u hu => hc.cell_some (hh j u hu) (by rw [addr_add]; exact hn a e)⟩
theorem Rd.at {j : Nat} (h : Rd w ad xs) (hj : j < xs.length) : ∃ a, ad = some a ∧ w.cell? (a.add j) = some xs[j] := by
  obtain ⟨a, e, hh⟩ := h (by rintro rfl; simp at hj)
  exact ⟨a, e, hh j _ (List.getElem?_eq_getElem hj)⟩
theorem Rd.cut (h : Rd w ad xs) (k sz cap : Nat) (hc : cap = k → xs.length ≤ k * sz) : Rd w (if cap = k then ad else ad.map (·.add (k * sz))) (xs.drop (k * sz)) := fun hx => by
  have hl : ¬ xs.length ≤ k * sz := fun hle => hx (List.drop_eq_nil_of_le hle)
  rw [if_neg (fun e => hl (hc e))]
  obtain ⟨a, rfl, hh⟩ := h (by rintro rfl; simp at hl)
  exact ⟨a.add (k * sz), rfl, fun j u hu => by rw [addr_add2]; exact hh _ u (by rw [← hu, List.getElem?_drop])⟩
theorem Rd.take (h : Rd w ad xs) (k : Nat) : Rd w ad (xs.take k) := fun hx => by
  obtain ⟨a, e, hh⟩ := h (by rintro rfl; simp at hx)
  refine ⟨a, e, fun j u hu => hh j u ?_⟩
  rw [List.getElem?_take] at hu
  split at hu
  · exact hu
  · cases hu
theorem Rd.of_blk {g : Nat} {t : TypeId} {cs : Array Value} (h : Blk w g t cs) : Rd w (some ⟨g, 0, none⟩) cs.toList := fun _ =>
  ⟨_, rfl, fun j u hu => by
    rw [show (⟨g, 0, none⟩ : Addr).add j = ⟨g, j, none⟩ from by unfold Addr.add; split <;> simp_all]
    rw [h.cell]; simpa using hu⟩
end

/-- The slice value '.slice ad n c' owns the row of cells xs (n elements of sz cells each, of type e). -/
def Row (w : World) (e : TypeId) (sz : Nat) (ad : Option Addr) (n c : Nat) (xs : List Value) : Prop := w.ownsRow 0 e sz (.slice ad n c) n xs
/-- The block of a slice. -/
def inB (ad : Option Addr) (k : Nat) : Prop := ∃ a, ad = some a ∧ a.block = k

section
variable {S : Nat → Prop} {w w' : World} {e : TypeId} {sz n c : Nat} {ad : Option Addr} {xs : List Value}
theorem Row.nil (w : World) (e : TypeId) (sz : Nat) : Row w e sz none 0 0 [] := World.ownsRow_nil w 0 e sz
theorem Row.len (h : Row w e sz ad n c xs) : xs.length = n * sz := h.1
theorem ownBlock_slice (ad : Option Addr) (n c k : Nat) : (Value.slice ad n c).ownBlock = some k ↔ inB ad k := by
  rcases ad with _ | a
  · simp [Value.ownBlock, inB]
  · simp [Value.ownBlock, inB]
theorem Row.lt (h : Row w e sz ad n c xs) {k : Nat} (hk : inB ad k) : k < w.heap.size := (World.ownsRow.lt h k ((ownBlock_slice ad n c k).2 hk)).2
/-- Its form: nil, or at the head of a block that is all its own. -/
theorem Row.form (h : Row w e sz ad n c xs) : (ad = none ∧ n = 0 ∧ c = 0 ∧ xs = []) ∨ ∃ g cur, ad = some ⟨g, 0, none⟩ ∧ Blk w g e cur ∧ n ≤ c ∧ c ≤ maxLen ∧ cur.size = c * sz ∧ cur.toList.take (n * sz) = xs := by
  rcases h.2 with ⟨hv, hn⟩ | ⟨g, cap, cur, hv, _, hg, hnc, hcm, hcs, ht⟩
  · injection hv with h1 h2 h3
    exact .inl ⟨h1, h2, h3, List.eq_nil_of_length_eq_zero (by rw [h.1, hn]; simp)⟩
  · injection hv with h1 h2 h3
    subst h3
    exact .inr ⟨g, cur, h1, hg, hnc, hcm, hcs, ht⟩
theorem Row.mk {g : Nat} {cur : Array Value} (hg : Blk w g e cur) (hnc : n ≤ c) (hcm : c ≤ maxLen) (hcs : cur.size = c * sz) (ht : cur.toList.take (n * sz) = xs) : Row w e sz (some ⟨g, 0, none⟩) n c xs := by
  refine ⟨?_, .inr ⟨g, c, cur, rfl, Nat.zero_le _, hg, hnc, hcm, hcs, ht⟩⟩
  rw [← ht, List.length_take, Array.length_toList, hcs]
  exact Nat.min_eq_left (Nat.mul_le_mul_right _ hnc)
theorem Row.le (h : Row w e sz ad n c xs) : n ≤ c := by
  rcases h.form with ⟨_, rfl, _, _⟩ | ⟨_, _, _, _, hle, _⟩
  · exact Nat.zero_le _
  · exact hle
theorem Row.chg (h : Row w e sz ad n c xs) (hc : Chg S w w') (hn : ∀ k, inB ad k → ¬ S k) : Row w' e sz ad n c xs := by
  rcases h.form with ⟨rfl, rfl, rfl, rfl⟩ | ⟨g, cur, rfl, hg, hnc, hcm, hcs, ht⟩
  · exact Row.nil w' e sz
  · exact Row.mk (hg.chg hc (hn g ⟨_, rfl, rfl⟩)) hnc hcm hcs ht
theorem Row.alloc (h : Row w e sz ad n c xs) (o : Obj) : Row (w.alloc o) e sz ad n c xs := World.ownsRow.alloc h o
theorem Row.drew (h : Row w e sz ad n c xs) : Row w.drew e sz ad n c xs := h
theorem Row.rd (h : Row w e sz ad n c xs) : Rd w ad xs := by
  rcases h.form with ⟨rfl, rfl, rfl, rfl⟩ | ⟨g, cur, rfl, hg, hnc, hcm, hcs, ht⟩
  · exact Rd.nil _ _
  · rw [← ht]; exact (Rd.of_blk hg).take _
theorem Row.cell (h : Row w e sz ad n c xs) {j : Nat} (hj : j < xs.length) : ∃ g, ad = some ⟨g, 0, none⟩ ∧ w.cell? ⟨g, j, none⟩ = some xs[j] ∧ w.frozen? ⟨g, j, none⟩ = false := by
  rcases h.form with ⟨rfl, rfl, rfl, rfl⟩ | ⟨g, cur, rfl, hg, hnc, hcm, hcs, ht⟩
  · simp at hj
  · refine ⟨g, rfl, ?_, hg.frozen j⟩
    rw [hg.cell j, ← Array.getElem?_toList]
    have h2 : (cur.toList.take (n * sz))[j]? = some xs[j] := by rw [ht]; exact List.getElem?_eq_getElem hj
    rw [List.getElem?_take] at h2
    split at h2
    · exact h2
    · cases h2
theorem Row.set_far (h : Row w e sz ad n c xs) {g : Nat} (i : Nat) (hn : ¬ inB ad g) (u : Value) : Row (w.setCell ⟨g, i, none⟩ u) e sz ad n c xs :=
  h.chg (Chg.set (fun k => k = g) w g i rfl u) (fun k hk he => hn (by subst he; exact hk))
/-- The first k elements: the same row. -/
theorem Row.front (h : Row w e sz ad n c xs) {k : Nat} (hk : k ≤ n) : Row w e sz ad k c (xs.take (k * sz)) := by
  rcases h.form with ⟨rfl, rfl, rfl, rfl⟩ | ⟨g, cur, rfl, hg, hnc, hcm, hcs, ht⟩
  · obtain rfl : k = 0 := by omega
    simpa using Row.nil w e sz
  · refine Row.mk hg (Nat.le_trans hk hnc) hcm hcs ?_
    rw [← ht, List.take_take, Nat.min_eq_left (Nat.mul_le_mul_right _ hk)]
/-- A store into the row. -/
theorem Row.stored (h : Row w e sz ad n c xs) {g j : Nat} (hg : ad = some ⟨g, 0, none⟩) (hj : j < xs.length) (u : Value) : Row (w.setCell ⟨g, j, none⟩ u) e sz ad n c (xs.set j u) := by
  rcases h.form with ⟨rfl, rfl, rfl, rfl⟩ | ⟨g', cur, rfl, hb, hnc, hcm, hcs, ht⟩
  · simp at hj
  · injection hg with hg
    injection hg with hg _ _
    subst hg
    refine Row.mk (hb.set_ j u) hnc hcm (by simpa using hcs) ?_
    rw [Array.toList_setIfInBounds, List.take_set, ht]
end

/-- append onto a row that is owned, of whatever is read (nil and empty, too). -/
theorem run_append_row {P : Program} (w : World) (t ty e : TypeId) (i : TypeInfo) (z : Value) (sz bytes : Nat) (ht : P.underlying t = some (.slice e)) (hi : P.info? e = some i) (hz : i.zero = some z)
    (hsize : i.size = sz) (hby : i.bytes = bytes) (hzs : z.cells.size = sz) (hsz : 0 < sz)
    (ad : Option Addr) (n c : Nat) (xs : List Value) (hown : Row w e sz ad n c xs)
    (lad : Option Addr) (m lc : Nat) (news : List Value) (hr : Rd w lad news) (hl : news.length = m * sz) (h1 : ∀ u ∈ news, u.oneCell' = true)
    (h63 : n + m ≤ maxLen) (hbytes : (n + m) * bytes ≤ 140737488355328) :
    ∃ ad' c' w', (Builtin.append_ #[t, t] ty #[.slice ad n c, .slice lad m lc]).run P w = .ok (.slice ad' (n + m) c') w' ∧ Row w' e sz ad' (n + m) c' (xs ++ news) ∧ Chg (inB ad) w w' ∧
      (∀ k, inB ad' k → inB ad k ∨ k = w.heap.size) := by
  have fin : ∀ v' w', (Builtin.append_ #[t, t] ty #[.slice ad n c, .slice lad m lc]).run P w = .ok v' w' → w'.ownsRow 0 e sz v' (n + m) (xs ++ news) → w.grownBy w' (Value.slice ad n c).ownBlock →
      (v'.ownBlock = (Value.slice ad n c).ownBlock ∨ v'.ownBlock = some w.heap.size) → ∃ ad' c' w', (Builtin.append_ #[t, t] ty #[.slice ad n c, .slice lad m lc]).run P w = .ok (.slice ad' (n + m) c') w' ∧ Row w' e sz ad' (n + m) c' (xs ++ news) ∧ Chg (inB ad) w w' ∧
      (∀ k, inB ad' k → inB ad k ∨ k = w.heap.size) := by
    intro v' w' hrun hown' hgr hat
    have hv : ∃ ad' c', v' = .slice ad' (n + m) c' := by
      rcases hown'.2 with ⟨rfl, h0⟩ | ⟨g, cap, _, rfl, _⟩
      · exact ⟨none, 0, by rw [h0]⟩
      · exact ⟨_, _, rfl⟩
    obtain ⟨ad', c', rfl⟩ := hv
    refine ⟨ad', c', w', hrun, hown', (Chg.of_grown hgr).mono (fun k hk => (ownBlock_slice ad n c k).1 hk), fun k hk => ?_⟩
    have hk' := (ownBlock_slice ad' (n + m) c' k).2 hk
    rcases hat with h | h
    · rw [h] at hk'; exact .inl ((ownBlock_slice ad n c k).1 hk')
    · rw [h] at hk'; injection hk' with hk'; exact .inr hk'.symm
  rcases lad with _ | a
  · have hn : news = [] := by
      by_cases hx : news = []
      · exact hx
      · obtain ⟨a, h, _⟩ := hr hx; cases h
    subst hn
    have hm : m = 0 := by
      rcases Nat.eq_zero_or_pos m with h | h
      · exact h
      · have := Nat.mul_pos h hsz; simp at hl; omega
    subst hm
    refine fin (.slice ad n c) w ?_ (by have h0 := hown; unfold Row at h0; simpa using h0) (World.grownBy.refl w _) (.inl rfl)
    rcases hown.form with ⟨rfl, rfl, rfl, rfl⟩ | ⟨g, cur, rfl, hg, hnc, hcm, hcs, hta⟩
    · simp [Builtin.append_, run_underlying ht, sizeOf, typeInfo, hi, Builtin.lenOf, Builtin.firstCells]
    · simp [Builtin.append_, run_underlying ht, sizeOf, typeInfo, hi, Builtin.lenOf, Builtin.firstCells, hnc, storeCells]
  · have hcells : ∀ j u, news[j]? = some u → w.cell? (a.add j) = some u := by
      intro j u hu
      by_cases hx : news = []
      · subst hx; simp at hu
      · obtain ⟨a', h, hc⟩ := hr hx
        injection h with h; subst h
        exact hc j u hu
    obtain ⟨v', w', hrun, h2, h3, _, h5⟩ := run_append_own_at (P := P) w 0 t ty e i z sz bytes ht hi hz hsize hby hzs hsz _ n xs hown a m lc news hl hcells h1 h63 hbytes (Nat.zero_le _)
    exact fin v' w' hrun h2 h3 h5

section
variable {P : Program} (w : World)
theorem wp_append_row {o : Oper} {a : Act} {K : Act → World → Prop} {Q : Exit → Act → World → Prop} (s x : Operand) (t : TypeId)
    (ho : o.op = .call { callee := .builtin .append, args := #[s, x], argTypes := #[t, t] })
    (e : TypeId) (i : TypeInfo) (z : Value) (sz bytes : Nat) (ht : P.underlying t = some (.slice e)) (hi : P.info? e = some i) (hz : i.zero = some z)
    (hsize : i.size = sz) (hby : i.bytes = bytes) (hzs : z.cells.size = sz) (hsz : 0 < sz)
    (ad : Option Addr) (n c : Nat) (xs : List Value) (hs : a.eval s = .slice ad n c) (hown : Row w e sz ad n c xs)
    (lad : Option Addr) (m lc : Nat) (news : List Value) (hx : a.eval x = .slice lad m lc) (hr : Rd w lad news) (hl : news.length = m * sz) (h1 : ∀ u ∈ news, u.oneCell' = true)
    (h63 : n + m ≤ maxLen) (hbytes : (n + m) * bytes ≤ 140737488355328)
    (h : ∀ ad' c' w', Row w' e sz ad' (n + m) c' (xs ++ news) → Chg (inB ad) w w' → (∀ k, inB ad' k → inB ad k ∨ k = w.heap.size) → K (a.put o.dst (.slice ad' (n + m) c')) w') : o.wp P a w K Q := by
  obtain ⟨ad', c', w', hrun, h2, h3, h4⟩ := run_append_row (P := P) w t o.type e i z sz bytes ht hi hz hsize hby hzs hsz ad n c xs hown lad m lc news hr hl h1 h63 hbytes
  unfold Oper.wp execOp
  simp only [ho, resolve, invoke, builtin, Sem.run_bind, Sem.run_pure, Result.andThen_ok, List.map_toArray, List.map_cons, List.map_nil, hs, hx, hrun]
  exact h ad' c' w' h2 h3 h4

theorem wpList_append_row {ops : Array Oper} {rest : List Oper} {o : Oper} {a : Act} {Q : Exit → Act → World → Prop} (hgd : o.guard = none) (s x : Operand) (t : TypeId)
    (ho : o.op = .call { callee := .builtin .append, args := #[s, x], argTypes := #[t, t] })
    (e : TypeId) (i : TypeInfo) (z : Value) (sz bytes : Nat) (ht : P.underlying t = some (.slice e)) (hi : P.info? e = some i) (hz : i.zero = some z)
    (hsize : i.size = sz) (hby : i.bytes = bytes) (hzs : z.cells.size = sz) (hsz : 0 < sz)
    (ad : Option Addr) (n c : Nat) (xs : List Value) (hs : a.eval s = .slice ad n c) (hown : Row w e sz ad n c xs)
    (lad : Option Addr) (m lc : Nat) (news : List Value) (hx : a.eval x = .slice lad m lc) (hr : Rd w lad news) (hl : news.length = m * sz) (h1 : ∀ u ∈ news, u.oneCell' = true)
    (h63 : n + m ≤ maxLen) (hbytes : (n + m) * bytes ≤ 140737488355328)
    (h : ∀ ad' c' w', Row w' e sz ad' (n + m) c' (xs ++ news) → Chg (inB ad) w w' → (∀ k, inB ad' k → inB ad k ∨ k = w.heap.size) → wpList P ops Q rest (a.put o.dst (.slice ad' (n + m) c')) w') : wpList P ops Q (o :: rest) a w :=
  wpList_plain hgd fun _ hK => wp_append_row w s x t ho e i z sz bytes ht hi hz hsize hby hzs hsz ad n c xs hs hown lad m lc news hx hr hl h1 h63 hbytes fun ad' c' w' h2 h3 h4 => hK _ _ (h ad' c' w' h2 h3 h4)

theorem step_append_row {ops : Array Oper} {o : Oper} {a : Act} {K : Act → World → Prop} {Q : Exit → Act → World → Prop} {E : Prop} (hgd : o.guard = none) (s x : Operand) (t : TypeId)
    (ho : o.op = .call { callee := .builtin .append, args := #[s, x], argTypes := #[t, t] })
    (e : TypeId) (i : TypeInfo) (z : Value) (sz bytes : Nat) (ht : P.underlying t = some (.slice e)) (hi : P.info? e = some i) (hz : i.zero = some z)
    (hsize : i.size = sz) (hby : i.bytes = bytes) (hzs : z.cells.size = sz) (hsz : 0 < sz)
    (ad : Option Addr) (n c : Nat) (xs : List Value) (hs : a.eval s = .slice ad n c) (hown : Row w e sz ad n c xs)
    (lad : Option Addr) (m lc : Nat) (news : List Value) (hx : a.eval x = .slice lad m lc) (hr : Rd w lad news) (hl : news.length = m * sz) (h1 : ∀ u ∈ news, u.oneCell' = true)
    (h63 : n + m ≤ maxLen) (hbytes : (n + m) * bytes ≤ 140737488355328)
    (h : ∀ ad' c' w', Row w' e sz ad' (n + m) c' (xs ++ news) → Chg (inB ad) w w' → (∀ k, inB ad' k → inB ad k ∨ k = w.heap.size) → K (a.put o.dst (.slice ad' (n + m) c')) w') :
    if Region.wanted o (yielded ops a.tmps) = true then Oper.wp P o a w K Q else E := by
  have hw : Region.wanted o (yielded ops a.tmps) = true := by simp [Region.wanted, hgd]
  rw [if_pos hw]
  exact wp_append_row w s x t ho e i z sz bytes ht hi hz hsize hby hzs hsz ad n c xs hs hown lad m lc news hx hr hl h1 h63 hbytes h
end
end Go.Proofs.YtgomjcnefadenaaGreatDoor
