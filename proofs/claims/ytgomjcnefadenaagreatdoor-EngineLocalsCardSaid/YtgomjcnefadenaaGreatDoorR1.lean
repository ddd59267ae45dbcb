/- The words of the table, by the document: rhytonref12. Conditions: each contract's own premises. -/
import Derived.Test.YtgomjcnefadenaaGreatDoorE2
import Derived.Deep.LoopGhost
import Derived.Great.BuildSlice
namespace Go.Proofs.YtgomjcnefadenaaGreatDoor
open Go Go.RowKit

def nms1 : List (List UInt8) := [[110, 101, 103, 97, 116, 101], [97, 98, 115], [105, 110, 118, 101, 114, 116], [49, 43], [49, 45], [50, 42], [50, 47], [48, 61], [48, 60], [48, 60, 62], [43], [45], [42], [47], [109, 111, 100], [97, 110, 100], [111, 114], [120, 111, 114], [108, 115, 104, 105, 102, 116], [114, 115, 104, 105, 102, 116], [61], [60, 62], [60], [62], [117, 60], [109, 105, 110], [109, 97, 120], [100, 117, 112], [100, 114, 111, 112], [115, 119, 97, 112], [111, 118, 101, 114], [114, 111, 116], [110, 105, 112], [116, 117, 99, 107], [63, 100, 117, 112], [50, 100, 117, 112], [50, 100, 114, 111, 112], [50, 115, 119, 97, 112], [50, 111, 118, 101, 114], [112, 105, 99, 107], [114, 111, 108, 108], [100, 101, 112, 116, 104], [115, 62, 100], [100, 43], [100, 45], [100, 110, 101, 103, 97, 116, 101], [100, 97, 98, 115], [100, 60], [100, 117, 60], [100, 61], [100, 50, 42], [100, 50, 47], [109, 42], [117, 109, 42], [117, 109, 47, 109, 111, 100], [102, 109, 47, 109, 111, 100], [115, 109, 47, 114, 101, 109], [42, 47], [42, 47, 109, 111, 100], [47, 109, 111, 100], [102, 110, 101, 103, 97, 116, 101], [102, 97, 98, 115], [102, 43], [102, 45], [102, 42], [102, 47], [102, 109, 105, 110], [102, 109, 97, 120], [102, 60], [102, 61], [115, 62, 102], [102, 62, 115], [64], [33], [99, 64], [99, 33], [43, 33], [50, 64], [50, 33], [102, 105, 108, 108], [109, 111, 118, 101], [104, 101, 114, 101], [97, 108, 108, 111, 116], [44], [99, 44], [97, 108, 105, 103, 110], [97, 108, 105, 103, 110, 101, 100], [99, 101, 108, 108, 115], [99, 111, 117, 110, 116], [101, 109, 105, 116], [46], [117, 46], [100, 46], [102, 46], [99, 114], [115, 112, 97, 99, 101], [115, 112, 97, 99, 101, 115], [116, 121, 112, 101], [46, 115], [100, 101, 99, 105, 109, 97, 108], [104, 101, 120], [60, 35], [35], [35, 115], [104, 111, 108, 100], [115, 105, 103, 110], [35, 62]]
def nms2 : List (List UInt8) := [[62, 114], [114, 62], [114, 64], [105], [106], [117, 110, 108, 111, 111, 112], [101, 120, 101, 99, 117, 116, 101], [99, 97, 116, 99, 104], [116, 104, 114, 111, 119]]
def nms3 : List (List UInt8) := [[105, 102], [101, 108, 115, 101], [116, 104, 101, 110], [98, 101, 103, 105, 110], [119, 104, 105, 108, 101], [114, 101, 112, 101, 97, 116], [117, 110, 116, 105, 108], [97, 103, 97, 105, 110], [100, 111], [63, 100, 111], [108, 111, 111, 112], [43, 108, 111, 111, 112], [108, 101, 97, 118, 101], [99, 97, 115, 101], [111, 102], [101, 110, 100, 111, 102], [101, 110, 100, 99, 97, 115, 101]]
def nms4 : List (List UInt8) := [[58], [58, 110, 111, 110, 97, 109, 101], [59], [101, 120, 105, 116], [114, 101, 99, 117, 114, 115, 101], [91], [93], [108, 105, 116, 101, 114, 97, 108], [99, 111, 109, 112, 105, 108, 101, 44], [112, 111, 115, 116, 112, 111, 110, 101], [39], [91, 39, 93], [105, 109, 109, 101, 100, 105, 97, 116, 101], [99, 114, 101, 97, 116, 101], [100, 111, 101, 115, 62], [99, 111, 110, 115, 116, 97, 110, 116], [118, 97, 114, 105, 97, 98, 108, 101], [118, 97, 108, 117, 101], [116, 111], [100, 101, 102, 101, 114], [105, 115], [99, 104, 97, 114], [91, 99, 104, 97, 114, 93], [40], [92], [115, 34], [115, 92, 34], [46, 34], [101, 118, 97, 108, 117, 97, 116, 101], [112, 97, 114, 115, 101], [112, 97, 114, 115, 101, 45, 110, 97, 109, 101], [115, 97, 118, 101, 45, 105, 110, 112, 117, 116], [114, 101, 115, 116, 111, 114, 101, 45, 105, 110, 112, 117, 116], [123, 58], [119, 111, 114, 100, 108, 105, 115, 116], [115, 101, 116, 45, 99, 117, 114, 114, 101, 110, 116], [115, 101, 116, 45, 111, 114, 100, 101, 114], [103, 101, 116, 45, 111, 114, 100, 101, 114], [109, 97, 114, 107, 101, 114], [115, 101, 116, 45, 114, 101, 99, 111, 103, 110, 105, 122, 101, 114, 115], [103, 101, 116, 45, 114, 101, 99, 111, 103, 110, 105, 122, 101, 114, 115], [107, 101, 121], [98, 121, 101], [40, 100, 111, 101, 115, 62, 41], [40, 116, 111, 41], [40, 105, 115, 41], [40, 109, 97, 114, 107, 101, 114, 41]]
def nms (k : Nat) : List (List UInt8) := if k = 1 then nms1 else if k = 2 then nms2 else if k = 3 then nms3 else nms4
def strV (l : List UInt8) : Value := .string ⟨l.toArray⟩
def nmV (k : Nat) : Array Value := ((nms k).map strV).toArray
def nmN (k : Nat) : Nat := if k = 1 then 107 else if k = 2 then 9 else if k = 3 then 17 else 47
theorem nms_len (k : Nat) : (nms k).length = nmN k := by
  unfold nms nmN
  split
  · rfl
  split
  · rfl
  split <;> rfl

theorem wpList_buildConst {ops : Array Oper} {rest : List Oper} {o : Oper} {a : Act} {w : World} {Q : Exit → Act → World → Prop} (hg : o.guard = none) (t e : TypeId) (len : Nat) (parts : Array (Nat × Operand)) (ho : o.op = .buildSlice t len parts) (vs : List Value)
    (hu : Tryz.prog.underlying t = some (.slice e)) (hsz : (Tryz.prog.info? e).map (·.size) = some 1) (hz : ((Tryz.prog.info? e).bind (·.zero)).isSome = true)
    (hlen : len = vs.length) (hpos : 0 < len) (hsmall : len ≤ 2 ^ 24) (h1 : ∀ v ∈ vs, v.cells = #[v])
    (hparts : parts.toList = (vs.zipIdx 0).map fun x => (x.2, Operand.const x.1))
    (h : wpList Tryz.prog ops Q rest (a.put o.dst (.slice (some ⟨w.heap.size, 0, none⟩) len len)) (w.alloc (.cells vs.toArray e))) : wpList Tryz.prog ops Q (o :: rest) a w := by
  cases hie : Tryz.prog.info? e with
  | none => simp [hie] at hsz
  | some ie =>
    simp only [hie, Option.map_some, Option.some.injEq, Option.bind_some] at hsz hz
    obtain ⟨z, hzz⟩ := Option.isSome_iff_exists.1 hz
    refine wpList_buildSlice hg t e len parts ho _ ie z hu hie hzz (by rw [hsz]; omega) (by rw [hsz]; omega) ?_ h
    have hpe : (parts.map fun (i, x) => (i, a.eval x)).toList = (vs.zipIdx 0).map fun x => (x.2, x.1) := by
      rw [Array.toList_map, hparts, List.map_map]
      rfl
    rw [hpe, hsz]
    exact Great.fill_flat _ _ h1 (by simp [hlen])

def RNames (k : Nat) (w : World) (e : Ending) (w' : World) : Prop := e = .returned (.slice (some ⟨w.heap.size, 0, none⟩) (nmN k) (nmN k)) ∧ w' = w.alloc (.cells (nmV k) 9)
set_option maxRecDepth 100000 in
theorem rnames1 (w : World) : Calls Tryz.prog 41 #[.int .i64 1] w (RNames 1 w) := by
  have hu := Tryz.underlying101
  have hsz : (Tryz.prog.info? 9).map (·.size) = some 1 := by kernel_rfl
  have hz : ((Tryz.prog.info? 9).bind (·.zero)).isSome = true := by kernel_rfl
  have h1 : ∀ v ∈ (nms 1).map strV, v.cells = #[v] := fun v hv => by
    obtain ⟨l, _, rfl⟩ := List.mem_map.1 hv
    rfl
  go_enter Tryz.func41, Tryz.ntmps41
  go_wp2_with (refine wpList_buildConst rfl 101 9 107 _ rfl ((nms 1).map strV) hu hsz hz (by kernel_rfl) (by omega) (by decide) h1 (by kernel_rfl) ?_)
  go_ret
  exact ⟨rfl, rfl⟩
set_option maxRecDepth 100000 in
theorem rnames2 (w : World) : Calls Tryz.prog 41 #[.int .i64 2] w (RNames 2 w) := by
  go_enter Tryz.func41, Tryz.ntmps41
  go_wp2
  go_ret
  exact ⟨rfl, rfl⟩
set_option maxRecDepth 100000 in
theorem rnames3 (w : World) : Calls Tryz.prog 41 #[.int .i64 3] w (RNames 3 w) := by
  go_enter Tryz.func41, Tryz.ntmps41
  go_wp2
  go_ret
  exact ⟨rfl, rfl⟩
set_option maxRecDepth 100000 in
theorem rnames4 (w : World) : Calls Tryz.prog 41 #[.int .i64 4] w (RNames 4 w) := by
  go_enter Tryz.func41, Tryz.ntmps41
  go_wp2
  go_ret
  exact ⟨rfl, rfl⟩

theorem rnow_ok (n : Int) (w : World) : Calls Tryz.prog 42 #[.int .i64 n] w fun e w' => (∃ b, e = .returned (.bool b)) ∧ w = w' := by
  go_enter Tryz.func42, Tryz.ntmps42
  go_wp2
  all_goals go_ret
  all_goals exact ⟨⟨_, rfl⟩, rfl⟩
theorem ronly_ok (n : Int) (w : World) : Calls Tryz.prog 43 #[.int .i64 n] w fun e w' => (∃ b, e = .returned (.bool b)) ∧ w = w' := by
  go_enter Tryz.func43, Tryz.ntmps43
  go_wp2
  all_goals go_ret
  all_goals exact ⟨⟨_, rfl⟩, rfl⟩
theorem info66 : (Tryz.prog.info? 66).map (fun i => (i.zero, i.size, i.bytes)) = some (some (.agg #[.string ByteArray.empty, .int .i64 0, .int .i64 0, .bool false, .bool false]), 5, 40) := by kernel_rfl
end Go.Proofs.YtgomjcnefadenaaGreatDoor
