/-
  DERIVED. GIVEN WITH THE SEED: THE CARDS: each row of YtgomjcnefadenaaGreatDoorRows.lean that lists a variable, with what it lists TIED to the program's text (the seventh form; the later family's looks); each row that meets fmt, with fmt's text TOLD by the authors' own Lean function (tested against real Go, not proved from fmt's source: count such statements apart). THE CARD IS WHAT COUNTS. Prove the row's statement (the work); the ties are given (YtgomjcnefadenaaGreatDoorTie.lean); close each card by the builder's one call (the guide's Derived/Test/ToyasCard.lean, 'card_holds'). Laid BY PROGRAM, IN A SANDBOX (cutbox-door.mjs). By AI agents, Wed Nov 11 2026. No macro, syntax, notation, axiom, sorry.
-/
import Derived.Test.YtgomjcnefadenaaGreatDoorRows
import GoSem.ClaimSeven
namespace Go.Proofs.YtgomjcnefadenaaGreatDoor
namespace Rows

/-- THE TIED CARD OF 'rhytonlaw15.EngineClean'. -/
def engineCleanCard : Claim7 := { stood := { row := engineCleanRow, standIns := [], harness := (true, "2d09a6ff6f543551d94b04236728a098db55d2540652e24faa4cf31f961fc6d1"), looks := false }, kinds := [], alts := [], laidByText := true, laidKinds := [.data, .data, .data, .data, .pinned], laidTests := true, laidLooks := .later }
def EngineCleanCardSaid : Prop := Claim7.holds Tryz.pinned (.plain (OpenSpec.ofChange engineCleanSpec)) engineCleanCard

/-- THE TIED CARD OF 'rhytonlaw15.EngineLoops'. -/
def engineLoopsCard : Claim7 := { stood := { row := engineLoopsRow, standIns := [], harness := (true, "2d09a6ff6f543551d94b04236728a098db55d2540652e24faa4cf31f961fc6d1"), looks := false }, kinds := [], alts := [], laidByText := true, laidKinds := [.data, .data, .data, .data, .pinned], laidTests := true, laidLooks := .later }
def EngineLoopsCardSaid : Prop := Claim7.holds Tryz.pinned (.plain (OpenSpec.ofChange engineLoopsSpec)) engineLoopsCard

/-- THE TIED CARD OF 'rhytonlaw15.EngineLocals'. -/
def engineLocalsCard : Claim7 := { stood := { row := engineLocalsRow, standIns := [], harness := (true, "2d09a6ff6f543551d94b04236728a098db55d2540652e24faa4cf31f961fc6d1"), looks := false }, kinds := [], alts := [], laidByText := true, laidKinds := [.data, .data, .data, .data, .pinned], laidTests := true, laidLooks := .later }
def EngineLocalsCardSaid : Prop := Claim7.holds Tryz.pinned (.plain (OpenSpec.ofChange engineLocalsSpec)) engineLocalsCard

/-- THE SECOND FORM's CARD OF 'rhytonlaw15.EngineClean'. -/
def engineCleanUptoCard : Claim7 := { stood := { row := engineCleanUptoRow, standIns := [], harness := (true, "2d09a6ff6f543551d94b04236728a098db55d2540652e24faa4cf31f961fc6d1"), looks := false }, kinds := [], alts := [], laidByText := true, laidKinds := [.data, .data, .data, .data, .pinned], laidTests := true, laidLooks := .later }
def EngineCleanUptoCardSaid : Prop := Claim7.holds Tryz.pinned (.plain (OpenSpec.upto engineCleanSpec)) engineCleanUptoCard

/-- THE SECOND FORM's CARD OF 'rhytonlaw15.EngineLoops'. -/
def engineLoopsUptoCard : Claim7 := { stood := { row := engineLoopsUptoRow, standIns := [], harness := (true, "2d09a6ff6f543551d94b04236728a098db55d2540652e24faa4cf31f961fc6d1"), looks := false }, kinds := [], alts := [], laidByText := true, laidKinds := [.data, .data, .data, .data, .pinned], laidTests := true, laidLooks := .later }
def EngineLoopsUptoCardSaid : Prop := Claim7.holds Tryz.pinned (.plain (OpenSpec.upto engineLoopsSpec)) engineLoopsUptoCard

/-- THE SECOND FORM's CARD OF 'rhytonlaw15.EngineLocals'. -/
def engineLocalsUptoCard : Claim7 := { stood := { row := engineLocalsUptoRow, standIns := [], harness := (true, "2d09a6ff6f543551d94b04236728a098db55d2540652e24faa4cf31f961fc6d1"), looks := false }, kinds := [], alts := [], laidByText := true, laidKinds := [.data, .data, .data, .data, .pinned], laidTests := true, laidLooks := .later }
def EngineLocalsUptoCardSaid : Prop := Claim7.holds Tryz.pinned (.plain (OpenSpec.upto engineLocalsSpec)) engineLocalsUptoCard
end Rows
end Go.Proofs.YtgomjcnefadenaaGreatDoor
