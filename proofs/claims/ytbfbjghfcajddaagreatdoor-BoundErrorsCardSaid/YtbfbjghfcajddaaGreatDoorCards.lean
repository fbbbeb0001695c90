/-
  DERIVED. GIVEN WITH THE SEED: THE CARDS: each row of YtbfbjghfcajddaaGreatDoorRows.lean that lists a variable, with what it lists TIED to the program's text (the seventh form; the later family's looks); each row that meets fmt, with fmt's text TOLD by the authors' own Lean function (tested against real Go, not proved from fmt's source: count such statements apart). THE CARD IS WHAT COUNTS. Prove the row's statement (the work); the ties are given (YtbfbjghfcajddaaGreatDoorTie.lean); close each card by the builder's one call (the guide's Derived/Test/ToyasCard.lean, 'card_holds'). Laid BY PROGRAM, IN A SANDBOX (cutbox-door.mjs). By AI agents, Wed Nov 11 2026. No macro, syntax, notation, axiom, sorry.
-/
import Derived.Test.YtbfbjghfcajddaaGreatDoorRows
import GoSem.ClaimSeven
namespace Go.Proofs.YtbfbjghfcajddaaGreatDoor
namespace Rows

/-- THE TIED CARD OF 'wharfagelaw15.BlockNone'. -/
def blockNoneCard : Claim7 := { stood := { row := blockNoneRow, standIns := [], harness := (true, "10b167a2b97d0c68b65957c581adbf06f21b2f8955bbf8185b1f1cb27c3b1572"), looks := true }, kinds := [], alts := [], laidByText := true, laidKinds := [.data], laidTests := true, laidLooks := .later }
def BlockNoneCardSaid : Prop := Claim7.holds Tryz.pinned (.plain (OpenSpec.ofChange blockNoneSpec)) blockNoneCard

/-- THE TIED CARD OF 'wharfagelaw16.BoundErrors'. -/
def boundErrorsCard : Claim7 := { stood := { row := boundErrorsRow, standIns := [], harness := (true, "10b167a2b97d0c68b65957c581adbf06f21b2f8955bbf8185b1f1cb27c3b1572"), looks := true }, kinds := [], alts := [], laidByText := true, laidKinds := [.data], laidTests := true, laidLooks := .later }
def BoundErrorsCardSaid : Prop := Claim7.holds Tryz.pinned (.plain (OpenSpec.ofChange boundErrorsSpec)) boundErrorsCard

/-- THE SECOND FORM's CARD OF 'wharfagelaw15.BlockNone'. -/
def blockNoneUptoCard : Claim7 := { stood := { row := blockNoneUptoRow, standIns := [], harness := (true, "10b167a2b97d0c68b65957c581adbf06f21b2f8955bbf8185b1f1cb27c3b1572"), looks := true }, kinds := [], alts := [], laidByText := true, laidKinds := [.data], laidTests := true, laidLooks := .later }
def BlockNoneUptoCardSaid : Prop := Claim7.holds Tryz.pinned (.plain (OpenSpec.upto blockNoneSpec)) blockNoneUptoCard

/-- THE SECOND FORM's CARD OF 'wharfagelaw16.BoundErrors'. -/
def boundErrorsUptoCard : Claim7 := { stood := { row := boundErrorsUptoRow, standIns := [], harness := (true, "10b167a2b97d0c68b65957c581adbf06f21b2f8955bbf8185b1f1cb27c3b1572"), looks := true }, kinds := [], alts := [], laidByText := true, laidKinds := [.data], laidTests := true, laidLooks := .later }
def BoundErrorsUptoCardSaid : Prop := Claim7.holds Tryz.pinned (.plain (OpenSpec.upto boundErrorsSpec)) boundErrorsUptoCard
end Rows
end Go.Proofs.YtbfbjghfcajddaaGreatDoor
