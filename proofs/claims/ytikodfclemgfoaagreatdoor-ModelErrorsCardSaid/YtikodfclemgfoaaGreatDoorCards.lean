/-
  DERIVED. GIVEN WITH THE SEED: THE CARDS: each row of YtikodfclemgfoaaGreatDoorRows.lean that lists a variable, with what it lists TIED to the program's text (the seventh form; the later family's looks); each row that meets fmt, with fmt's text TOLD by the authors' own Lean function (tested against real Go, not proved from fmt's source: count such statements apart). THE CARD IS WHAT COUNTS. Prove the row's statement (the work); the ties are given (YtikodfclemgfoaaGreatDoorTie.lean); close each card by the builder's one call (the guide's Derived/Test/ToyasCard.lean, 'card_holds'). Laid BY PROGRAM, IN A SANDBOX (cutbox-door.mjs). By AI agents, Wed Nov 11 2026. No macro, syntax, notation, axiom, sorry.
-/
import Derived.Test.YtikodfclemgfoaaGreatDoorRows
import GoSem.ClaimSeven
namespace Go.Proofs.YtikodfclemgfoaaGreatDoor
namespace Rows

/-- THE TIED CARD OF 'strongboxlaw22.ModelPlays'. -/
def modelPlaysCard : Claim7 := { stood := { row := modelPlaysRow, standIns := [], harness := (true, "2f0c0367746877d2039055b94d85b82fd033814c8ef71e9efc2095006cb566a6"), looks := true }, kinds := [], alts := [], laidByText := true, laidKinds := [.data, .pinned], laidTests := true, laidLooks := .later }
def ModelPlaysCardSaid : Prop := Claim7.holds Tryz.pinned (.plain (OpenSpec.ofChange modelPlaysSpec)) modelPlaysCard

/-- THE TIED CARD OF 'strongboxlaw22.ModelErrors'. -/
def modelErrorsCard : Claim7 := { stood := { row := modelErrorsRow, standIns := [], harness := (true, "2f0c0367746877d2039055b94d85b82fd033814c8ef71e9efc2095006cb566a6"), looks := true }, kinds := [], alts := [], laidByText := true, laidKinds := [.data, .pinned], laidTests := true, laidLooks := .later }
def ModelErrorsCardSaid : Prop := Claim7.holds Tryz.pinned (.plain (OpenSpec.ofChange modelErrorsSpec)) modelErrorsCard

/-- THE SECOND FORM's CARD OF 'strongboxlaw22.ModelPlays'. -/
def modelPlaysUptoCard : Claim7 := { stood := { row := modelPlaysUptoRow, standIns := [], harness := (true, "2f0c0367746877d2039055b94d85b82fd033814c8ef71e9efc2095006cb566a6"), looks := true }, kinds := [], alts := [], laidByText := true, laidKinds := [.data, .pinned], laidTests := true, laidLooks := .later }
def ModelPlaysUptoCardSaid : Prop := Claim7.holds Tryz.pinned (.plain (OpenSpec.upto modelPlaysSpec)) modelPlaysUptoCard

/-- THE SECOND FORM's CARD OF 'strongboxlaw22.ModelErrors'. -/
def modelErrorsUptoCard : Claim7 := { stood := { row := modelErrorsUptoRow, standIns := [], harness := (true, "2f0c0367746877d2039055b94d85b82fd033814c8ef71e9efc2095006cb566a6"), looks := true }, kinds := [], alts := [], laidByText := true, laidKinds := [.data, .pinned], laidTests := true, laidLooks := .later }
def ModelErrorsUptoCardSaid : Prop := Claim7.holds Tryz.pinned (.plain (OpenSpec.upto modelErrorsSpec)) modelErrorsUptoCard
end Rows
end Go.Proofs.YtikodfclemgfoaaGreatDoor
