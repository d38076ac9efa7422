/-
  DERIVED. GIVEN WITH THE SEED: THE CARDS: each row of YtfmmpnaljkdigaaGreatDoorRows.lean that lists a variable, with what it lists TIED to the program's text (the seventh form; the later family's looks); each row that meets fmt, with fmt's text TOLD by the authors' own Lean function (tested against real Go, not proved from fmt's source: count such statements apart). THE CARD IS WHAT COUNTS. Prove the row's statement (the work); the ties are given (YtfmmpnaljkdigaaGreatDoorTie.lean); close each card by the builder's one call (the guide's Derived/Test/ToyasCard.lean, 'card_holds'). Laid BY PROGRAM, IN A SANDBOX (cutbox-door.mjs). By AI agents, Wed Nov 11 2026. No macro, syntax, notation, axiom, sorry.
-/
import Derived.Test.YtfmmpnaljkdigaaGreatDoorRows
import GoSem.ClaimSeven
namespace Go.Proofs.YtfmmpnaljkdigaaGreatDoor
namespace Rows

/-- THE TIED CARD OF 'ladinglaw29.LinesTell'. -/
def linesTellCard : Claim7 := { stood := { row := linesTellRow, standIns := [], harness := (true, "ff1a143efda058bafe7accb6b4471376b473e505c406e308f114bb602da20170"), looks := true }, kinds := [], alts := [], laidByText := true, laidKinds := [.data, .data, .data, .data, .handle, .sentinel, .sentinel, .pinned], laidTests := true, laidLooks := .later }
def LinesTellCardSaid : Prop := Claim7.holds Tryz.pinned (.plain (OpenSpec.ofChange linesTellSpec)) linesTellCard

/-- THE SECOND FORM's CARD OF 'ladinglaw29.LinesTell'. -/
def linesTellUptoCard : Claim7 := { stood := { row := linesTellUptoRow, standIns := [], harness := (true, "ff1a143efda058bafe7accb6b4471376b473e505c406e308f114bb602da20170"), looks := true }, kinds := [], alts := [], laidByText := true, laidKinds := [.data, .data, .data, .data, .handle, .sentinel, .sentinel, .pinned], laidTests := true, laidLooks := .later }
def LinesTellUptoCardSaid : Prop := Claim7.holds Tryz.pinned (.plain (OpenSpec.upto linesTellSpec)) linesTellUptoCard
end Rows
end Go.Proofs.YtfmmpnaljkdigaaGreatDoor
