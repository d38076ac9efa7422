/-
  DERIVED. GIVEN WITH THE SEED: THE CARDS: each row of YthcpblejnhhhdaaGreatDoorRows.lean that lists a variable, with what it lists TIED to the program's text (the seventh form; the later family's looks); each row that meets fmt, with fmt's text TOLD by the authors' own Lean function (tested against real Go, not proved from fmt's source: count such statements apart). THE CARD IS WHAT COUNTS. Prove the row's statement (the work); the ties are given (YthcpblejnhhhdaaGreatDoorTie.lean); close each card by the builder's one call (the guide's Derived/Test/ToyasCard.lean, 'card_holds'). Laid BY PROGRAM, IN A SANDBOX (cutbox-door.mjs). By AI agents, Wed Nov 11 2026. No macro, syntax, notation, axiom, sorry.
-/
import Derived.Test.YthcpblejnhhhdaaGreatDoorRows
import GoSem.ClaimSeven
namespace Go.Proofs.YthcpblejnhhhdaaGreatDoor
namespace Rows

/-- THE TIED CARD OF 'ladinglaw16.HoldTurns'. -/
def holdTurnsCard : Claim7 := { stood := { row := holdTurnsRow, standIns := [], harness := (true, "6155af5fdf747f4bdf8db56123649bbe006652806c8c99460acd1874c815dd44"), looks := true }, kinds := [], alts := [], laidByText := true, laidKinds := [.handle], laidTests := true, laidLooks := .later }
def HoldTurnsCardSaid : Prop := Claim7.holds Tryz.pinned (.plain (OpenSpec.ofChange holdTurnsSpec)) holdTurnsCard

/-- THE TIED CARD OF 'ladinglaw20.FetchPlays'. -/
def fetchPlaysCard : Claim7 := { stood := { row := fetchPlaysRow, standIns := [], harness := (true, "6155af5fdf747f4bdf8db56123649bbe006652806c8c99460acd1874c815dd44"), looks := true }, kinds := [], alts := [], laidByText := true, laidKinds := [.handle], laidTests := true, laidLooks := .later }
def FetchPlaysCardSaid : Prop := Claim7.holds Tryz.pinned (.plain (OpenSpec.ofChange fetchPlaysSpec)) fetchPlaysCard

/-- THE SECOND FORM's CARD OF 'ladinglaw16.HoldTurns'. -/
def holdTurnsUptoCard : Claim7 := { stood := { row := holdTurnsUptoRow, standIns := [], harness := (true, "6155af5fdf747f4bdf8db56123649bbe006652806c8c99460acd1874c815dd44"), looks := true }, kinds := [], alts := [], laidByText := true, laidKinds := [.handle], laidTests := true, laidLooks := .later }
def HoldTurnsUptoCardSaid : Prop := Claim7.holds Tryz.pinned (.plain (OpenSpec.upto holdTurnsSpec)) holdTurnsUptoCard

/-- THE SECOND FORM's CARD OF 'ladinglaw20.FetchPlays'. -/
def fetchPlaysUptoCard : Claim7 := { stood := { row := fetchPlaysUptoRow, standIns := [], harness := (true, "6155af5fdf747f4bdf8db56123649bbe006652806c8c99460acd1874c815dd44"), looks := true }, kinds := [], alts := [], laidByText := true, laidKinds := [.handle], laidTests := true, laidLooks := .later }
def FetchPlaysUptoCardSaid : Prop := Claim7.holds Tryz.pinned (.plain (OpenSpec.upto fetchPlaysSpec)) fetchPlaysUptoCard
end Rows
end Go.Proofs.YthcpblejnhhhdaaGreatDoor
