/-
  DERIVED. GIVEN WITH THE SEED: THE CARDS: each row of YtkfelkaiknjlhaaGreatDoorRows.lean that lists a variable, with what it lists TIED to the program's text (the seventh form; the later family's looks); each row that meets fmt, with fmt's text TOLD by the authors' own Lean function (tested against real Go, not proved from fmt's source: count such statements apart). THE CARD IS WHAT COUNTS. Prove the row's statement (the work); the ties are given (YtkfelkaiknjlhaaGreatDoorTie.lean); close each card by the builder's one call (the guide's Derived/Test/ToyasCard.lean, 'card_holds'). Laid BY PROGRAM, IN A SANDBOX (cutbox-door.mjs). By AI agents, Wed Nov 11 2026. No macro, syntax, notation, axiom, sorry.
-/
import Derived.Test.YtkfelkaiknjlhaaGreatDoorRows
import GoSem.ClaimSeven
namespace Go.Proofs.YtkfelkaiknjlhaaGreatDoor
namespace Rows

/-- THE TIED CARD OF 'ladinglaw26.HeadPlays'. -/
def headPlaysCard : Claim7 := { stood := { row := headPlaysRow, standIns := [], harness := (true, "3ba9dc1a185b667a0fb46579826aca6a62f447324ca9816c868abe4a6cb9f9b6"), looks := true }, kinds := [], alts := [], laidByText := true, laidKinds := [.handle], laidTests := true, laidLooks := .later }
def HeadPlaysCardSaid : Prop := Claim7.holds Tryz.pinned (.plain (OpenSpec.ofChange headPlaysSpec)) headPlaysCard

/-- THE TIED CARD OF 'ladinglaw26.HeadDown'. -/
def headDownCard : Claim7 := { stood := { row := headDownRow, standIns := [], harness := (true, "3ba9dc1a185b667a0fb46579826aca6a62f447324ca9816c868abe4a6cb9f9b6"), looks := true }, kinds := [], alts := [], laidByText := true, laidKinds := [.handle], laidTests := true, laidLooks := .later }
def HeadDownCardSaid : Prop := Claim7.holds Tryz.pinned (.plain (OpenSpec.ofChange headDownSpec)) headDownCard

/-- THE TIED CARD OF 'ladinglaw22.PubFull'. -/
def pubFullCard : Claim7 := { stood := { row := pubFullRow, standIns := [], harness := (true, "3ba9dc1a185b667a0fb46579826aca6a62f447324ca9816c868abe4a6cb9f9b6"), looks := true }, kinds := [], alts := [], laidByText := true, laidKinds := [.handle], laidTests := true, laidLooks := .later }
def PubFullCardSaid : Prop := Claim7.holds Tryz.pinned (.plain (OpenSpec.ofChange pubFullSpec)) pubFullCard

/-- THE SECOND FORM's CARD OF 'ladinglaw26.HeadPlays'. -/
def headPlaysUptoCard : Claim7 := { stood := { row := headPlaysUptoRow, standIns := [], harness := (true, "3ba9dc1a185b667a0fb46579826aca6a62f447324ca9816c868abe4a6cb9f9b6"), looks := true }, kinds := [], alts := [], laidByText := true, laidKinds := [.handle], laidTests := true, laidLooks := .later }
def HeadPlaysUptoCardSaid : Prop := Claim7.holds Tryz.pinned (.plain (OpenSpec.upto headPlaysSpec)) headPlaysUptoCard

/-- THE SECOND FORM's CARD OF 'ladinglaw26.HeadDown'. -/
def headDownUptoCard : Claim7 := { stood := { row := headDownUptoRow, standIns := [], harness := (true, "3ba9dc1a185b667a0fb46579826aca6a62f447324ca9816c868abe4a6cb9f9b6"), looks := true }, kinds := [], alts := [], laidByText := true, laidKinds := [.handle], laidTests := true, laidLooks := .later }
def HeadDownUptoCardSaid : Prop := Claim7.holds Tryz.pinned (.plain (OpenSpec.upto headDownSpec)) headDownUptoCard

/-- THE SECOND FORM's CARD OF 'ladinglaw22.PubFull'. -/
def pubFullUptoCard : Claim7 := { stood := { row := pubFullUptoRow, standIns := [], harness := (true, "3ba9dc1a185b667a0fb46579826aca6a62f447324ca9816c868abe4a6cb9f9b6"), looks := true }, kinds := [], alts := [], laidByText := true, laidKinds := [.handle], laidTests := true, laidLooks := .later }
def PubFullUptoCardSaid : Prop := Claim7.holds Tryz.pinned (.plain (OpenSpec.upto pubFullSpec)) pubFullUptoCard
end Rows
end Go.Proofs.YtkfelkaiknjlhaaGreatDoor
