/-
  DERIVED. GIVEN WITH THE SEED: THE CARDS: each row of YtoopcoeonbkedaaGreatDoorRows.lean that lists a variable, with what it lists TIED to the program's text (the seventh form; the later family's looks); each row that meets fmt, with fmt's text TOLD by the authors' own Lean function (tested against real Go, not proved from fmt's source: count such statements apart). THE CARD IS WHAT COUNTS. Prove the row's statement (the work); the ties are given (YtoopcoeonbkedaaGreatDoorTie.lean); close each card by the builder's one call (the guide's Derived/Test/ToyasCard.lean, 'card_holds'). Laid BY PROGRAM, IN A SANDBOX (cutbox-door.mjs). By AI agents, Wed Nov 11 2026. No macro, syntax, notation, axiom, sorry.
-/
import Derived.Test.YtoopcoeonbkedaaGreatDoorRows
import GoSem.ClaimSeven
namespace Go.Proofs.YtoopcoeonbkedaaGreatDoor
namespace Rows

/-- THE TIED CARD OF 'ladinglaw26.HeadDown'. -/
def headDownCard : Claim7 := { stood := { row := headDownRow, standIns := [], harness := (true, "752a595a6a9092f8eec2bad6a1f1abc24c20d77a88091c8d91e71669922db0ba"), looks := true }, kinds := [], alts := [], laidByText := true, laidKinds := [.handle], laidTests := true, laidLooks := .later }
def HeadDownCardSaid : Prop := Claim7.holds Tryz.pinned (.plain (OpenSpec.ofChange headDownSpec)) headDownCard

/-- THE TIED CARD OF 'ladinglaw26.HeadAgain'. -/
def headAgainCard : Claim7 := { stood := { row := headAgainRow, standIns := [], harness := (true, "752a595a6a9092f8eec2bad6a1f1abc24c20d77a88091c8d91e71669922db0ba"), looks := true }, kinds := [], alts := [], laidByText := true, laidKinds := [.handle], laidTests := true, laidLooks := .later }
def HeadAgainCardSaid : Prop := Claim7.holds Tryz.pinned (.plain (OpenSpec.ofChange headAgainSpec)) headAgainCard

/-- THE SECOND FORM's CARD OF 'ladinglaw26.HeadDown'. -/
def headDownUptoCard : Claim7 := { stood := { row := headDownUptoRow, standIns := [], harness := (true, "752a595a6a9092f8eec2bad6a1f1abc24c20d77a88091c8d91e71669922db0ba"), looks := true }, kinds := [], alts := [], laidByText := true, laidKinds := [.handle], laidTests := true, laidLooks := .later }
def HeadDownUptoCardSaid : Prop := Claim7.holds Tryz.pinned (.plain (OpenSpec.upto headDownSpec)) headDownUptoCard

/-- THE SECOND FORM's CARD OF 'ladinglaw26.HeadAgain'. -/
def headAgainUptoCard : Claim7 := { stood := { row := headAgainUptoRow, standIns := [], harness := (true, "752a595a6a9092f8eec2bad6a1f1abc24c20d77a88091c8d91e71669922db0ba"), looks := true }, kinds := [], alts := [], laidByText := true, laidKinds := [.handle], laidTests := true, laidLooks := .later }
def HeadAgainUptoCardSaid : Prop := Claim7.holds Tryz.pinned (.plain (OpenSpec.upto headAgainSpec)) headAgainUptoCard
end Rows
end Go.Proofs.YtoopcoeonbkedaaGreatDoor
