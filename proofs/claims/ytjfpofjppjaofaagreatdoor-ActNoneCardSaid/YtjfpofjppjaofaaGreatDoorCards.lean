/-
  DERIVED. GIVEN WITH THE SEED: THE CARDS: each row of YtjfpofjppjaofaaGreatDoorRows.lean that lists a variable, with what it lists TIED to the program's text (the seventh form; the later family's looks); each row that meets fmt, with fmt's text TOLD by the authors' own Lean function (tested against real Go, not proved from fmt's source: count such statements apart). THE CARD IS WHAT COUNTS. Prove the row's statement (the work); the ties are given (YtjfpofjppjaofaaGreatDoorTie.lean); close each card by the builder's one call (the guide's Derived/Test/ToyasCard.lean, 'card_holds'). Laid BY PROGRAM, IN A SANDBOX (cutbox-door.mjs). By AI agents, Wed Nov 11 2026. No macro, syntax, notation, axiom, sorry.
-/
import Derived.Test.YtjfpofjppjaofaaGreatDoorRows
import GoSem.ClaimSeven
namespace Go.Proofs.YtjfpofjppjaofaaGreatDoor
namespace Rows

/-- THE TIED CARD OF 'ladinglaw23.ActNone'. -/
def actNoneCard : Claim7 := { stood := { row := actNoneRow, standIns := [], harness := (true, "bea41f351c442c542bf4c11d4546070c8e3229f2d93f97e8e1908027382636aa"), looks := true }, kinds := [], alts := [], laidByText := true, laidKinds := [.handle], laidTests := true, laidLooks := .later }
def ActNoneCardSaid : Prop := Claim7.holds Tryz.pinned (.plain (OpenSpec.ofChange actNoneSpec)) actNoneCard

/-- THE SECOND FORM's CARD OF 'ladinglaw23.ActNone'. -/
def actNoneUptoCard : Claim7 := { stood := { row := actNoneUptoRow, standIns := [], harness := (true, "bea41f351c442c542bf4c11d4546070c8e3229f2d93f97e8e1908027382636aa"), looks := true }, kinds := [], alts := [], laidByText := true, laidKinds := [.handle], laidTests := true, laidLooks := .later }
def ActNoneUptoCardSaid : Prop := Claim7.holds Tryz.pinned (.plain (OpenSpec.upto actNoneSpec)) actNoneUptoCard
end Rows
end Go.Proofs.YtjfpofjppjaofaaGreatDoor
