/-
  DERIVED. GIVEN WITH THE SEED: THE CARDS: each row of YtfmmpnaljkdigaaDoorRows.lean that lists a variable, with what it lists TIED to the program's text (the seventh form; the later family's looks); each row that meets fmt, with fmt's text TOLD by the authors' own Lean function (tested against real Go, not proved from fmt's source: count such statements apart). THE CARD IS WHAT COUNTS. Prove the row's statement (the work); the ties are given (YtfmmpnaljkdigaaDoorTie.lean); close each card by the builder's one call (the guide's Derived/Test/ToyasCard.lean, 'card_holds'). Laid BY PROGRAM, IN A SANDBOX (cutbox-door.mjs). By AI agents, Wed Nov 11 2026. No macro, syntax, notation, axiom, sorry.
-/
import Derived.Test.YtfmmpnaljkdigaaDoorRows
import GoSem.ClaimSeven
namespace Go.Proofs.YtfmmpnaljkdigaaDoor
namespace Rows

/-- THE TIED CARD OF 'ladinglaw29.LinesUnlike'. -/
def linesUnlikeCard : Claim7 := { stood := { row := linesUnlikeRow, standIns := [], harness := (true, "7959fee46c84b43c9f79ca448ff9469d0e227f29d55ec121b869aaf3e261a485"), looks := true }, kinds := [], alts := [], laidByText := true, laidKinds := [.data, .data, .data, .data, .sentinel, .sentinel, .pinned], laidTests := true, laidLooks := .later }
def LinesUnlikeCardSaid : Prop := Claim7.holds Tryd.pinned (.plain (OpenSpec.ofChange linesUnlikeSpec)) linesUnlikeCard

/-- THE SECOND FORM's CARD OF 'ladinglaw29.LinesUnlike'. -/
def linesUnlikeUptoCard : Claim7 := { stood := { row := linesUnlikeUptoRow, standIns := [], harness := (true, "7959fee46c84b43c9f79ca448ff9469d0e227f29d55ec121b869aaf3e261a485"), looks := true }, kinds := [], alts := [], laidByText := true, laidKinds := [.data, .data, .data, .data, .sentinel, .sentinel, .pinned], laidTests := true, laidLooks := .later }
def LinesUnlikeUptoCardSaid : Prop := Claim7.holds Tryd.pinned (.plain (OpenSpec.upto linesUnlikeSpec)) linesUnlikeUptoCard
end Rows
end Go.Proofs.YtfmmpnaljkdigaaDoor
