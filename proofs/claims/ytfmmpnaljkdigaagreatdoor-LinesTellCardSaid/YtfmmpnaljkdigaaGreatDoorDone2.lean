/-
  The statement LinesTell, tied to the program's text: for every input the law returns true. By an AI agent.
-/
import Derived.Test.YtfmmpnaljkdigaaGreatDoorTow3
set_option linter.unusedVariables false
set_option linter.unusedSimpArgs false
namespace Go.Proofs.YtfmmpnaljkdigaaGreatDoor
theorem linesTell_holds : Rows.LinesTellCardSaid := Go.Vc.card
end Go.Proofs.YtfmmpnaljkdigaaGreatDoor
