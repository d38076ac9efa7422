/-
  The statement LinesUnlike, tied to the program's text: for every two events the law returns true. By an AI agent.
-/
import Derived.Test.YtfmmpnaljkdigaaDoorRow3
import Derived.Test.YtfmmpnaljkdigaaDoorLaw2
set_option linter.unusedVariables false
set_option linter.unusedSimpArgs false
namespace Go.Proofs.YtfmmpnaljkdigaaDoor
theorem linesUnlike_holds : Rows.LinesUnlikeCardSaid := Go.Vc.card Go.Vc.lineLaw
end Go.Proofs.YtfmmpnaljkdigaaDoor
