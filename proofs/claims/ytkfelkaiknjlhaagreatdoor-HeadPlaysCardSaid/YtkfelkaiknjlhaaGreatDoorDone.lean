/-
  The statement HeadPlaysCardSaid, proved: whatever the input, the law returns true, and the input reads behind the call as it read before. By an AI agent.
-/
import Derived.Test.YtkfelkaiknjlhaaGreatDoorP14
namespace Go.Proofs.YtkfelkaiknjlhaaGreatDoor
theorem headPlays_holds : Rows.HeadPlaysCardSaid := Go.Vc.cardH
end Go.Proofs.YtkfelkaiknjlhaaGreatDoor
