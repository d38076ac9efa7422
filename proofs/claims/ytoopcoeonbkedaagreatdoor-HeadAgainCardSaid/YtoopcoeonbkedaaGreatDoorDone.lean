/-
  The statement HeadAgainCardSaid, proved: whatever the input, the law returns true, and the input reads behind the call as it read before. By an AI agent.
-/
import Derived.Test.YtoopcoeonbkedaaGreatDoorP15
namespace Go.Proofs.YtoopcoeonbkedaaGreatDoor
theorem headAgain_holds : Rows.HeadAgainCardSaid := Go.Vc.cardHA
end Go.Proofs.YtoopcoeonbkedaaGreatDoor
