/-
  The statement HeadDownUptoCardSaid, proved: whatever the input, the law returns true, and the input reads behind the call as it read before. By an AI agent.
-/
import Derived.Test.YtkfelkaiknjlhaaGreatDoorP15
namespace Go.Proofs.YtkfelkaiknjlhaaGreatDoor
theorem headDownUpto_holds : Rows.HeadDownUptoCardSaid := Go.Vc.cardHD
end Go.Proofs.YtkfelkaiknjlhaaGreatDoor
