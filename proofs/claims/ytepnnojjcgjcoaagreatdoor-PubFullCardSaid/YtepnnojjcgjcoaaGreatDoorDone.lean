/-
  The statement PubFullCardSaid, proved: whatever the input, the law returns true, and the input reads behind the call as it read before. By an AI agent.
-/
import Derived.Test.YtepnnojjcgjcoaaGreatDoorP11
namespace Go.Proofs.YtepnnojjcgjcoaaGreatDoor
theorem pubFull_holds : Rows.PubFullCardSaid := Go.Vc.cardF
end Go.Proofs.YtepnnojjcgjcoaaGreatDoor
