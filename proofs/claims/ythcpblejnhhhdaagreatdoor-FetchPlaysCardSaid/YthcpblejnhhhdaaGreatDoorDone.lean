/-
  The statement FetchPlaysCardSaid, proved: whatever the input, the law returns true, and the input reads behind the call as it read before. By an AI agent.
-/
import Derived.Test.YthcpblejnhhhdaaGreatDoorP15
namespace Go.Proofs.YthcpblejnhhhdaaGreatDoor
theorem fetchPlays_holds : Rows.FetchPlaysCardSaid := Go.Vc.cardT
end Go.Proofs.YthcpblejnhhhdaaGreatDoor
