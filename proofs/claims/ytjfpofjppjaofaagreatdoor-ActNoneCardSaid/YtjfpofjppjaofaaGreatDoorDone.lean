/-
  The statement ActNoneCardSaid, proved: whatever the input, the law returns true, and the input reads behind the call as it read before. By an AI agent.
-/
import Derived.Test.YtjfpofjppjaofaaGreatDoorP13
namespace Go.Proofs.YtjfpofjppjaofaaGreatDoor
theorem actNone_holds : Rows.ActNoneCardSaid := Go.Vc.cardN
end Go.Proofs.YtjfpofjppjaofaaGreatDoor
