/-
  The statement FetchNoneCardSaid, proved: whatever the input, the law returns true, and the input reads behind the call as it read before. By an AI agent.
-/
import Derived.Test.YtcfbeaibcgjihaaGreatDoorP13
namespace Go.Proofs.YtcfbeaibcgjihaaGreatDoor
theorem fetchNone_holds : Rows.FetchNoneCardSaid := Go.Vc.cardT
end Go.Proofs.YtcfbeaibcgjihaaGreatDoor
