/-
  The statement ActWaitsSaid, proved: whatever the input, the law returns true, and the input reads behind the call as it read before. By an AI agent.
-/
import Derived.Test.YtjfpofjppjaofaaGreatP13
namespace Go.Proofs.YtjfpofjppjaofaaGreat
theorem actWaits_holds : Rows.ActWaitsSaid := Go.Vc.saidW
end Go.Proofs.YtjfpofjppjaofaaGreat
