/-
  The statement PubRefusesSaid, proved: whatever the input, the law returns true, and the input reads behind the call as it read before. By an AI agent.
-/
import Derived.Test.YtjfpofjppjaofaaGreatP11
namespace Go.Proofs.YtjfpofjppjaofaaGreat
theorem pubRefuses_holds : Rows.PubRefusesSaid := Go.Vc.said
end Go.Proofs.YtjfpofjppjaofaaGreat
