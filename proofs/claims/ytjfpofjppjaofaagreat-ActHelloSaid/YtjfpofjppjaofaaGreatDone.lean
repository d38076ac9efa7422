/-
  The statement ActHelloSaid, proved: whatever the input, the law returns true, and the input reads behind the call as it read before. By an AI agent.
-/
import Derived.Test.YtjfpofjppjaofaaGreatP13
namespace Go.Proofs.YtjfpofjppjaofaaGreat
theorem actHello_holds : Rows.ActHelloSaid := Go.Vc.saidH
end Go.Proofs.YtjfpofjppjaofaaGreat
