/-
  The statement PubNumbersSaid, proved: whatever the input, the law returns true, and the input reads behind the call as it read before. By an AI agent.
-/
import Derived.Test.YtjfpofjppjaofaaGreatP12
namespace Go.Proofs.YtjfpofjppjaofaaGreat
theorem pubNumbers_holds : Rows.PubNumbersSaid := Go.Vc.saidN
end Go.Proofs.YtjfpofjppjaofaaGreat
