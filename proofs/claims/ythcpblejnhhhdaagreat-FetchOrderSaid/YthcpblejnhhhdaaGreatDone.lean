/-
  The statement FetchOrderSaid, proved: whatever the input, the law returns true, and the input reads behind the call as it read before. By an AI agent.
-/
import Derived.Test.YthcpblejnhhhdaaGreatP13
namespace Go.Proofs.YthcpblejnhhhdaaGreat
theorem fetchOrder_holds : Rows.FetchOrderSaid := Go.Vc.saidX
end Go.Proofs.YthcpblejnhhhdaaGreat
