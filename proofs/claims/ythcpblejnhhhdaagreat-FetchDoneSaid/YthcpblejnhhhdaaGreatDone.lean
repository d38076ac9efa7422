/-
  The statement FetchDoneSaid, proved: whatever the input, the law returns true, and the input reads behind the call as it read before. By an AI agent.
-/
import Derived.Test.YthcpblejnhhhdaaGreatP12
namespace Go.Proofs.YthcpblejnhhhdaaGreat
theorem fetchDone_holds : Rows.FetchDoneSaid := Go.Vc.saidX
end Go.Proofs.YthcpblejnhhhdaaGreat
