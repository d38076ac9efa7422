/-
  The statement ActSilentSaid, proved: whatever the input, the law returns true, and the input reads behind the call as it read before. By an AI agent.
-/
import Derived.Test.YtjfpofjppjaofaaGreatP13
namespace Go.Proofs.YtjfpofjppjaofaaGreat
theorem actSilent_holds : Rows.ActSilentSaid := Go.Vc.saidS
end Go.Proofs.YtjfpofjppjaofaaGreat
