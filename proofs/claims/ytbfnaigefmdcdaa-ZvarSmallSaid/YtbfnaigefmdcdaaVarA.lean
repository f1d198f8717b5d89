/-
  Chapter 4's examples (awake).
-/
import Derived.Test.YtbfnaigefmdcdaaVarI
import Derived.Test.YtbfnaigefmdcdaaFreeA
namespace Go.Proofs.Ytbfnaigefmdcdaa
open Go.RowKit Go.Cor Go.Free

end Go.Proofs.Ytbfnaigefmdcdaa
