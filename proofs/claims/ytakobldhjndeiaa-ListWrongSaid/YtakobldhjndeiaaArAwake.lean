/-
  Chapter 15's example; the walk of the law 'ArenaNone'.
-/
import Derived.Test.YtakobldhjndeiaaArNew
import Derived.Test.YtakobldhjndeiaaArTake
import Derived.OpenShut
namespace Go.Proofs.Ytakobldhjndeiaa
open Go.RowKit

end Go.Proofs.Ytakobldhjndeiaa
