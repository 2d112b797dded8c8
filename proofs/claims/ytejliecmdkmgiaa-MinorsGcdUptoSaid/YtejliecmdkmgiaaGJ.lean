import Derived.Test.YtejliecmdkmgiaaGI
import Derived.StillTailTactics
import Derived.Test.YtejliecmdkmgiaaGF
set_option linter.unusedVariables false
set_option linter.unusedSimpArgs false
namespace Go.Proofs.Ytejliecmdkmgiaa
open Go.RowKit
end Go.Proofs.Ytejliecmdkmgiaa
namespace Go.Proofs.Ytejliecmdkmgiaa
open Go.RowKit
theorem checkE_or (r c : Int) (n : Nat) : checkE r c n = 0 ∨ checkE r c n = 1 := by unfold checkE; split <;> simp
end Go.Proofs.Ytejliecmdkmgiaa
namespace Go.Proofs.Ytejliecmdkmgiaa
open laQ
end Go.Proofs.Ytejliecmdkmgiaa
