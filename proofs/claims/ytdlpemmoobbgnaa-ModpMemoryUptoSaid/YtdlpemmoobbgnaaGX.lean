/- The walks of trellisref09.Add and Scale. The walk of trellisref09.Scale. The walks of trellisref09.outside, Zero, Unit and Sub. The walk of trellisref09.Sub. -/
import Derived.Test.YtdlpemmoobbgnaaGI
import Derived.Deep.RegionHeld3
set_option linter.unusedVariables false
set_option linter.unusedSimpArgs false
namespace Go.Proofs.Ytdlpemmoobbgnaa
open Go.RowKit

theorem ZB.sum {S T : Nat} {x y : Int} (hx : ZB S x) (hy : ZB T y) {U : Nat} (h : S + T + 1 ≤ U) : ZB U (x + y) := (hx.add hy).mono h

end Go.Proofs.Ytdlpemmoobbgnaa

namespace Go.Proofs.Ytdlpemmoobbgnaa
open Go.RowKit

end Go.Proofs.Ytdlpemmoobbgnaa

namespace Go.Proofs.Ytdlpemmoobbgnaa
open Go.RowKit

end Go.Proofs.Ytdlpemmoobbgnaa

namespace Go.Proofs.Ytdlpemmoobbgnaa
open Go.RowKit

end Go.Proofs.Ytdlpemmoobbgnaa
