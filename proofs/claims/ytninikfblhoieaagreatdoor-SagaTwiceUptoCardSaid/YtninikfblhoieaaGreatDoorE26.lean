/- Own text E26 of this claim: see the text that holds the theorem. -/
import Derived.Test.YtninikfblhoieaaGreatDoorEB
set_option linter.all false
set_option maxRecDepth 100000
namespace Go.Av
open Go Go.Proofs

end Go.Av
