/- Texts of one proof, laid together: Kq Ep. -/
import Derived.Test.YtedaffmkpljlnaaGreatMA22
import Derived.Test.YtedaffmkpljlnaaGreatMA23
import Derived.OpenShut
import Derived.ShutString
set_option maxRecDepth 100000
set_option maxHeartbeats 16000000

set_option linter.unusedSimpArgs false
set_option linter.unusedVariables false
/- Opening tokens that came in; the calls of the laws on tokens. -/
namespace Go.Proofs.YtedaffmkpljlnaaGreat
open Go.RowKit Go.Lib Go.ChangeShapes Go.WideShapes Go.ChangeAt
end Go.Proofs.YtedaffmkpljlnaaGreat
