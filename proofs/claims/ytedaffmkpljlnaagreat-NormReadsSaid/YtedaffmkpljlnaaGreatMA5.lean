/- Texts of one proof, laid together: PkP. -/
import Derived.Test.YtedaffmkpljlnaaGreatMA4
import Derived.Lib.AppendStr
set_option maxRecDepth 100000
set_option maxHeartbeats 16000000

set_option linter.unusedSimpArgs false
set_option linter.unusedVariables false
/- The plain part of pack: how numbers, words and sets are written and read. No program in sight. -/
namespace Go.Proofs.YtedaffmkpljlnaaGreat
open Go.RowKit

end Go.Proofs.YtedaffmkpljlnaaGreat
