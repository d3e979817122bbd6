/- Texts of one proof, laid together: PkP. -/
import Derived.Test.YtpiofcjkekpboaaMA3
import Derived.Lib.AppendStr

/- The plain part of pack: how numbers, words and sets are written and read. No program in sight. -/
namespace Go.Proofs.Ytpiofcjkekpboaa
set_option linter.unusedSimpArgs false
set_option linter.unusedVariables false
open Go.RowKit

end Go.Proofs.Ytpiofcjkekpboaa
