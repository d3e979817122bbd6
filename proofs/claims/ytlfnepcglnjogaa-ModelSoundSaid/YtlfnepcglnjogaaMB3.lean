/- Texts of one proof, laid together: PkP. -/
import Derived.Test.YtlfnepcglnjogaaMB2
import Derived.Lib.AppendStr

/- The plain part of pack: how numbers, words and sets are written and read. No program in sight. -/
namespace Go.Proofs.Ytlfnepcglnjogaa
set_option linter.unusedSimpArgs false
set_option linter.unusedVariables false
open Go.RowKit

end Go.Proofs.Ytlfnepcglnjogaa
