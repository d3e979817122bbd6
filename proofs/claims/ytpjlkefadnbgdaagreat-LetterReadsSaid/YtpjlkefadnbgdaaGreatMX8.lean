/- Texts of one proof, laid together: Open. -/
import Derived.Test.YtpjlkefadnbgdaaGreatMX3
import Derived.ProofKit
import Derived.OpenShut
import Derived.Deep.Slices

/- Opening what came in: slices whose elements have any number of cells, fields of structs. No program in sight. -/
namespace Go.Proofs.YtpjlkefadnbgdaaGreat
set_option linter.unusedSimpArgs false
set_option linter.unusedVariables false
open Go.RowKit Go.ChangeShapes Go.WideShapes Go.ChangeAt

section
variable {H : Type} {enc : TypeId × Value → H} {P : Program} {w : World}

end

end Go.Proofs.YtpjlkefadnbgdaaGreat
