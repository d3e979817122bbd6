/- Texts of one proof, laid together: AtL. -/
import Derived.Test.YtedaffmkpljlnaaGreatMA10
import Derived.ProofKit
import Derived.OpenShut
import Derived.ShutString
import Derived.Deep.Slices
set_option maxRecDepth 100000
set_option maxHeartbeats 16000000

set_option linter.unusedSimpArgs false
set_option linter.unusedVariables false
/- Contracts of attorneylaw01's own helpers: large, same; the walk of AtomNames. -/
namespace Go.Proofs.YtedaffmkpljlnaaGreat
open Go.RowKit Go.Maps Go.ChangeShapes Go.WideShapes Go.ChangeAt
open Go.ChangeMaps (open_string shut_string)

end Go.Proofs.YtedaffmkpljlnaaGreat
