/- Texts of one proof, laid together: LgG. -/
import Derived.Test.YtpjlkefadnbgdaaGreatProg
import Derived.Shelf.Spec.SlicesGrow

/- Contracts of the library's generic functions, laid at this program (written by the kit's laying, as plain text). -/
namespace Go.Proofs.YtpjlkefadnbgdaaGreat
open Go.Shelf

end Go.Proofs.YtpjlkefadnbgdaaGreat
