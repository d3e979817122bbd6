/- Texts of one proof, laid together: LgG. -/
import Derived.Test.YtpiofcjkekpboaaProg
import Derived.Shelf.Spec.SlicesGrow

/- Contracts of the library's generic functions, laid at this program (written by the kit's laying, as plain text). -/
namespace Go.Proofs.Ytpiofcjkekpboaa
open Go.Shelf

def lGrow_ren : Go.Shelf.Ren := ⟨fun | 4 => 104 | n => n, fun | 22 => 56 | 25 => 72 | 3 => 3 | 4 => 4 | 9 => 9 | 20 => 20 | 0 => 0 | n => n, fun | n => n⟩
theorem lGrow : Go.Proofs.Lays8.n4 Try.prog lGrow_ren where
  mixed := by kernel_rfl
  f4 := ⟨Try.f104.name, by decide, Try.func104.trans (congrArg some (by kernel_rfl))⟩
  t0 := Try.underlying0
  a0 := Try.isAgg0
  z0 := Try.sizeOf0
  v0 := Try.zeroValue0
  t3 := Try.underlying3
  a3 := Try.isAgg3
  z3 := Try.sizeOf3
  v3 := Try.zeroValue3
  t4 := Try.underlying4
  a4 := Try.isAgg4
  z4 := Try.sizeOf4
  v4 := Try.zeroValue4
  t9 := Try.underlying9
  a9 := Try.isAgg9
  z9 := Try.sizeOf9
  v9 := Try.zeroValue9
  t20 := Try.underlying20
  a20 := Try.isAgg20
  z20 := Try.sizeOf20
  v20 := Try.zeroValue20
  t22 := Try.underlying56
  a22 := Try.isAgg56
  z22 := Try.sizeOf56
  v22 := Try.zeroValue56
end Go.Proofs.Ytpiofcjkekpboaa
