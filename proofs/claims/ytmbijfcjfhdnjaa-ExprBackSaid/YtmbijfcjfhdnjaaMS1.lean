/- Texts of one proof, laid together: LgJ. -/
import Derived.Test.YtmbijfcjfhdnjaaProg
import Derived.Shelf.Lays

/- Contracts of the library's functions, laid at this program (written by the kit's laying, as plain text). -/
namespace Go.Proofs.Ytmbijfcjfhdnjaa
set_option linter.unusedSimpArgs false
set_option linter.unusedVariables false
open Go.Shelf

def lJoin_ren : Go.Shelf.Ren := ⟨fun | 156 => 46 | 165 => 65 | 166 => 66 | 169 => 67 | 240 => 79 | 241 => 80 | 276 => 88 | 277 => 89 | n => n, fun | 31 => 42 | 9 => 9 | 3 => 3 | 4 => 4 | 0 => 0 | 20 => 20 | 72 => 84 | 76 => 87 | 70 => 81 | 37 => 82 | 75 => 86 | 127 => 97 | 164 => 100 | 5 => 5 | 80 => 89 | n => n, fun | n => n⟩
theorem lJoin : Go.Proofs.Lays.n156 Try.prog lJoin_ren where
  mixed := by kernel_rfl
  f156 := Try.func46.trans (congrArg some (by kernel_rfl))
  f165 := Try.func65.trans (congrArg some (by kernel_rfl))
  f166 := Try.func66.trans (congrArg some (by kernel_rfl))
  f169 := Try.func67.trans (congrArg some (by kernel_rfl))
  f240 := Try.func79.trans (congrArg some (by kernel_rfl))
  f241 := Try.func80.trans (congrArg some (by kernel_rfl))
  f276 := Try.func88.trans (congrArg some (by kernel_rfl))
  f277 := Try.func89.trans (congrArg some (by kernel_rfl))
  t0 := Try.underlying0
  a0 := Try.isAgg0
  z0 := Try.sizeOf0
  v0 := Try.zeroValue0
  t3 := Try.underlying3
  a3 := Try.isAgg3
  z3 := Try.sizeOf3
  v3 := Try.zeroValue3
  t4 := Try.underlying4
  a4 := Try.isAgg4
  z4 := Try.sizeOf4
  v4 := Try.zeroValue4
  t9 := Try.underlying9
  a9 := Try.isAgg9
  z9 := Try.sizeOf9
  v9 := Try.zeroValue9
  t20 := Try.underlying20
  a20 := Try.isAgg20
  z20 := Try.sizeOf20
  v20 := Try.zeroValue20
  t31 := Try.underlying42
  a31 := Try.isAgg42
  z31 := Try.sizeOf42
  v31 := Try.zeroValue42
  t37 := Try.underlying82
  a37 := Try.isAgg82
  z37 := Try.sizeOf82
  v37 := Try.zeroValue82
  t70 := Try.underlying81
  a70 := Try.isAgg81
  z70 := Try.sizeOf81
  v70 := Try.zeroValue81
  t72 := Try.underlying84
  a72 := Try.isAgg84
  z72 := Try.sizeOf84
  v72 := Try.zeroValue84
  t75 := Try.underlying86
  a75 := Try.isAgg86
  z75 := Try.sizeOf86
  v75 := Try.zeroValue86
  t76 := Try.underlying87
  a76 := Try.isAgg87
  z76 := Try.sizeOf87
  v76 := Try.zeroValue87
  t127 := Try.underlying97
  a127 := Try.isAgg97
  z127 := Try.sizeOf97
  v127 := Try.zeroValue97
  t164 := Try.underlying100
  a164 := Try.isAgg100
  z164 := Try.sizeOf100
  v164 := Try.zeroValue100
end Go.Proofs.Ytmbijfcjfhdnjaa
