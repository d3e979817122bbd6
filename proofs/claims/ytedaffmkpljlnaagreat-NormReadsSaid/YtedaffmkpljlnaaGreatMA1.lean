/- Texts of one proof, laid together: LgJ. -/
import Derived.Test.YtedaffmkpljlnaaGreatProg
import Derived.Shelf.Lays
set_option maxRecDepth 100000
set_option maxHeartbeats 16000000

set_option linter.unusedSimpArgs false
set_option linter.unusedVariables false
/- Contracts of the library's functions, laid at this program (written by the kit's laying, as plain text). -/
namespace Go.Proofs.YtedaffmkpljlnaaGreat
open Go.Shelf

def lJoin_ren : Go.Shelf.Ren := ⟨fun | 156 => 37 | 165 => 73 | 166 => 71 | 169 => 72 | 240 => 109 | 241 => 110 | 276 => 130 | 277 => 131 | n => n, fun | 31 => 22 | 9 => 9 | 3 => 3 | 4 => 4 | 0 => 0 | 20 => 20 | 72 => 119 | 76 => 122 | 70 => 117 | 37 => 110 | 75 => 121 | 127 => 156 | 164 => 170 | 5 => 5 | 80 => 124 | n => n, fun | n => n⟩
theorem lJoin : Go.Proofs.Lays.n156 Tryz.prog lJoin_ren where
 mixed := by kernel_rfl
 f156 := Tryz.func37.trans (congrArg some (by kernel_rfl))
 f165 := Tryz.func73.trans (congrArg some (by kernel_rfl))
 f166 := Tryz.func71.trans (congrArg some (by kernel_rfl))
 f169 := Tryz.func72.trans (congrArg some (by kernel_rfl))
 f240 := Tryz.func109.trans (congrArg some (by kernel_rfl))
 f241 := Tryz.func110.trans (congrArg some (by kernel_rfl))
 f276 := Tryz.func130.trans (congrArg some (by kernel_rfl))
 f277 := Tryz.func131.trans (congrArg some (by kernel_rfl))
 t0 := Tryz.underlying0
 a0 := Tryz.isAgg0
 z0 := Tryz.sizeOf0
 v0 := Tryz.zeroValue0
 t3 := Tryz.underlying3
 a3 := Tryz.isAgg3
 z3 := Tryz.sizeOf3
 v3 := Tryz.zeroValue3
 t4 := Tryz.underlying4
 a4 := Tryz.isAgg4
 z4 := Tryz.sizeOf4
 v4 := Tryz.zeroValue4
 t9 := Tryz.underlying9
 a9 := Tryz.isAgg9
 z9 := Tryz.sizeOf9
 v9 := Tryz.zeroValue9
 t20 := Tryz.underlying20
 a20 := Tryz.isAgg20
 z20 := Tryz.sizeOf20
 v20 := Tryz.zeroValue20
 t31 := Tryz.underlying22
 a31 := Tryz.isAgg22
 z31 := Tryz.sizeOf22
 v31 := Tryz.zeroValue22
 t37 := Tryz.underlying110
 a37 := Tryz.isAgg110
 z37 := Tryz.sizeOf110
 v37 := Tryz.zeroValue110
 t70 := Tryz.underlying117
 a70 := Tryz.isAgg117
 z70 := Tryz.sizeOf117
 v70 := Tryz.zeroValue117
 t72 := Tryz.underlying119
 a72 := Tryz.isAgg119
 z72 := Tryz.sizeOf119
 v72 := Tryz.zeroValue119
 t75 := Tryz.underlying121
 a75 := Tryz.isAgg121
 z75 := Tryz.sizeOf121
 v75 := Tryz.zeroValue121
 t76 := Tryz.underlying122
 a76 := Tryz.isAgg122
 z76 := Tryz.sizeOf122
 v76 := Tryz.zeroValue122
 t127 := Tryz.underlying156
 a127 := Tryz.isAgg156
 z127 := Tryz.sizeOf156
 v127 := Tryz.zeroValue156
 t164 := Tryz.underlying170
 a164 := Tryz.isAgg170
 z164 := Tryz.sizeOf170
 v164 := Tryz.zeroValue170
end Go.Proofs.YtedaffmkpljlnaaGreat
