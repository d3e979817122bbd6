/- Texts of one proof, laid together: LgJ. -/
import Derived.Test.YtcbcnbefaggnhaaProg
import Derived.Shelf.Lays

/- Contracts of the library's functions, laid at this program (written by the kit's laying, as plain text). -/
namespace Go.Proofs.Ytcbcnbefaggnhaa
set_option linter.unusedSimpArgs false
set_option linter.unusedVariables false
open Go.Shelf

def lJoin_ren : Go.Shelf.Ren := ⟨fun | 156 => 72 | 165 => 112 | 166 => 113 | 169 => 114 | 240 => 130 | 241 => 131 | 276 => 137 | 277 => 138 | n => n, fun | 31 => 65 | 9 => 9 | 3 => 3 | 4 => 4 | 0 => 0 | 20 => 20 | 72 => 142 | 76 => 146 | 70 => 140 | 37 => 64 | 75 => 145 | 127 => 158 | 164 => 160 | 5 => 5 | 80 => 148 | n => n, fun | n => n⟩
theorem lJoin : Go.Proofs.Lays.n156 Try.prog lJoin_ren where
  mixed := by kernel_rfl
  f156 := Try.func72.trans (congrArg some (by kernel_rfl))
  f165 := Try.func112.trans (congrArg some (by kernel_rfl))
  f166 := Try.func113.trans (congrArg some (by kernel_rfl))
  f169 := Try.func114.trans (congrArg some (by kernel_rfl))
  f240 := Try.func130.trans (congrArg some (by kernel_rfl))
  f241 := Try.func131.trans (congrArg some (by kernel_rfl))
  f276 := Try.func137.trans (congrArg some (by kernel_rfl))
  f277 := Try.func138.trans (congrArg some (by kernel_rfl))
  t0 := Try.underlying0
  a0 := Try.isAgg0
  z0 := Try.sizeOf0
  v0 := Try.zeroValue0
  t3 := Try.underlying3
  a3 := Try.isAgg3
  z3 := Try.sizeOf3
  v3 := Try.zeroValue3
  t4 := Try.underlying4
  a4 := Try.isAgg4
  z4 := Try.sizeOf4
  v4 := Try.zeroValue4
  t9 := Try.underlying9
  a9 := Try.isAgg9
  z9 := Try.sizeOf9
  v9 := Try.zeroValue9
  t20 := Try.underlying20
  a20 := Try.isAgg20
  z20 := Try.sizeOf20
  v20 := Try.zeroValue20
  t31 := Try.underlying65
  a31 := Try.isAgg65
  z31 := Try.sizeOf65
  v31 := Try.zeroValue65
  t37 := Try.underlying64
  a37 := Try.isAgg64
  z37 := Try.sizeOf64
  v37 := Try.zeroValue64
  t70 := Try.underlying140
  a70 := Try.isAgg140
  z70 := Try.sizeOf140
  v70 := Try.zeroValue140
  t72 := Try.underlying142
  a72 := Try.isAgg142
  z72 := Try.sizeOf142
  v72 := Try.zeroValue142
  t75 := Try.underlying145
  a75 := Try.isAgg145
  z75 := Try.sizeOf145
  v75 := Try.zeroValue145
  t76 := Try.underlying146
  a76 := Try.isAgg146
  z76 := Try.sizeOf146
  v76 := Try.zeroValue146
  t127 := Try.underlying158
  a127 := Try.isAgg158
  z127 := Try.sizeOf158
  v127 := Try.zeroValue158
  t164 := Try.underlying160
  a164 := Try.isAgg160
  z164 := Try.sizeOf160
  v164 := Try.zeroValue160
end Go.Proofs.Ytcbcnbefaggnhaa
