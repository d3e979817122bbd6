/- Texts of one proof, laid together: LgS. -/
import Derived.Test.YtpiofcjkekpboaaProg
import Derived.Shelf.SlicesE.Clone
import Derived.Shelf.SlicesE.Compact
import Derived.Shelf.SlSortCmp.NoneTotal
import Derived.Ground.SlgnProg
import Derived.Ground.SlsfProg

/- Contracts of the library's generic functions, laid at this program (written by the kit's laying, as plain text). -/
namespace Go.Proofs.Ytpiofcjkekpboaa
open Go.Shelf

def lClone_ren : Go.Shelf.Ren := ⟨fun | 41 => 67 | n => n, fun | 22 => 55 | 23 => 72 | 4 => 4 | n => n, fun | n => n⟩
theorem lClone : Go.Proofs.SlLaysE0.n41 Try.prog lClone_ren where
  mixed := by kernel_rfl
  f41 := ⟨Try.f67.name, by decide, Try.func67.trans (congrArg some (by kernel_rfl))⟩
  t4 := Try.underlying4
  a4 := Try.isAgg4
  z4 := Try.sizeOf4
  v4 := Try.zeroValue4
  t22 := Try.underlying55
  a22 := Try.isAgg55
  z22 := Try.sizeOf55
  v22 := Try.zeroValue55
def lCompact_ren : Go.Shelf.Ren := ⟨fun | 43 => 70 | n => n, fun | 22 => 55 | 23 => 72 | 3 => 3 | 4 => 4 | 0 => 0 | n => n, fun | n => n⟩
theorem lCompact : Go.Proofs.SlLaysE.n43 Try.prog lCompact_ren where
  mixed := by kernel_rfl
  f43 := ⟨Try.f70.name, by decide, Try.func70.trans (congrArg some (by kernel_rfl))⟩
  t0 := Try.underlying0
  a0 := Try.isAgg0
  z0 := Try.sizeOf0
  v0 := Try.zeroValue0
  t3 := Try.underlying3
  a3 := Try.isAgg3
  z3 := Try.sizeOf3
  v3 := Try.zeroValue3
  t4 := Try.underlying4
  a4 := Try.isAgg4
  z4 := Try.sizeOf4
  v4 := Try.zeroValue4
  t22 := Try.underlying55
  a22 := Try.isAgg55
  z22 := Try.sizeOf55
  v22 := Try.zeroValue55
  a23 := Try.isAgg72
  z23 := Try.sizeOf72
def lSort_ren : Go.Shelf.Ren := ⟨fun | 6 => 68 | 15 => 102 | 14 => 101 | 28 => 125 | 29 => 126 | 20 => 117 | 21 => 118 | 22 => 119 | 23 => 120 | 24 => 121 | 25 => 122 | 26 => 123 | 27 => 124 | 46 => 128 | 47 => 129 | 48 => 130 | 49 => 131 | 50 => 132 | 57 => 133 | n => n, fun | 22 => 55 | 24 => 72 | 25 => 115 | 3 => 3 | 39 => 152 | 0 => 0 | 53 => 174 | 55 => 176 | 4 => 4 | 46 => 167 | 45 => 166 | 50 => 171 | 5 => 5 | 9 => 9 | 66 => 179 | 70 => 183 | 76 => 185 | 77 => 186 | n => n, fun | n => n⟩
theorem lSort : Go.Proofs.SlLaysF.n6 Try.prog lSort_ren where
  mixed := by kernel_rfl
  f6 := ⟨Try.f68.name, by decide, Try.func68.trans (congrArg some (by kernel_rfl))⟩
  f14 := ⟨Try.f101.name, by decide, Try.func101.trans (congrArg some (by kernel_rfl))⟩
  f15 := Try.func102.trans (congrArg some (by kernel_rfl))
  f20 := ⟨Try.f117.name, by decide, Try.func117.trans (congrArg some (by kernel_rfl))⟩
  f21 := ⟨Try.f118.name, by decide, Try.func118.trans (congrArg some (by kernel_rfl))⟩
  f22 := ⟨Try.f119.name, by decide, Try.func119.trans (congrArg some (by kernel_rfl))⟩
  f23 := ⟨Try.f120.name, by decide, Try.func120.trans (congrArg some (by kernel_rfl))⟩
  f24 := ⟨Try.f121.name, by decide, Try.func121.trans (congrArg some (by kernel_rfl))⟩
  f25 := ⟨Try.f122.name, by decide, Try.func122.trans (congrArg some (by kernel_rfl))⟩
  f26 := ⟨Try.f123.name, by decide, Try.func123.trans (congrArg some (by kernel_rfl))⟩
  f27 := ⟨Try.f124.name, by decide, Try.func124.trans (congrArg some (by kernel_rfl))⟩
  f28 := Try.func125.trans (congrArg some (by kernel_rfl))
  f29 := Try.func126.trans (congrArg some (by kernel_rfl))
  f46 := ⟨Try.f128.name, by decide, Try.func128.trans (congrArg some (by kernel_rfl))⟩
  f47 := Try.func129.trans (congrArg some (by kernel_rfl))
  f48 := Try.func130.trans (congrArg some (by kernel_rfl))
  f49 := ⟨Try.f131.name, by decide, Try.func131.trans (congrArg some (by kernel_rfl))⟩
  f50 := ⟨Try.f132.name, by decide, Try.func132.trans (congrArg some (by kernel_rfl))⟩
  f57 := ⟨Try.f133.name, by decide, Try.func133.trans (congrArg some (by kernel_rfl))⟩
  t0 := Try.underlying0
  a0 := Try.isAgg0
  z0 := Try.sizeOf0
  v0 := Try.zeroValue0
  t3 := Try.underlying3
  a3 := Try.isAgg3
  z3 := Try.sizeOf3
  v3 := Try.zeroValue3
  t4 := Try.underlying4
  a4 := Try.isAgg4
  z4 := Try.sizeOf4
  v4 := Try.zeroValue4
  t5 := Try.underlying5
  a5 := Try.isAgg5
  z5 := Try.sizeOf5
  v5 := Try.zeroValue5
  t9 := Try.underlying9
  a9 := Try.isAgg9
  z9 := Try.sizeOf9
  v9 := Try.zeroValue9
  t22 := Try.underlying55
  a22 := Try.isAgg55
  z22 := Try.sizeOf55
  v22 := Try.zeroValue55
  a24 := Try.isAgg72
  z24 := Try.sizeOf72
  t25 := Try.underlying115
  a25 := Try.isAgg115
  z25 := Try.sizeOf115
  v25 := Try.zeroValue115
  t39 := Try.underlying152
  a39 := Try.isAgg152
  z39 := Try.sizeOf152
  v39 := Try.zeroValue152
  t45 := Try.underlying166
  a45 := Try.isAgg166
  z45 := Try.sizeOf166
  v45 := Try.zeroValue166
  t46 := Try.underlying167
  a46 := Try.isAgg167
  z46 := Try.sizeOf167
  v46 := Try.zeroValue167
  t50 := Try.underlying171
  a50 := Try.isAgg171
  z50 := Try.sizeOf171
  v50 := Try.zeroValue171
  t53 := Try.underlying174
  a53 := Try.isAgg174
  z53 := Try.sizeOf174
  v53 := Try.zeroValue174
  t55 := Try.underlying176
  a55 := Try.isAgg176
  z55 := Try.sizeOf176
  v55 := Try.zeroValue176
  t66 := Try.underlying179
  a66 := Try.isAgg179
  z66 := Try.sizeOf179
  v66 := Try.zeroValue179
  t70 := Try.underlying183
  a70 := Try.isAgg183
  z70 := Try.sizeOf183
  v70 := Try.zeroValue183
  t76 := Try.underlying185
  a76 := Try.isAgg185
  z76 := Try.sizeOf185
  v76 := Try.zeroValue185
  t77 := Try.underlying186
  a77 := Try.isAgg186
  z77 := Try.sizeOf186
  v77 := Try.zeroValue186
end Go.Proofs.Ytpiofcjkekpboaa
