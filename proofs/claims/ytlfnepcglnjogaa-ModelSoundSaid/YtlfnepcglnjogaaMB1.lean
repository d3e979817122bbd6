/- Texts of one proof, laid together: LgS. -/
import Derived.Test.YtlfnepcglnjogaaProg
import Derived.Shelf.SlicesE.Clone
import Derived.Shelf.SlicesE.Compact
import Derived.Shelf.SlSortCmp.NoneTotal
import Derived.Ground.SlgnProg
import Derived.Ground.SlsfProg

/- Contracts of the library's generic functions, laid at this program (written by the kit's laying, as plain text). -/
namespace Go.Proofs.Ytlfnepcglnjogaa
open Go.Shelf

def lClone_ren : Go.Shelf.Ren := ⟨fun | 41 => 77 | n => n, fun | 22 => 25 | 23 => 27 | 4 => 4 | n => n, fun | n => n⟩
theorem lClone : Go.Proofs.SlLaysE0.n41 Try.prog lClone_ren where
  mixed := by kernel_rfl
  f41 := ⟨Try.f77.name, by decide, Try.func77.trans (congrArg some (by kernel_rfl))⟩
  t4 := Try.underlying4
  a4 := Try.isAgg4
  z4 := Try.sizeOf4
  v4 := Try.zeroValue4
  t22 := Try.underlying25
  a22 := Try.isAgg25
  z22 := Try.sizeOf25
  v22 := Try.zeroValue25
def lCompact_ren : Go.Shelf.Ren := ⟨fun | 43 => 80 | n => n, fun | 22 => 25 | 23 => 27 | 3 => 3 | 4 => 4 | 0 => 0 | n => n, fun | n => n⟩
theorem lCompact : Go.Proofs.SlLaysE.n43 Try.prog lCompact_ren where
  mixed := by kernel_rfl
  f43 := ⟨Try.f80.name, by decide, Try.func80.trans (congrArg some (by kernel_rfl))⟩
  t0 := Try.underlying0
  a0 := Try.isAgg0
  z0 := Try.sizeOf0
  v0 := Try.zeroValue0
  t3 := Try.underlying3
  a3 := Try.isAgg3
  z3 := Try.sizeOf3
  v3 := Try.zeroValue3
  t4 := Try.underlying4
  a4 := Try.isAgg4
  z4 := Try.sizeOf4
  v4 := Try.zeroValue4
  t22 := Try.underlying25
  a22 := Try.isAgg25
  z22 := Try.sizeOf25
  v22 := Try.zeroValue25
  a23 := Try.isAgg27
  z23 := Try.sizeOf27
def lSort_ren : Go.Shelf.Ren := ⟨fun | 6 => 78 | 15 => 84 | 14 => 83 | 28 => 93 | 29 => 94 | 20 => 85 | 21 => 86 | 22 => 87 | 23 => 88 | 24 => 89 | 25 => 90 | 26 => 91 | 27 => 92 | 46 => 95 | 47 => 96 | 48 => 97 | 49 => 98 | 50 => 99 | 57 => 100 | n => n, fun | 22 => 25 | 24 => 27 | 25 => 133 | 3 => 3 | 39 => 111 | 0 => 0 | 53 => 148 | 55 => 150 | 4 => 4 | 46 => 141 | 45 => 140 | 50 => 145 | 5 => 5 | 9 => 9 | 66 => 151 | 70 => 155 | 76 => 157 | 77 => 158 | n => n, fun | n => n⟩
theorem lSort : Go.Proofs.SlLaysF.n6 Try.prog lSort_ren where
  mixed := by kernel_rfl
  f6 := ⟨Try.f78.name, by decide, Try.func78.trans (congrArg some (by kernel_rfl))⟩
  f14 := ⟨Try.f83.name, by decide, Try.func83.trans (congrArg some (by kernel_rfl))⟩
  f15 := Try.func84.trans (congrArg some (by kernel_rfl))
  f20 := ⟨Try.f85.name, by decide, Try.func85.trans (congrArg some (by kernel_rfl))⟩
  f21 := ⟨Try.f86.name, by decide, Try.func86.trans (congrArg some (by kernel_rfl))⟩
  f22 := ⟨Try.f87.name, by decide, Try.func87.trans (congrArg some (by kernel_rfl))⟩
  f23 := ⟨Try.f88.name, by decide, Try.func88.trans (congrArg some (by kernel_rfl))⟩
  f24 := ⟨Try.f89.name, by decide, Try.func89.trans (congrArg some (by kernel_rfl))⟩
  f25 := ⟨Try.f90.name, by decide, Try.func90.trans (congrArg some (by kernel_rfl))⟩
  f26 := ⟨Try.f91.name, by decide, Try.func91.trans (congrArg some (by kernel_rfl))⟩
  f27 := ⟨Try.f92.name, by decide, Try.func92.trans (congrArg some (by kernel_rfl))⟩
  f28 := Try.func93.trans (congrArg some (by kernel_rfl))
  f29 := Try.func94.trans (congrArg some (by kernel_rfl))
  f46 := ⟨Try.f95.name, by decide, Try.func95.trans (congrArg some (by kernel_rfl))⟩
  f47 := Try.func96.trans (congrArg some (by kernel_rfl))
  f48 := Try.func97.trans (congrArg some (by kernel_rfl))
  f49 := ⟨Try.f98.name, by decide, Try.func98.trans (congrArg some (by kernel_rfl))⟩
  f50 := ⟨Try.f99.name, by decide, Try.func99.trans (congrArg some (by kernel_rfl))⟩
  f57 := ⟨Try.f100.name, by decide, Try.func100.trans (congrArg some (by kernel_rfl))⟩
  t0 := Try.underlying0
  a0 := Try.isAgg0
  z0 := Try.sizeOf0
  v0 := Try.zeroValue0
  t3 := Try.underlying3
  a3 := Try.isAgg3
  z3 := Try.sizeOf3
  v3 := Try.zeroValue3
  t4 := Try.underlying4
  a4 := Try.isAgg4
  z4 := Try.sizeOf4
  v4 := Try.zeroValue4
  t5 := Try.underlying5
  a5 := Try.isAgg5
  z5 := Try.sizeOf5
  v5 := Try.zeroValue5
  t9 := Try.underlying9
  a9 := Try.isAgg9
  z9 := Try.sizeOf9
  v9 := Try.zeroValue9
  t22 := Try.underlying25
  a22 := Try.isAgg25
  z22 := Try.sizeOf25
  v22 := Try.zeroValue25
  a24 := Try.isAgg27
  z24 := Try.sizeOf27
  t25 := Try.underlying133
  a25 := Try.isAgg133
  z25 := Try.sizeOf133
  v25 := Try.zeroValue133
  t39 := Try.underlying111
  a39 := Try.isAgg111
  z39 := Try.sizeOf111
  v39 := Try.zeroValue111
  t45 := Try.underlying140
  a45 := Try.isAgg140
  z45 := Try.sizeOf140
  v45 := Try.zeroValue140
  t46 := Try.underlying141
  a46 := Try.isAgg141
  z46 := Try.sizeOf141
  v46 := Try.zeroValue141
  t50 := Try.underlying145
  a50 := Try.isAgg145
  z50 := Try.sizeOf145
  v50 := Try.zeroValue145
  t53 := Try.underlying148
  a53 := Try.isAgg148
  z53 := Try.sizeOf148
  v53 := Try.zeroValue148
  t55 := Try.underlying150
  a55 := Try.isAgg150
  z55 := Try.sizeOf150
  v55 := Try.zeroValue150
  t66 := Try.underlying151
  a66 := Try.isAgg151
  z66 := Try.sizeOf151
  v66 := Try.zeroValue151
  t70 := Try.underlying155
  a70 := Try.isAgg155
  z70 := Try.sizeOf155
  v70 := Try.zeroValue155
  t76 := Try.underlying157
  a76 := Try.isAgg157
  z76 := Try.sizeOf157
  v76 := Try.zeroValue157
  t77 := Try.underlying158
  a77 := Try.isAgg158
  z77 := Try.sizeOf158
  v77 := Try.zeroValue158
end Go.Proofs.Ytlfnepcglnjogaa
