/- Texts of one proof, laid together: LgS. -/
import Derived.Test.YtedaffmkpljlnaaGreatProg
import Derived.Shelf.SlicesE.Clone
import Derived.Shelf.SlicesE.Compact
import Derived.Shelf.SlSortCmp.NoneTotal
import Derived.Ground.SlgnProg
import Derived.Ground.SlsfProg
set_option maxRecDepth 100000
set_option maxHeartbeats 16000000

set_option linter.unusedSimpArgs false
set_option linter.unusedVariables false
/- Contracts of the library's generic functions, laid at this program (written by the kit's laying, as plain text). -/
namespace Go.Proofs.YtedaffmkpljlnaaGreat
open Go.Shelf

def lClone_ren : Go.Shelf.Ren := ⟨fun | 41 => 91 | n => n, fun | 22 => 32 | 23 => 43 | 4 => 4 | n => n, fun | n => n⟩
theorem lClone : Go.Proofs.SlLaysE0.n41 Tryz.prog lClone_ren where
 mixed := by kernel_rfl
 f41 := ⟨Tryz.f91.name, by decide, Tryz.func91.trans (congrArg some (by kernel_rfl))⟩
 t4 := Tryz.underlying4
 a4 := Tryz.isAgg4
 z4 := Tryz.sizeOf4
 v4 := Tryz.zeroValue4
 t22 := Tryz.underlying32
 a22 := Tryz.isAgg32
 z22 := Tryz.sizeOf32
 v22 := Tryz.zeroValue32
def lCompact_ren : Go.Shelf.Ren := ⟨fun | 43 => 94 | n => n, fun | 22 => 32 | 23 => 43 | 3 => 3 | 4 => 4 | 0 => 0 | n => n, fun | n => n⟩
theorem lCompact : Go.Proofs.SlLaysE.n43 Tryz.prog lCompact_ren where
 mixed := by kernel_rfl
 f43 := ⟨Tryz.f94.name, by decide, Tryz.func94.trans (congrArg some (by kernel_rfl))⟩
 t0 := Tryz.underlying0
 a0 := Tryz.isAgg0
 z0 := Tryz.sizeOf0
 v0 := Tryz.zeroValue0
 t3 := Tryz.underlying3
 a3 := Tryz.isAgg3
 z3 := Tryz.sizeOf3
 v3 := Tryz.zeroValue3
 t4 := Tryz.underlying4
 a4 := Tryz.isAgg4
 z4 := Tryz.sizeOf4
 v4 := Tryz.zeroValue4
 t22 := Tryz.underlying32
 a22 := Tryz.isAgg32
 z22 := Tryz.sizeOf32
 v22 := Tryz.zeroValue32
 a23 := Tryz.isAgg43
 z23 := Tryz.sizeOf43
def lSort_ren : Go.Shelf.Ren := ⟨fun | 6 => 92 | 15 => 115 | 14 => 114 | 28 => 140 | 29 => 141 | 20 => 132 | 21 => 133 | 22 => 134 | 23 => 135 | 24 => 136 | 25 => 137 | 26 => 138 | 27 => 139 | 46 => 147 | 47 => 148 | 48 => 149 | 49 => 150 | 50 => 151 | 57 => 158 | n => n, fun | 22 => 32 | 24 => 43 | 25 => 142 | 3 => 3 | 39 => 139 | 0 => 0 | 53 => 182 | 55 => 184 | 4 => 4 | 46 => 175 | 45 => 174 | 50 => 179 | 5 => 5 | 9 => 9 | 66 => 186 | 70 => 190 | 76 => 193 | 77 => 194 | n => n, fun | n => n⟩
theorem lSort : Go.Proofs.SlLaysF.n6 Tryz.prog lSort_ren where
 mixed := by kernel_rfl
 f6 := ⟨Tryz.f92.name, by decide, Tryz.func92.trans (congrArg some (by kernel_rfl))⟩
 f14 := ⟨Tryz.f114.name, by decide, Tryz.func114.trans (congrArg some (by kernel_rfl))⟩
 f15 := Tryz.func115.trans (congrArg some (by kernel_rfl))
 f20 := ⟨Tryz.f132.name, by decide, Tryz.func132.trans (congrArg some (by kernel_rfl))⟩
 f21 := ⟨Tryz.f133.name, by decide, Tryz.func133.trans (congrArg some (by kernel_rfl))⟩
 f22 := ⟨Tryz.f134.name, by decide, Tryz.func134.trans (congrArg some (by kernel_rfl))⟩
 f23 := ⟨Tryz.f135.name, by decide, Tryz.func135.trans (congrArg some (by kernel_rfl))⟩
 f24 := ⟨Tryz.f136.name, by decide, Tryz.func136.trans (congrArg some (by kernel_rfl))⟩
 f25 := ⟨Tryz.f137.name, by decide, Tryz.func137.trans (congrArg some (by kernel_rfl))⟩
 f26 := ⟨Tryz.f138.name, by decide, Tryz.func138.trans (congrArg some (by kernel_rfl))⟩
 f27 := ⟨Tryz.f139.name, by decide, Tryz.func139.trans (congrArg some (by kernel_rfl))⟩
 f28 := Tryz.func140.trans (congrArg some (by kernel_rfl))
 f29 := Tryz.func141.trans (congrArg some (by kernel_rfl))
 f46 := ⟨Tryz.f147.name, by decide, Tryz.func147.trans (congrArg some (by kernel_rfl))⟩
 f47 := Tryz.func148.trans (congrArg some (by kernel_rfl))
 f48 := Tryz.func149.trans (congrArg some (by kernel_rfl))
 f49 := ⟨Tryz.f150.name, by decide, Tryz.func150.trans (congrArg some (by kernel_rfl))⟩
 f50 := ⟨Tryz.f151.name, by decide, Tryz.func151.trans (congrArg some (by kernel_rfl))⟩
 f57 := ⟨Tryz.f158.name, by decide, Tryz.func158.trans (congrArg some (by kernel_rfl))⟩
 t0 := Tryz.underlying0
 a0 := Tryz.isAgg0
 z0 := Tryz.sizeOf0
 v0 := Tryz.zeroValue0
 t3 := Tryz.underlying3
 a3 := Tryz.isAgg3
 z3 := Tryz.sizeOf3
 v3 := Tryz.zeroValue3
 t4 := Tryz.underlying4
 a4 := Tryz.isAgg4
 z4 := Tryz.sizeOf4
 v4 := Tryz.zeroValue4
 t5 := Tryz.underlying5
 a5 := Tryz.isAgg5
 z5 := Tryz.sizeOf5
 v5 := Tryz.zeroValue5
 t9 := Tryz.underlying9
 a9 := Tryz.isAgg9
 z9 := Tryz.sizeOf9
 v9 := Tryz.zeroValue9
 t22 := Tryz.underlying32
 a22 := Tryz.isAgg32
 z22 := Tryz.sizeOf32
 v22 := Tryz.zeroValue32
 a24 := Tryz.isAgg43
 z24 := Tryz.sizeOf43
 t25 := Tryz.underlying142
 a25 := Tryz.isAgg142
 z25 := Tryz.sizeOf142
 v25 := Tryz.zeroValue142
 t39 := Tryz.underlying139
 a39 := Tryz.isAgg139
 z39 := Tryz.sizeOf139
 v39 := Tryz.zeroValue139
 t45 := Tryz.underlying174
 a45 := Tryz.isAgg174
 z45 := Tryz.sizeOf174
 v45 := Tryz.zeroValue174
 t46 := Tryz.underlying175
 a46 := Tryz.isAgg175
 z46 := Tryz.sizeOf175
 v46 := Tryz.zeroValue175
 t50 := Tryz.underlying179
 a50 := Tryz.isAgg179
 z50 := Tryz.sizeOf179
 v50 := Tryz.zeroValue179
 t53 := Tryz.underlying182
 a53 := Tryz.isAgg182
 z53 := Tryz.sizeOf182
 v53 := Tryz.zeroValue182
 t55 := Tryz.underlying184
 a55 := Tryz.isAgg184
 z55 := Tryz.sizeOf184
 v55 := Tryz.zeroValue184
 t66 := Tryz.underlying186
 a66 := Tryz.isAgg186
 z66 := Tryz.sizeOf186
 v66 := Tryz.zeroValue186
 t70 := Tryz.underlying190
 a70 := Tryz.isAgg190
 z70 := Tryz.sizeOf190
 v70 := Tryz.zeroValue190
 t76 := Tryz.underlying193
 a76 := Tryz.isAgg193
 z76 := Tryz.sizeOf193
 v76 := Tryz.zeroValue193
 t77 := Tryz.underlying194
 a77 := Tryz.isAgg194
 z77 := Tryz.sizeOf194
 v77 := Tryz.zeroValue194
end Go.Proofs.YtedaffmkpljlnaaGreat
