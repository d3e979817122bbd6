/- Texts of one proof, laid together: LgS. -/
import Derived.Test.YtpjlkefadnbgdaaGreatProg
import Derived.Shelf.SlicesE.Clone
import Derived.Shelf.SlicesE.Compact
import Derived.Shelf.SlSortCmp.NoneTotal
import Derived.Ground.SlgnProg
import Derived.Ground.SlsfProg

/- Contracts of the library's generic functions, laid at this program (written by the kit's laying, as plain text). -/
namespace Go.Proofs.YtpjlkefadnbgdaaGreat
open Go.Shelf

def lClone_ren : Go.Shelf.Ren := ⟨fun | 41 => 163 | n => n, fun | 22 => 24 | 23 => 31 | 4 => 4 | n => n, fun | n => n⟩
theorem lClone : Go.Proofs.SlLaysE0.n41 Tryz.prog lClone_ren where
  mixed := by kernel_rfl
  f41 := ⟨Tryz.f163.name, by decide, Tryz.func163.trans (congrArg some (by kernel_rfl))⟩
  t4 := Tryz.underlying4
  a4 := Tryz.isAgg4
  z4 := Tryz.sizeOf4
  v4 := Tryz.zeroValue4
  t22 := Tryz.underlying24
  a22 := Tryz.isAgg24
  z22 := Tryz.sizeOf24
  v22 := Tryz.zeroValue24
def lCompact_ren : Go.Shelf.Ren := ⟨fun | 43 => 166 | n => n, fun | 22 => 24 | 23 => 31 | 3 => 3 | 4 => 4 | 0 => 0 | n => n, fun | n => n⟩
theorem lCompact : Go.Proofs.SlLaysE.n43 Tryz.prog lCompact_ren where
  mixed := by kernel_rfl
  f43 := ⟨Tryz.f166.name, by decide, Tryz.func166.trans (congrArg some (by kernel_rfl))⟩
  t0 := Tryz.underlying0
  a0 := Tryz.isAgg0
  z0 := Tryz.sizeOf0
  v0 := Tryz.zeroValue0
  t3 := Tryz.underlying3
  a3 := Tryz.isAgg3
  z3 := Tryz.sizeOf3
  v3 := Tryz.zeroValue3
  t4 := Tryz.underlying4
  a4 := Tryz.isAgg4
  z4 := Tryz.sizeOf4
  v4 := Tryz.zeroValue4
  t22 := Tryz.underlying24
  a22 := Tryz.isAgg24
  z22 := Tryz.sizeOf24
  v22 := Tryz.zeroValue24
  a23 := Tryz.isAgg31
  z23 := Tryz.sizeOf31
def lSort_ren : Go.Shelf.Ren := ⟨fun | 6 => 164 | 15 => 190 | 14 => 189 | 28 => 218 | 29 => 219 | 20 => 210 | 21 => 211 | 22 => 212 | 23 => 213 | 24 => 214 | 25 => 215 | 26 => 216 | 27 => 217 | 46 => 228 | 47 => 229 | 48 => 230 | 49 => 231 | 50 => 232 | 57 => 241 | n => n, fun | 22 => 24 | 24 => 31 | 25 => 210 | 3 => 3 | 39 => 148 | 0 => 0 | 53 => 254 | 55 => 199 | 4 => 4 | 46 => 247 | 45 => 246 | 50 => 251 | 5 => 5 | 9 => 9 | 66 => 259 | 70 => 263 | 76 => 267 | 77 => 268 | n => n, fun | n => n⟩
theorem lSort : Go.Proofs.SlLaysF.n6 Tryz.prog lSort_ren where
  mixed := by kernel_rfl
  f6 := ⟨Tryz.f164.name, by decide, Tryz.func164.trans (congrArg some (by kernel_rfl))⟩
  f14 := ⟨Tryz.f189.name, by decide, Tryz.func189.trans (congrArg some (by kernel_rfl))⟩
  f15 := Tryz.func190.trans (congrArg some (by kernel_rfl))
  f20 := ⟨Tryz.f210.name, by decide, Tryz.func210.trans (congrArg some (by kernel_rfl))⟩
  f21 := ⟨Tryz.f211.name, by decide, Tryz.func211.trans (congrArg some (by kernel_rfl))⟩
  f22 := ⟨Tryz.f212.name, by decide, Tryz.func212.trans (congrArg some (by kernel_rfl))⟩
  f23 := ⟨Tryz.f213.name, by decide, Tryz.func213.trans (congrArg some (by kernel_rfl))⟩
  f24 := ⟨Tryz.f214.name, by decide, Tryz.func214.trans (congrArg some (by kernel_rfl))⟩
  f25 := ⟨Tryz.f215.name, by decide, Tryz.func215.trans (congrArg some (by kernel_rfl))⟩
  f26 := ⟨Tryz.f216.name, by decide, Tryz.func216.trans (congrArg some (by kernel_rfl))⟩
  f27 := ⟨Tryz.f217.name, by decide, Tryz.func217.trans (congrArg some (by kernel_rfl))⟩
  f28 := Tryz.func218.trans (congrArg some (by kernel_rfl))
  f29 := Tryz.func219.trans (congrArg some (by kernel_rfl))
  f46 := ⟨Tryz.f228.name, by decide, Tryz.func228.trans (congrArg some (by kernel_rfl))⟩
  f47 := Tryz.func229.trans (congrArg some (by kernel_rfl))
  f48 := Tryz.func230.trans (congrArg some (by kernel_rfl))
  f49 := ⟨Tryz.f231.name, by decide, Tryz.func231.trans (congrArg some (by kernel_rfl))⟩
  f50 := ⟨Tryz.f232.name, by decide, Tryz.func232.trans (congrArg some (by kernel_rfl))⟩
  f57 := ⟨Tryz.f241.name, by decide, Tryz.func241.trans (congrArg some (by kernel_rfl))⟩
  t0 := Tryz.underlying0
  a0 := Tryz.isAgg0
  z0 := Tryz.sizeOf0
  v0 := Tryz.zeroValue0
  t3 := Tryz.underlying3
  a3 := Tryz.isAgg3
  z3 := Tryz.sizeOf3
  v3 := Tryz.zeroValue3
  t4 := Tryz.underlying4
  a4 := Tryz.isAgg4
  z4 := Tryz.sizeOf4
  v4 := Tryz.zeroValue4
  t5 := Tryz.underlying5
  a5 := Tryz.isAgg5
  z5 := Tryz.sizeOf5
  v5 := Tryz.zeroValue5
  t9 := Tryz.underlying9
  a9 := Tryz.isAgg9
  z9 := Tryz.sizeOf9
  v9 := Tryz.zeroValue9
  t22 := Tryz.underlying24
  a22 := Tryz.isAgg24
  z22 := Tryz.sizeOf24
  v22 := Tryz.zeroValue24
  a24 := Tryz.isAgg31
  z24 := Tryz.sizeOf31
  t25 := Tryz.underlying210
  a25 := Tryz.isAgg210
  z25 := Tryz.sizeOf210
  v25 := Tryz.zeroValue210
  t39 := Tryz.underlying148
  a39 := Tryz.isAgg148
  z39 := Tryz.sizeOf148
  v39 := Tryz.zeroValue148
  t45 := Tryz.underlying246
  a45 := Tryz.isAgg246
  z45 := Tryz.sizeOf246
  v45 := Tryz.zeroValue246
  t46 := Tryz.underlying247
  a46 := Tryz.isAgg247
  z46 := Tryz.sizeOf247
  v46 := Tryz.zeroValue247
  t50 := Tryz.underlying251
  a50 := Tryz.isAgg251
  z50 := Tryz.sizeOf251
  v50 := Tryz.zeroValue251
  t53 := Tryz.underlying254
  a53 := Tryz.isAgg254
  z53 := Tryz.sizeOf254
  v53 := Tryz.zeroValue254
  t55 := Tryz.underlying199
  a55 := Tryz.isAgg199
  z55 := Tryz.sizeOf199
  v55 := Tryz.zeroValue199
  t66 := Tryz.underlying259
  a66 := Tryz.isAgg259
  z66 := Tryz.sizeOf259
  v66 := Tryz.zeroValue259
  t70 := Tryz.underlying263
  a70 := Tryz.isAgg263
  z70 := Tryz.sizeOf263
  v70 := Tryz.zeroValue263
  t76 := Tryz.underlying267
  a76 := Tryz.isAgg267
  z76 := Tryz.sizeOf267
  v76 := Tryz.zeroValue267
  t77 := Tryz.underlying268
  a77 := Tryz.isAgg268
  z77 := Tryz.sizeOf268
  v77 := Tryz.zeroValue268
end Go.Proofs.YtpjlkefadnbgdaaGreat
